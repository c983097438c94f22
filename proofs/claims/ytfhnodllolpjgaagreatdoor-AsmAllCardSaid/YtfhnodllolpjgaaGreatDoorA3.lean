/- Texts put together. -/
import Derived.Test.YtfhnodllolpjgaaGreatDoorA2
import Derived.Test.YtfhnodllolpjgaaGreatDoorA1
set_option linter.all false
namespace Rv
open Go
def isL(b:UInt8):Bool:=decide (65<=b.toNat/\b.toNat<=90\/97<=b.toNat/\b.toNat<=122\/b.toNat=95)
def isD(b:UInt8):Bool:=decide (48<=b.toNat/\b.toNat<=57)
def isW(b:UInt8):Bool:=isL b||isD b
def aL(s:Str):Str:=s.takeWhile isW
theorem mG{p:Prop}[Decidable p](h:p):some (true,())=some (decide p,()):=by simp[h]
theorem mE{p:Prop}[Decidable p](h:¬p):some (false,())=some (decide p,()):=by simp[h]
theorem mF{p q:Prop}[Decidable p][Decidable q](h:p↔q):some (decide p,())=some (decide q,()):=by simp[h]
theorem letter_eq(b:UInt8):Zdg.g (b.toNat:Int)=some (isL b,()):=by
 unfold Zdg.g Zdg.f isL;simp only[dt,df]
 (repeat' split)<;>first|(refine mG ?_;omega)|(refine mE ?_;omega)|(refine mF ?_;omega)
theorem digit_eq(b:UInt8):Zdr.g (b.toNat:Int)=some (isD b,()):=by
 unfold Zdr.g Zdr.f isD;simp only[dt,df]
 (repeat' split)<;>first|(refine mG ?_;omega)|(refine mE ?_;omega)|(refine mF ?_;omega)
theorem IZ(s:Str)(hs:s.length<=9223372036854775807)(n:Nat):∀(m k:Nat),k<=s.length->s.length-k<m->Zav.l2 n m s (k:Int)=some (s.take (k+(aL (s.drop k)).length),()):=by
 intro m
 induction m with
 |zero=>intro k _ h;omega
 |succ m ih=>
  intro k hk hm;have hend:Zav.j4 n s (k:Int)=some (s.take k,()):=by
   unfold Zav.j4;rw[if_pos (by omega)];simp
  simp only[Zav.l2,dt,df];by_cases hlt:k<s.length
  ·have hd:=bB hlt;have step:Zav.j3 n (Zav.l2 n m) s (k:Int)=some (s.take (k+1+(aL (s.drop (k+1))).length),()):=by
    unfold Zav.j3;rw[w64 (by omega)];exact ih (k+1) (by omega) (by omega)
   rw[if_pos (by omega),if_pos (by omega),gY,letter_eq,Pt];cases hl:isL (s.getD k 0) with
   |true=>
    rw[if_neg (by simp),step,hd];simp only[aL,List.takeWhile_cons,isW,hl,Bool.true_or,if_true,P9];rw[show k+1+((s.drop (k+1)).takeWhile isW).length=k+(((s.drop (k+1)).takeWhile isW).length+1) by omega]
   |false=>
    rw[if_pos rfl,if_pos (by omega),digit_eq,Pt];cases hdg:isD (s.getD k 0) with
    |true=>
     rw[if_pos rfl,step,hd];simp only[aL,List.takeWhile_cons,isW,hl,hdg,Bool.or_true,if_true,P9];rw[show k+1+((s.drop (k+1)).takeWhile isW).length=k+(((s.drop (k+1)).takeWhile isW).length+1) by omega]
    |false=>
     rw[if_neg (by simp),hend,hd];simp only[aL,List.takeWhile_cons,isW,hl,hdg,Bool.or_self,Bool.false_eq_true,if_false,Qp,Nat.add_zero]
  ·have:k=s.length:=by omega
   subst this;rw[if_neg (by omega),hend];simp[aL]
theorem Ei(s:Str)(hs:s.length<=9223372036854775807):Zav.g s=some (aL s,()):=by
 unfold Zav.g Zav.f;have:=IZ s hs (1000+s.length) (1000+s.length) 0 (by omega) (by omega);rw[show((0:Nat):Int)=0 from rfl] at this;rw[this];congr 2;simp only[PV,Nat.zero_add];exact(List.prefix_iff_eq_take.1 (List.takeWhile_prefix isW)).symm
def fQ(c:Int):Int:=if c / 32 % 2=1 then c else c+32
theorem GX:((List.range 256).all fun n=>decide (ay .or .u8 (n:Int) 32=fQ n))=true:=by decide +kernel
theorem lower_eq(b:UInt8):Zat.g (b.toNat:Int)=some (fQ b.toNat,()):=by
 unfold Zat.g Zat.f;have:=PX.1 GX b.toNat (by have:=b.toNat_lt;simpa using this)
 rw[of_decide_eq_true this]
def jm(b:UInt8):Option Nat:=
 if 48<=b.toNat/\b.toNat<=57 then some (b.toNat-48) else if 97<=b.toNat/\b.toNat<=122 then some (b.toNat-87) else if 65<=b.toNat/\b.toNat<=90 then some (b.toNat-55) else none
def bq(base:Nat):Nat->Str->Option Nat
 |n,[]=>some n
 |n,c::r=>match jm c with
  |some d=>if d<base then(if n*base+d<4294967296 then bq base (n*base+d) r else none) else none
  |none=>none
def PuR(o:Option Nat)(r:Option (Int×Option Int×Unit)):Prop:=
 (∀v,o=some v->r=some ((v:Int),none,()))/\(o=none->∃x e,r=some (x,some e,())/\(e=1\/e=2))
theorem PuR.bad{x e:Int}(h:e=1\/e=2):PuR none (some (x,some e,())):=⟨fun _ e=>(by cases e),fun _=>⟨x,e,rfl,h⟩⟩
theorem J3(s:Str)(k:Nat)(h:k<s.length):(s.map fun b=>(b.toNat:Int)).getD ((k:Int)).toNat 0=((s.getD k 0).toNat:Int):=by
 simp[List.getD,h]
theorem Kt{n:Nat}{rl:Int->Bool->Str->Int->Int->Bool->Int->(List Int)->Int->Int->Option (Int×(Option Int)×Unit)}{base d v k:Nat}{s9:Str}{cutoff:Int}{t:List Int}{l:Int}{o:Nat->Option Nat}(hb:base=10\/base=16)(hd:d<36)(hv:v<4294967296)(hc:4294967296<=cutoff)(hk:k<9223372036854775807)
  (hr:∀v,v<4294967296->PuR (o v) (rl base false s9 cutoff 4294967295 false v t l ((k+1:Nat):Int))) :
  PuR (if d<base then(if v*base+d<4294967296 then o (v*base+d) else none) else none) (Zaa.j46 n rl base false s9 cutoff 4294967295 false v d t l k):=by
 unfold Zaa.j46 Zaa.j55;have hm:v*base<68719476736:=by
  rcases hb with rfl|rfl<;>omega
 rw[w8u (by omega),w64 (x:=(k:Int)+1) (by omega),yz (x:=(base:Int)) (by omega),yz (x:=(d:Int)) (by omega)];have e1:((v:Int)*(base:Int))=((v*base:Nat):Int):=by simp
 rw[e1];have hr':=fun h=>hr (v*base+d) h
 generalize v*base=M at *;rw[yz (x:=(M:Int)) (by omega),yz (x:=(M:Int)+d) (by omega)];simp only[dt,df];by_cases h1:d<base
 ·by_cases h2:M+d<4294967296
  ·rw[if_pos h1,if_pos h2,if_neg (by omega),if_neg (by omega),if_pos (by omega),if_neg (by omega)];have:=hr' h2;simpa using this
  ·rw[if_pos h1,if_neg h2,if_neg (by omega),if_neg (by omega),if_pos (by omega),if_pos (by omega)];exact PuR.bad (.inl rfl)
 ·rw[if_neg h1,if_pos (by omega)];exact PuR.bad (.inr rfl)
theorem MW(s s9:Str)(base:Nat)(cutoff:Int)(hb:base=10\/base=16)(hc:4294967296<=cutoff)(hs:s.length<9223372036854775807)(n:Nat):∀(m k v:Nat),k<=s.length->s.length-k<m->v<4294967296 ->
  PuR (bq base v (s.drop k)) (Zaa.l36 n m base false s9 cutoff 4294967295 false v (s.map fun b=>(b.toNat:Int)) ((s.map fun b=>(b.toNat:Int)).length:Int) k):=by
 intro m
 induction m with
 |zero=>intro k v _ h;omega
 |succ m ih=>
  intro k v hk hm hv;simp only[Zaa.l36,dt,df];by_cases hlt:k<s.length
  ·have hl:k<(s.map fun b=>(b.toNat:Int)).length:=by simpa using hlt
   rw[if_pos (by omega),if_pos (by omega),bB hlt];simp only[J3 s k hlt,lower_eq,Pt,Bool.false_eq_true,if_false];have step:∀d,jm (s.getD k 0)=some d->d<36->PuR (bq base v (s.getD k 0::s.drop (k+1))) (Zaa.j46 n (Zaa.l36 n m) base false s9 cutoff 4294967295 false v d (s.map fun b=>(b.toNat:Int)) ((s.map fun b=>(b.toNat:Int)).length:Int) k):=by
    intro d hd hd36;simp only[bq,hd];exact Kt (o:=fun v=>bq base v (s.drop (k+1))) hb hd36 hv hc (by omega) fun v hv=>ih (k+1) v (by omega) (by omega) hv
   have bad:jm (s.getD k 0)=none->PuR (bq base v (s.getD k 0::s.drop (k+1))) (some ((0:Int),some (2:Int),())):=by
    intro hd;simp only[bq,hd];exact PuR.bad (.inr rfl)
   generalize hbb:s.getD k 0=b at *;have hb1:=xO b;have dig1:(48:Int)<=b.toNat->(b.toNat:Int)<=57->jm b=some (b.toNat-48):=fun h1 h2=>by unfold jm;rw[if_pos (by omega)]
   have dig2:¬((48:Int)<=b.toNat/\(b.toNat:Int)<=57)->(97:Int)<=fQ b.toNat->fQ b.toNat<=(122:Int)->∃d,jm b=some d/\d<36/\IntKind.u8.wrap (IntKind.u8.wrap (fQ b.toNat-97)+10)=(d:Int):=fun h1 h2 h3=>by
    rw[w8u (x:=fQ b.toNat-97) (by omega),w8u (by omega)];unfold fQ at h2 h3⊢;unfold jm;rw[if_neg (by omega)];split at h2;·rw[if_pos (by omega)] at h3;rw[if_pos (by omega),if_pos (by omega)];exact⟨_,rfl,by omega,by omega⟩
    ·rw[if_neg (by omega)] at h3;rw[if_neg (by omega),if_pos (by omega),if_neg (by omega)];exact⟨_,rfl,by omega,by omega⟩
   have dig3:¬((48:Int)<=b.toNat/\(b.toNat:Int)<=57)->¬((97:Int)<=fQ b.toNat/\fQ b.toNat<=(122:Int))->jm b=none:=fun h1 h2=>by
    unfold fQ at h2;unfold jm;rw[if_neg (by omega)];split at h2;·rw[if_neg (by omega),if_neg (by omega)]
    ·rw[if_neg (by omega),if_neg (by omega)]
   have wr:(48:Int)<=b.toNat->(b.toNat:Int)<=57->IntKind.u8.wrap ((b.toNat:Int)-48)=((b.toNat-48:Nat):Int):=fun h1 h2=>by rw[w8u (by omega)];omega
   have lets:¬((48:Int)<=b.toNat/\(b.toNat:Int)<=57)->PuR (bq base v (b::s.drop (k+1))) (if(97:Int)<=fQ b.toNat then(if fQ b.toNat<=(122:Int) then Zaa.j46 n (Zaa.l36 n m) base false s9 cutoff 4294967295 false v (IntKind.u8.wrap (IntKind.u8.wrap (fQ b.toNat-97)+10)) (s.map fun b=>(b.toNat:Int)) ((s.map fun b=>(b.toNat:Int)).length:Int) k
     else some ((0:Int),some (2:Int),())) else some ((0:Int),some (2:Int),())):=by
    intro h0;by_cases h1:(97:Int)<=fQ b.toNat
    ·rw[if_pos h1];by_cases h2:fQ b.toNat<=(122:Int)
     ·rw[if_pos h2];obtain⟨d,hd,hd36,he⟩:=dig2 h0 h1 h2;rw[he];exact step d hd hd36
     ·rw[if_neg h2];exact bad (dig3 h0 fun h=>h2 h.2)
    ·rw[if_neg h1];exact bad (dig3 h0 fun h=>h1 h.1)
   have rest:PuR (bq base v (b::s.drop (k+1))) (if(48:Int)<=b.toNat then(if(b.toNat:Int)<=57 then Zaa.j46 n (Zaa.l36 n m) base false s9 cutoff 4294967295 false v (IntKind.u8.wrap ((b.toNat:Int)-48)) (s.map fun b=>(b.toNat:Int)) ((s.map fun b=>(b.toNat:Int)).length:Int) k
     else(if(97:Int)<=fQ b.toNat then(if fQ b.toNat<=(122:Int) then Zaa.j46 n (Zaa.l36 n m) base false s9 cutoff 4294967295 false v (IntKind.u8.wrap (IntKind.u8.wrap (fQ b.toNat-97)+10)) (s.map fun b=>(b.toNat:Int)) ((s.map fun b=>(b.toNat:Int)).length:Int) k
     else some ((0:Int),some (2:Int),())) else some ((0:Int),some (2:Int),())))
     else(if(97:Int)<=fQ b.toNat then(if fQ b.toNat<=(122:Int) then Zaa.j46 n (Zaa.l36 n m) base false s9 cutoff 4294967295 false v (IntKind.u8.wrap (IntKind.u8.wrap (fQ b.toNat-97)+10)) (s.map fun b=>(b.toNat:Int)) ((s.map fun b=>(b.toNat:Int)).length:Int) k
     else some ((0:Int),some (2:Int),())) else some ((0:Int),some (2:Int),()))):=by
    by_cases h1:(48:Int)<=b.toNat
    ·rw[if_pos h1];by_cases h2:(b.toNat:Int)<=57
     ·rw[if_pos h2,wr h1 h2];exact step _ (dig1 h1 h2) (by omega)
     ·rw[if_neg h2];exact lets fun h=>h2 h.2
    ·rw[if_neg h1];exact lets fun h=>h1 h.1
   split;·exact rest
   ·exact rest
  ·have:k=s.length:=by omega
   subst this;rw[if_neg (by simp),PZ];simp only[Bool.false_eq_true,if_false];exact⟨fun v' e=>by simp only[bq,Pv] at e;rw[e],fun e=>by simp[bq] at e⟩
theorem CV(s:Str)(base:Nat)(hb:base=10\/base=16)(hs:s.length<9223372036854775807):PuR (if s=[] then none else bq base 0 s) (Zaa.g s base 32):=by
 unfold Zaa.g Zaa.f;simp only[dt,df];by_cases h0:s=[]
 ·rw[if_pos h0,if_pos h0];exact PuR.bad (.inr rfl)
 ·rw[if_neg h0,if_neg h0,if_pos (by omega),if_pos (by omega)];have hb0:decide ((base:Int)=0)=false:=by simp;omega
  rw[hb0];unfold Zaa.j21;simp only[dt,df];rw[if_neg (by omega),if_pos (by omega),if_neg (by omega)];unfold Zaa.j25;simp only[dt,df];have fin:∀cutoff:Int,4294967296<=cutoff->PuR (bq base 0 s) (Zaa.j32 (1000+s.length+(base:Int).toNat+(32:Int).toNat) s base 32 false s cutoff):=by
   intro cutoff hc;unfold Zaa.j32;have e1:IntKind.u64.wrap 32=32:=yz (by omega);rw[e1,if_neg (by omega)];have e2:IntKind.u64.wrap (IntKind.u64.wrap (1*2 ^ min (32:Int).toNat IntKind.u64.bits)-1)=4294967295:=by decide
   rw[e2];have:=MW s s base cutoff hb hc hs (1000+s.length+(base:Int).toNat+(32:Int).toNat) (1000+s.length+(base:Int).toNat+(32:Int).toNat) 0 0 (by omega) (by omega) (by omega);simpa using this
  rcases hb with rfl|rfl;·rw[if_pos (by omega)];exact fin _ (by omega)
  ·rw[if_neg (by omega),if_pos (by omega)];exact fin _ (by omega)
theorem Kn(s:Str)(base:Nat)(hb:base=10\/base=16)(hs:s.length<=281474976710656):(∀v,(if s=[] then none else bq base 0 s)=some v->Zdh.g s base 32=some ((v:Int),true,())) /\
  ((if s=[] then none else bq base 0 s)=none->∃x,Zdh.g s base 32=some (x,false,())):=by
 obtain⟨h1,h2⟩:=CV s base hb (by omega);refine⟨fun v hv=>?_,fun hn=>?_⟩;·unfold Zdh.g Zdh.f;rw[h1 v hv];rfl
 ·obtain⟨x,e,he,hc⟩:=h2 hn;unfold Zdh.g Zdh.f;rw[he];simp only[Pt,Option.isNone_some,Bool.not_false,if_true,L.toErrorO,Pv];rw[if_pos ⟨hs,hc⟩];exact⟨x,rfl⟩
theorem rO:∀{s:Str}{c:UInt8},Lib.contains s [c]=true->c∈s
 |[],c,h=>by simp[Lib.contains,Lib.index] at h
 |b::l,c,h=>by
  by_cases hb:c=b;·simp[hb]
  ·have:Lib.contains l [c]=true:=by
    simp only[Lib.contains,Lib.index,List.isPrefixOf,Bool.and_true,beq_iff_eq,Px] at h⊢;rw[if_neg hb] at h;split at h;·omega
    ·have:=Lib.index_ge l [c];rename_i hne;have:¬Lib.index l [c]=-1:=by simpa using hne
     omega
   exact PQ _ (rO this)
theorem uS{base:Nat}:∀{s:Str}{v:Nat},(95:UInt8)∈s->bq base v s=none
 |[],_,h=>by cases h
 |c::r,v,h=>by
  simp only[bq];rcases PM.1 h with h|h
  ·rw[<- h];have:jm 95=none:=by decide
   rw[this]
  ·(repeat' split)<;>first|rfl|exact uS h
theorem qw{base:Nat}:∀{s:Str}{v w:Nat},v<4294967296->bq base v s=some w->w<4294967296
 |[],_,_,hv,h=>by simp only[bq,Pv] at h;omega
 |c::r,v,w,hv,h=>by
  simp only[bq] at h;split at h
  ·split at h
   ·split at h
    ·exact qw (by assumption) h
    ·cases h
   ·cases h
  ·cases h
def num(s:Str):Option Nat:=
 if([48,120]:Str).isPrefixOf s then(if s.drop 2=[] then none else bq 16 0 (s.drop 2)) else if s=[] then none else bq 10 0 s
theorem N7{s:Str}{v:Nat}(h:num s=some v):v<4294967296:=by
 unfold num at h;split at h<;>split at h<;>first|(cases h;done)|exact qw (by omega) h
theorem uT(s:Str)(base:Nat)(n:Nat)(hb:base=10\/base=16)(hs:s.length<=1000000) :
  (∀v,(if s=[] then none else bq base 0 s)=some v->Zch.j5 n s base=some ((v:Int),true,()))/\((if s=[] then none else bq base 0 s)=none->∃x,Zch.j5 n s base=some (x,false,())):=by
 have hcO:L.containsO s [95]=some (Lib.contains s [95],()):=by unfold L.containsO;rw[if_pos (by omega)]
 unfold Zch.j5;rw[hcO,Pt];obtain⟨h1,h2⟩:=Kn s base hb (by omega);by_cases hc:Lib.contains s [95]=true
 ·simp only[hc,if_true];have hm:=rO hc;have hne:s≠[]:=by rintro rfl;cases hm
  rw[if_neg hne,uS hm];exact⟨fun v e=>(by cases e),fun _=>⟨_,rfl⟩⟩
 ·simp only[hc,Bool.false_eq_true,if_false];refine⟨fun v hv=>?_,fun hn=>?_⟩
  ·have hlt:v<4294967296:=by
    split at hv;·cases hv
    ·exact qw (by omega) hv
   rw[h1 v hv,Pt,OA (by omega)]
  ·obtain⟨x,hx⟩:=h2 hn;rw[hx,Pt];exact⟨_,rfl⟩
theorem number_eq(s:Str)(hs:s.length<=1000000):(∀v,num s=some v->Zch.g s=some ((v:Int),true,()))/\(num s=none->∃x,Zch.g s=some (x,false,())):=by
 unfold Zch.g Zch.f num L.cutIs L.cutRest Lib.trimPrefix Lib.hasPrefix;by_cases hp:([48,120]:Str).isPrefixOf s=true;·simp only[hp,if_true];exact uT (s.drop 2) 16 _ (.inr rfl) (by simp;omega)
 ·have hp':([48,120]:Str).isPrefixOf s=false:=Bool.eq_false_iff.2 hp;simp only[hp',Bool.false_eq_true,if_false];exact uT s 10 _ (.inl rfl) hs
abbrev Tok:=Int×Int×Str×Int×Unit
def isS(c:UInt8):Bool:=([44,58,43,45,42,40,41,61]:Str).contains c
def nU(c:UInt8)(r:Str):Except Int (Nat×Int×Str×Int):=
 if isL c then .ok (0,1,aL (c::r),0)
 else if isD c then match num (aL (c::r)) with
  |some v=>.ok (0,2,aL (c::r),v)
  |none=>.error 21
 else if c=46/\(∃d∈r.head?,isL d) then .ok (1,4,aL r,0)
 else if isS c then .ok (0,3,[c],0)
 else .error 20
def aX(k:Int):Str->Except Int (List Tok)
 |[]=>.ok []
 |c::r=>
  if c=59 then .ok []
  else if c=32\/c=9 then aX (k+1) r
  else match nU c r with
   | .error e=>.error e
   | .ok (d,q,t,v)=>match aX (k+d+t.length) (r.drop (d+t.length-1)) with
    | .error e=>.error e
    | .ok l=>.ok ((q,k,t,v,())::l)
termination_by s=>s.length
decreasing_by
 all_goals simp
 all_goals omega
theorem lg(k:Int):aX k []=.ok []:=by rw[aX]
theorem jQ(k:Int)(c:UInt8)(r:Str):aX k (c::r)=if c=59 then .ok [] else if c=32\/c=9 then aX (k+1) r else match nU c r with
   | .error e=>.error e
   | .ok (d,q,t,v)=>match aX (k+d+t.length) (r.drop (d+t.length-1)) with
    | .error e=>.error e
    | .ok l=>.ok ((q,k,t,v,())::l):=by rw[aX]
theorem KV:((List.range 256).all fun n=>decide ((0<=L.indexByte ([44,58,43,45,42,40,41,61]:Str) (n:Int))=(isS (UInt8.ofNat n)=true)))=true:=by decide +kernel
theorem Nk(b:UInt8):(0<=L.indexByte ([44,58,43,45,42,40,41,61]:Str) (b.toNat:Int))=(isS b=true):=by
 have:=PX.1 KV b.toNat (by have:=b.toNat_lt;simpa using this)
 have h:=of_decide_eq_true this;simpa using h
def aH(out:List Tok):Except Int (List Tok)->List Tok×Int×Unit
 | .ok l=>(out++l,0,())
 | .error e=>([],e,())
theorem sw(out:List Tok)(t:Tok)(x:Except Int (List Tok)):aH (out++[t]) x=aH out (match x with | .error e=>.error e | .ok l=>.ok (t::l)):=by
 cases x<;>simp[aH]
theorem lu(s:Str):(aL s).length<=s.length:=(List.takeWhile_prefix isW).length_le
theorem l9{c:UInt8}{r:Str}(h:isW c=true):1<=(aL (c::r)).length:=by
 simp[aL,List.takeWhile_cons,h]
theorem GV(s:Str)(hs:s.length<=1000000)(n:Nat):∀(m k:Nat) (out:List Tok),k<=s.length->s.length-k<m->out.length<=k->Zao.g0 n m s out (k:Int)=some (aH out (aX k (s.drop k))):=by
 intro m
 induction m with
 |zero=>intro k out _ h;omega
 |succ m ih=>
  intro k out hk hm hout;have e1:IntKind.i64.wrap ((k:Int)+1)=((k+1:Nat):Int):=by rw[w64 (by omega)];omega
  by_cases hlt:k<s.length
  ·have tok:∀(d:Nat) (q:Int) (t:Str) (v:Int),1<=d+t.length->k+d+t.length<=s.length->Zao.j23 n (Zao.g0 n m) s out ((k+d:Nat):Int) q (k:Int) t v=some (aH out (match aX ((k:Int)+d+t.length) ((s.drop (k+1)).drop (d+t.length-1)) with
     | .error e=>.error e
     | .ok l=>.ok ((q,k,t,v,())::l))):=by
    intro d q t v h1 h2;unfold Zao.j23;rw[if_pos (by simp;omega),w64 (by omega)];have:=ih (k+d+t.length) (out++[(q,(k:Int),t,v,())]) h2 (by omega) (by simp;omega);rw[sw] at this;rw[show((k+d:Nat):Int)+(t.length:Int)=((k+d+t.length:Nat):Int) by omega,List.drop_drop,show k+1+(d+t.length-1)=k+d+t.length by omega,show(k:Int)+(d:Int)+(t.length:Int)=((k+d+t.length:Nat):Int) by omega];exact this
   have tok0:=fun q t v h1 h2=>tok 0 q t v h1 h2
   simp only[Nat.add_zero,Nat.zero_add] at tok0;have tok1:=fun q t v h1 h2=>tok 1 q t v h1 h2
   have skip:Zao.g0 n m s out ((k+1:Nat):Int)=some (aH out (aX ((k:Int)+1) (s.drop (k+1)))):=by
    rw[show(k:Int)+1=((k+1:Nat):Int) by omega];exact ih (k+1) out (by omega) (by omega) (by omega)
   rw[bB hlt,jQ];simp only[Zao.g0,dt,df];simp only[e1,gY,letter_eq,digit_eq,Pt,PG,List.take_length,Nk];rw[if_pos (by omega),if_pos (by omega)];have hw0:=Ei (s.drop k) (by simp;omega);have hw1:=Ei (s.drop (k+1)) (by simp;omega);rw[hw0,hw1,bB hlt];have hl0:=lu (s.drop k);have hl1:=lu (s.drop (k+1));rw[bB hlt] at hl0;have hd0:(s.drop (k+1)).length=s.length-(k+1):=by simp
   have hd1:(s.getD k 0::s.drop (k+1)).length=s.length-k:=by simp;omega
   have hsign:(s.take (k+1)).drop k=[s.getD k 0]:=by
    rw[List.drop_take,bB hlt];simp[show k+1-k=1 by omega]
   have hhead:(∃d∈(s.drop (k+1)).head?,isL d=true)↔k+1<s.length/\isL (s.getD (k+1) 0)=true:=by
    by_cases h:k+1<s.length;·rw[bB h];simp[h]
    ·rw[List.drop_eq_nil_of_le (by omega)];simp[h]
   have hwp:=@l9 (s.getD k 0) (s.drop (k+1));have hwq:k+1<s.length->isL (s.getD (k+1) 0)=true->1<=(aL (s.drop (k+1))).length:=fun h h'=>by
    rw[bB h];exact l9 (by unfold isW;rw[h'];rfl)
   rw[hsign];have b59:(((s.getD k 0).toNat:Int)=59)=(s.getD k 0=59):=dD _ 59 (by decide);have b32:(((s.getD k 0).toNat:Int)=32)=(s.getD k 0=32):=dD _ 32 (by decide);have b9:(((s.getD k 0).toNat:Int)=9)=(s.getD k 0=9):=dD _ 9 (by decide);have b46:(((s.getD k 0).toNat:Int)=46)=(s.getD k 0=46):=dD _ 46 (by decide);generalize s.getD k 0=b at *;by_cases h59:b=59;·rw[if_pos (by rw[h59];rfl),if_pos h59];simp[aH]
   ·rw[if_neg (fun h=>h59 (b59.mp h)),if_neg h59,if_pos (by omega)];by_cases h32:b=32
    ·rw[if_neg (fun h=>h (b32.mpr h32)),if_pos (.inl h32)];exact skip
    ·rw[if_pos (fun h=>h32 (b32.mp h))];by_cases h9:b=9
     ·rw[if_pos (b9.mpr h9),if_pos (.inr h9)];exact skip
     ·rw[if_neg (fun h=>h9 (b9.mp h)),if_neg (show ¬(b=32\/b=9) from fun h=>h.elim h32 h9)];unfold nU;by_cases hL:isL b=true
      ·rw[if_pos hL,if_pos hL,if_pos (by omega)];simp only[Pt];rw[tok0 _ _ _ (hwp (by simp[isW,hL])) (by omega)];simp
      ·rw[if_neg hL,if_neg hL];by_cases hD:isD b=true
       ·rw[if_pos hD,if_pos hD,if_pos (by omega)];simp only[Pt];obtain⟨h1,h2⟩:=number_eq (aL (b::s.drop (k+1))) (by omega);cases hn:num (aL (b::s.drop (k+1))) with
        |none=>
         obtain⟨x,hx⟩:=h2 hn;rw[hx];simp[aH]
        |some v=>
         rw[h1 v hn];simp only[Pt,Bool.not_true,Bool.false_eq_true,if_false];rw[tok0 _ _ _ (hwp (by simp[isW,hD])) (by omega)];simp
       ·rw[if_neg hD,if_neg hD];have sgn:(if isS b=true then(if 0<=((k+1:Nat):Int)/\((k+1:Nat):Int)<=(s.length:Int) then(if 0<=(k:Int)/\(k:Int)<=((k+1:Nat):Int) then Zao.j23 n (Zao.g0 n m) s out k 3 k [b] 0 else none) else none) else some ([],20,())) =
          some (aH out (match (if isS b=true then Except.ok (0,3,[b],0) else Except.error 20:Except Int (Nat×Int×Str×Int)) with
           | .error e=>.error e
           | .ok (d,q,t,v)=>match aX (k+d+t.length) ((s.drop (k+1)).drop (d+t.length-1)) with
            | .error e=>.error e
            | .ok l=>.ok ((q,k,t,v,())::l))):=by
         by_cases hS:isS b=true;·rw[if_pos hS,if_pos hS,if_pos (by omega),if_pos (by omega),tok0 _ _ _ (by simp) (by simp;omega)];simp
         ·rw[if_neg hS,if_neg hS];simp[aH]
        by_cases h46:b=46
        ·rw[if_pos (b46.mpr h46)];by_cases hk1:k+1<s.length
         ·rw[if_pos (by omega),if_pos (by omega)];by_cases hL1:isL (s.getD (k+1) 0)=true
          ·rw[if_pos hL1,if_pos (by omega),if_pos ⟨h46,hhead.mpr ⟨hk1,hL1⟩⟩];simp only[Pt];have:=hwq hk1 hL1;rw[tok1 _ _ _ (by omega) (by omega)]
          ·rw[if_neg hL1,if_neg (show ¬(b=46/\∃d∈(s.drop (k+1)).head?,isL d=true) from fun h=>hL1 (hhead.mp h.2).2)];exact sgn
         ·rw[if_neg (by omega),if_neg (show ¬(b=46/\∃d∈(s.drop (k+1)).head?,isL d=true) from fun h=>hk1 (hhead.mp h.2).1)];exact sgn
        ·rw[if_neg (fun h=>h46 (b46.mp h)),if_neg (show ¬(b=46/\∃d∈(s.drop (k+1)).head?,isL d=true) from fun h=>h46 h.1)];exact sgn
  ·have:k=s.length:=by omega
   subst this;simp only[Zao.g0,dt,df];rw[if_neg (by omega),PZ,lg];simp[aH]
theorem MH(s:Str)(hs:s.length<=1000000):Zao.g s=some (aH [] (aX 0 s)):=by
 unfold Zao.g Zao.f;have:=GV s hs (1000+s.length) (1000+s.length) 0 [] (by omega) (by omega) (by simp);simpa using this
end Rv
namespace Rv
open Go
def shift(j:Int)(t:Tok):Tok:=(t.1,t.2.1+j,t.2.2)
theorem zy{s:Str}:(59:UInt8) ∉ s.takeWhile isW:=by
 intro h;have h1:(s.takeWhile isW).all isW=true:=List.all_takeWhile;have:=PX.1 h1 59 h;exact absurd this (by decide)
theorem zZ(s:Str):s.take (s.takeWhile isW).length=s.takeWhile isW:=(List.prefix_iff_eq_take.1 (List.takeWhile_prefix isW)).symm
theorem Lb{c:UInt8}{r:Str}{d:Nat}{q:Int}{t:Str}{v:Int}(h:nU c r=.ok (d,q,t,v)):1<=d+t.length/\d+t.length-1<=r.length/\(59:UInt8) ∉ r.take (d+t.length-1):=by
 have wc:isW c=true->1<=0+(aL (c::r)).length/\0+(aL (c::r)).length-1<=r.length/\(59:UInt8) ∉ r.take (0+(aL (c::r)).length-1):=by
  intro hc;have:aL (c::r)=c::r.takeWhile isW:=by simp[aL,List.takeWhile_cons,hc]
  rw[this];have hl:=(List.takeWhile_prefix isW (l:=r)).length_le;simp only[P9];refine⟨by omega,by omega,?_⟩;rw[show 0+((r.takeWhile isW).length+1)-1=(r.takeWhile isW).length by omega,zZ];exact zy
 unfold nU at h;split at h;·rename_i hL;simp only[Except.ok.injEq,PE] at h;obtain⟨rfl,rfl,rfl,rfl⟩:=h;exact wc (by simp[isW,hL])
 ·split at h
  ·rename_i hD;split at h
   ·simp only[Except.ok.injEq,PE] at h;obtain⟨rfl,rfl,rfl,rfl⟩:=h;exact wc (by simp[isW,hD])
   ·cases h
  ·split at h
   ·simp only[Except.ok.injEq,PE] at h;obtain⟨rfl,rfl,rfl,rfl⟩:=h;have hl:=lu r;refine⟨by omega,by omega,?_⟩;rw[show 1+(aL r).length-1=(r.takeWhile isW).length by unfold aL;omega,zZ];exact zy
   ·split at h
    ·simp only[Except.ok.injEq,PE] at h;obtain⟨rfl,rfl,rfl,rfl⟩:=h;simp
    ·cases h
theorem sD:∀(n:Nat) (k:Int) (s:Str) (l:List Tok),s.length<=n->aX k s=.ok l->l.length<=s.length
 |_,k,[],l,_,h=>by rw[lg] at h;cases h;simp
 |0,k,c::r,l,hn,_=>by simp at hn
 |n+1,k,c::r,l,hn,h=>by
  simp only[P9] at hn⊢;rw[jQ] at h;split at h;·cases h;simp
  ·split at h
   ·have:=sD n (k+1) r l (by omega) h;omega
   ·split at h
    ·cases h
    ·split at h
     ·cases h
     ·rename_i l' hl;cases h;have:=sD n _ _ l' (by simp;omega) hl;simp at this⊢;omega
theorem CE{k:Int}{s:Str}:(aH [] (aX k s)).1.length<=s.length:=by
 cases h:aX k s with
 |error e=>simp[aH]
 |ok l=>simpa[aH] using sD s.length k s l (PI _) h
end Rv
namespace Rv
open Go
end Rv
namespace Rv
open Go
theorem Ar:((List.range 12).all fun k=>isW ((([97,98,99,88,89,90,95,48,49,57,82,109]:Str).take (k+1)).drop k).head!&&decide (((([97,98,99,88,89,90,95,48,49,57,82,109]:Str).take (k+1)).drop k).length=1))=true:=by decide +kernel
theorem Cu{Q:UInt8->Prop}(s:Str)(hs:s.length<=9223372036854775807)(n:Nat):∀(m i:Nat) (out:Str),i<=s.length->6-i<m->i<=6->out.length=i+1->(∃c r,out=c::r/\Q c)->out.all isW=true ->
  ∃r,Zay.l4 n m s ([97,98,99,88,89,90,95,48,49,57,82,109]:Str) out (i:Int)=some (r,())/\(∃c t,r=c::t/\Q c)/\r.all isW=true/\r.length<=7/\r.length<=s.length+1:=by
 intro m
 induction m with
 |zero=>intro i out _ h;omega
 |succ m ih=>
  intro i out hi hm h6 hl hh ha;simp only[Zay.l4,dt];by_cases h1:i<s.length
  ·rw[if_pos (by omega)];by_cases h2:i<6
   ·rw[if_pos (by omega),if_pos (by omega),if_pos (by omega),gY];have hb:=xO (s.getD i 0);generalize s.getD i 0=b at *;have e0:Int.tmod (IntKind.i64.wrap (b.toNat:Int)) 12=((b.toNat % 12:Nat):Int):=by
     rw[w64 (by omega)];have:Int.tmod (b.toNat:Int) 12=(b.toNat:Int) % 12:=Qa (by omega);rw[this];omega
    rw[e0];have hk:b.toNat % 12<12:=Nat.mod_lt _ (by omega);generalize b.toNat % 12=k at *;rw[w64 (x:=(k:Int)+1) (by omega),w64 (x:=(i:Int)+1) (by omega),show(k:Int)+1=((k+1:Nat):Int) by omega,show(i:Int)+1=((i+1:Nat):Int) by omega,PG,PG];have hf:=PX.1 Ar k (by simpa using hk);simp only[Pz,Px] at hf;obtain⟨f1,f2⟩:=hf;generalize ((([97,98,99,88,89,90,95,48,49,57,82,109]:Str).take (k+1)).drop k)=w at *;obtain⟨c,rfl⟩:∃c,w=[c]:=by
     match w,f2 with
     |[c],_=>exact⟨c,rfl⟩
    rw[if_pos ⟨by omega,by simp only[P9,Qp];omega⟩,if_pos ⟨by omega,by omega⟩,if_pos (by simp;omega)];refine ih (i+1) (out++[c]) (by omega) (by omega) (by omega) (by simp;omega) ?_ ?_
    ·obtain⟨a,r,rfl,h⟩:=hh;exact⟨a,r++[c],rfl,h⟩
    ·have f1:isW c=true:=f1;rw[List.all_append,ha,Qq,f1];rfl
   ·rw[if_neg (by omega)];exact⟨out,rfl,hh,ha,by omega,by omega⟩
  ·rw[if_neg (by omega)];exact⟨out,rfl,hh,ha,by omega,by omega⟩
theorem wQ{Q:UInt8->Prop}(s:Str)(hs:s.length<=9223372036854775807)(n m i:Nat)(out:Str)(h1:i<=s.length)(h2:6-i<m)(h3:i<=6)(h4:out.length=i+1)(h5:∃c r,out=c::r/\Q c)(h6:out.all isW=true) :
  ∃r,Zay.l4 n m s ([97,98,99,88,89,90,95,48,49,57,82,109]:Str) out (i:Int)=some (r,())/\(∃c t,r=c::t/\Q c)/\r.all isW=true/\r.length<=7:=by
 obtain⟨r,g1,g2,g3,g4,_⟩:=Cu s hs n m i out h1 h2 h3 h4 h5 h6;exact⟨r,g1,g2,g3,g4⟩
def isH(c:UInt8):Prop:=isL c=true/\c≠82/\isD c=false
theorem Gz(s:Str)(hs:s.length<=9223372036854775807):∃r,Zay.g s=some (r,())/\(∃c t,r=c::t/\isH c/\(s.length<=6->c≠122))/\r.all isW=true/\r.length<=7:=by
 unfold Zay.g Zay.f;have e1:Int.tmod (s.length:Int) 26=((s.length % 26:Nat):Int):=by
  have:Int.tmod (s.length:Int) 26=(s.length:Int) % 26:=Qa (by omega);rw[this];omega
 have hk:s.length % 26<26:=Nat.mod_lt _ (by omega);rw[e1];have e2:IntKind.u8.wrap (97+IntKind.u8.wrap ((s.length % 26:Nat):Int))=((97+s.length % 26:Nat):Int):=by
  rw[w8u (x:=((s.length % 26:Nat):Int)) (by omega),w8u (by omega)];omega
 rw[e2];have hb:bytesOf [((97+s.length % 26:Nat):Int)]=[UInt8.ofNat (97+s.length % 26)]:=rfl;rw[hb];have hn:(UInt8.ofNat (97+s.length % 26)).toNat=97+s.length % 26:=by rw[UInt8.toNat_ofNat',Nat.mod_eq_of_lt (by omega)]
 have hL:isL (UInt8.ofNat (97+s.length % 26))=true:=by unfold isL;rw[hn];simp;omega
 have hne:UInt8.ofNat (97+s.length % 26)≠82:=fun e=>by have:=congrArg UInt8.toNat e;rw[hn] at this;simp at this;omega
 have hD:isD (UInt8.ofNat (97+s.length % 26))=false:=by unfold isD;rw[hn,decide_eq_false_iff_not];omega
 have hz:s.length<=6->UInt8.ofNat (97+s.length % 26)≠122:=fun h6 e=>by have:=congrArg UInt8.toNat e;rw[hn] at this;simp at this;omega
 exact wQ (Q:=fun c=>isH c/\(s.length<=6->c≠122)) s hs (1000+s.length) (1000+s.length) 0 _ (by omega) (by omega) (by omega) rfl ⟨_,_,rfl,⟨hL,hne,hD⟩,hz⟩ (by rw[Qq,isW,hL];rfl)
end Rv
namespace Rv
open Go
def fo(s:Str):Bool:=decide (s.getD 0 0=82)&&(decide (s.length=2)||decide (s.length=3))&&(s.drop 1).all isD
def aK(s:Str):Bool:=decide (s≠[])&&decide (s.length<=12)&&!isD (s.getD 0 0)&&s.all isW&&!fo s
def EQ(b:Int):Bool:=
 if ay .or .u8 b 32<97\/122<ay .or .u8 b 32\/b<65 then decide (b=95)||(!decide (b<48)&&!decide (57<b)) else true
theorem JQ:((List.range 256).all fun k=>EQ k == isW (UInt8.ofNat k))=true:=by decide +kernel
theorem MC(b:UInt8):EQ b.toNat=isW b:=by
 have h:=PX.1 JQ b.toNat (by simp;exact b.toNat_lt)
 simpa using h
theorem Hq(p:Prop):p=True\/p=False:=(Classical.em p).imp eq_true eq_false
theorem ET(s:Str)(n m:Nat)(i:Nat)(h1:i<s.length)(X:Option (Bool×Unit))(hX:Zaf.j9 n (Zaf.l4 n m) s (s.length:Int) (i:Int)=X) :
  Zaf.l4 n (m+1) s (s.length:Int) (i:Int)=if EQ (bt s i)=true then X else some (false,()):=by
 have hc:(0:Int)<=i/\(i:Int)<s.length:=by omega
 have hc2:(i:Int)<s.length:=hc.2;simp only[Zaf.l4,dt,df,hX,EQ];by_cases a1:ay .or .u8 (bt s i) 32<97<;>by_cases a2:122<ay .or .u8 (bt s i) 32<;>by_cases a3:bt s i<65<;>rcases Hq (bt s i=95) with a4|a4<;>by_cases a5:bt s i<48<;>by_cases a6:57<bt s i<;>
  simp only[hc,hc2,a1,a2,a3,a4,a5,a6,if_true,if_false,not_true_eq_false,not_false_eq_true,ne_eq,true_or,or_true,or_false,false_or,or_self,and_self,true_and,decide_true,decide_false,Bool.true_or,Bool.false_or,Bool.not_true,Bool.not_false,Bool.and_true,Bool.and_false,Bool.false_and,Bool.true_and,Bool.or_self,Bool.or_false,Bool.or_true,Bool.false_eq_true]
theorem ES(s:Str)(hs:s.length<=12)(n:Nat):∀(m i:Nat),i<=s.length->s.length-i<m ->
  Zaf.l4 n m s (s.length:Int) (i:Int)=if(s.drop i).all isW=true then Zaf.l4 n 1 s (s.length:Int) (s.length:Int) else some (false,()):=by
 intro m
 induction m with
 |zero=>intro i _ h;omega
 |succ m ih=>
  intro i hi hm;by_cases h1:i<s.length
  ·have hnext:Zaf.j9 n (Zaf.l4 n m) s (s.length:Int) (i:Int)=if(s.drop (i+1)).all isW=true then Zaf.l4 n 1 s (s.length:Int) (s.length:Int) else some (false,()):=by
    unfold Zaf.j9;rw[w64 (by omega),show(i:Int)+1=((i+1:Nat):Int) by omega];exact ih (i+1) (by omega) (by omega)
   rw[ET s n m i h1 _ hnext,gY,MC,bB h1,Qq];cases hw:isW (s.getD i 0);·rfl
   ·rw[if_pos rfl,Bool.true_and]
  ·have hi':i=s.length:=by omega
   subst hi';rw[PZ,List.all_nil,if_pos rfl];have hlt:¬((s.length:Int)<s.length):=by omega
   simp only[Zaf.l4,dt,hlt,if_false]
theorem Gl(b:UInt8):L.isDig b=isD b:=by simp[L.isDig,isD]
theorem oJ{p:UInt8->Bool}:∀{l:Str}{a:UInt8}{r:Str},l.dropWhile p=a::r->p a=false
 |[],_,_,h=>by simp at h
 |b::l,a,r,h=>by
  rw[List.dropWhile_cons] at h;cases hb:p b;·rw[hb] at h;simp only[Bool.false_eq_true,if_false,List.cons.injEq] at h;rw[<- h.1];exact hb
  ·rw[hb] at h;exact oJ (l:=l) (by simpa using h)
theorem Cg(s:Str):(L.trimDig s=[])=(s.all isD=true):=by
 have gen:∀l:Str,(l.dropWhile L.isDig=[])↔l.all isD=true:=fun l=>by
  induction l with
  |nil=>simp
  |cons a l ih=>
   simp only[List.dropWhile_cons,Qq,Gl];cases h:isD a;·simp
   ·simp[ih]
 unfold L.trimDig;apply propext;rw[gen];constructor
 ·intro h;have h0:(s.reverse.dropWhile L.isDig)=[]:=by
   cases hr:s.reverse.dropWhile L.isDig with
   |nil=>rfl
   |cons a r=>
    exfalso;rw[hr] at h;have ha:isD a=true:=PX.1 h a (by simp);rw[<- Gl,oJ hr] at ha;cases ha
  rw[gen] at h0;simpa using h0
 ·intro h;have h0:s.reverse.dropWhile L.isDig=[]:=(gen _).2 (by simpa using h);rw[h0];rfl
theorem vP(s:Str):Zaf.g s=some (aK s,()):=by
 unfold Zaf.g Zaf.f;simp only[dt,df];by_cases h0:s=[]
 ·subst h0;rw[if_neg (by simp)];rfl
 ·rw[if_pos h0];have hl0:0<s.length:=List.length_pos_iff.2 h0;by_cases h12:s.length<=12
  ·rw[if_pos (by omega),if_pos (by omega)];have hj:¬isD (s.getD 0 0)=true->Zaf.j3 (1000+s.length) s=some (aK s,()):=fun hd=>by
    unfold Zaf.j3;have:=ES s h12 (1000+s.length) (1000+s.length) 0 (by omega) (by omega);rw[PV] at this;rw[show((0:Nat):Int)=0 from rfl] at this;rw[this];by_cases hw:s.all isW=true
    ·rw[if_pos hw];simp only[Zaf.l4,dt,df,gY];rw[if_neg (by omega),if_pos (by omega)];have hbt:bt s 0=((s.getD 0 0).toNat:Int):=rfl;simp only[hbt];have h82:(((s.getD 0 0).toNat:Int)=82)=(s.getD 0 0=82):=dD _ 82 (by omega);simp only[h82];have htake:(s.take (s.length:Int).toNat).drop (1:Int).toNat=s.drop 1:=by
      rw[show(s.length:Int).toNat=s.length by omega,List.take_length];rfl
     have htrim:s.length<=3->L.trimO ((s.take (s.length:Int).toNat).drop (1:Int).toNat) [48,49,50,51,52,53,54,55,56,57]=some (L.trimDig (s.drop 1),()):=fun h=>by
      rw[htake];unfold L.trimO;rw[if_pos ⟨rfl,by simp;omega⟩]
     have hL:aK s=!fo s:=by
      unfold aK;rw[decide_eq_true (show s≠[] from h0),decide_eq_true h12,show isD (s.getD 0 0)=false by simpa using hd,hw];rfl
     have hT:decide (L.trimDig (s.drop 1)=[])=(s.drop 1).all isD:=by
      rw[Bool.eq_iff_iff,Px,Cg]
     rw[hL];unfold fo;by_cases hR:s.getD 0 0=82
     ·rw[if_pos hR,decide_eq_true hR];by_cases h2:s.length=2
      ·rw[if_neg (by omega),if_pos (by omega),htrim (by omega),Pt,decide_eq_true h2];dsimp only;rw[hT];rfl
      ·rw[if_pos (by omega),decide_eq_false h2];by_cases h3:s.length=3
       ·rw[if_pos (by omega),if_pos (by omega),htrim (by omega),Pt,decide_eq_true h3];dsimp only;rw[hT];rfl
       ·rw[if_neg (by omega),decide_eq_false h3];rfl
     ·rw[if_neg hR,decide_eq_false hR];rfl
    ·rw[if_neg hw];simp[aK,hw]
   have hbt:bt s 0=((s.getD 0 0).toNat:Int):=rfl;simp only[hbt];by_cases h48:(48:Int)<=(s.getD 0 0).toNat
   ·rw[if_pos h48,if_pos (by omega)];by_cases h57:((s.getD 0 0).toNat:Int)<=57
    ·rw[if_pos h57];have hd:isD (s.getD 0 0)=true:=by unfold isD;rw[Px];omega
     unfold aK;rw[hd,decide_eq_true (show s≠[] from h0),decide_eq_true h12];rfl
    ·rw[if_neg h57];exact hj (by unfold isD;rw[Px];omega)
   ·rw[if_neg h48];exact hj (by unfold isD;rw[Px];omega)
  ·rw[if_neg (by omega)];simp[aK,h12]
end Rv
namespace Rv
open Go
abbrev Item:=Int×Int×Str×Unit
def aj(x:Item):Int×Bool:=
 if x.1=1 then(0,decide (x.2.2.1=[]))
 else if x.1=2 then(0,decide (x.2.1=0)&&aK x.2.2.1)
 else if x.1=3 then(1,decide (x.2.1=0)&&decide (x.2.2.1=[]))
 else if x.1=4\/x.1=5\/x.1=6 then(2,decide (x.2.1=0)&&decide (x.2.2.1=[]))
 else(0,false)
theorem Ka(a b:Int)(c:Str):Zdj.g a b c=some ((aj (a,b,c,())).1,(aj (a,b,c,())).2,()):=by
 unfold Zdj.g Zdj.f;simp only[Zdj.j2,dt,vP,Pt];unfold aj;dsimp only;rcases Hq (b=0) with hb|hb
 all_goals
  by_cases h1:a=1;·subst h1;simp only[hb,if_true,if_false,decide_true,decide_false]
  by_cases h2:a=2;·subst h2;simp only[hb,if_true,if_false,decide_true,decide_false,Bool.true_and,Bool.false_and,show ¬((2:Int)=1) by decide]
  by_cases h3:a=3;·subst h3;simp only[hb,if_true,if_false,decide_true,decide_false,Bool.true_and,Bool.false_and,show ¬((3:Int)=1) by decide,show ¬((3:Int)=2) by decide]
  by_cases h4:a=4;·subst h4;simp only[hb,if_true,if_false,decide_true,decide_false,Bool.true_and,Bool.false_and,true_or,show ¬((4:Int)=1) by decide,show ¬((4:Int)=2) by decide,show ¬((4:Int)=3) by decide]
  by_cases h5:a=5;·subst h5;simp only[hb,if_true,if_false,decide_true,decide_false,Bool.true_and,Bool.false_and,true_or,or_true,show ¬((5:Int)=1) by decide,show ¬((5:Int)=2) by decide,show ¬((5:Int)=3) by decide,show ¬((5:Int)=4) by decide]
  by_cases h6:a=6;·subst h6;simp only[hb,if_true,if_false,decide_true,decide_false,Bool.true_and,Bool.false_and,true_or,or_true,show ¬((6:Int)=1) by decide,show ¬((6:Int)=2) by decide,show ¬((6:Int)=3) by decide,show ¬((6:Int)=4) by decide,show ¬((6:Int)=5) by decide]
  simp only[hb,h1,h2,h3,h4,h5,h6,if_true,if_false,or_self]
def dU:Int->List Item->Bool
 |t,[]=>decide (t=1)
 |t,x::r=>(aj x).2&&(!decide (t<(aj x).1)&&dU (t+(1-(aj x).1)) r)
def well(e:List Item):Bool:=dU 0 e&&decide (e.length<=64)
theorem om(x:Item):0<=(aj x).1/\(aj x).1<=2:=by
 unfold aj;split;·simp
 ·split
  ·simp
  ·split
   ·simp
   ·split<;>simp
theorem IX(e:List Item)(he:e.length<=4611686018427387904)(n:Nat):∀(m i:Nat) (t:Int),i<=e.length->e.length-i<m->0<=t->t<=i ->
  Zcr.l3 n m e t e (e.length:Int) (i:Int)=some (dU t (e.drop i)&&decide (e.length<=64),()):=by
 intro m
 induction m with
 |zero=>intro i t _ h;omega
 |succ m ih=>
  intro i t hi hm h0 ht;by_cases h1:i<e.length
  ·have hx:e.drop i=e.getD i ((0:Int),((0:Int),(([]:Str),())))::e.drop (i+1):=by
    rw[P6 h1,PD,PH h1];rfl
   rw[hx];simp only[Zcr.l3,dt,df,Ka,Pt];rw[if_pos (by omega),if_pos (by omega),PG];generalize e.getD i ((0:Int),((0:Int),(([]:Str),())))=x;obtain⟨a,b,c,u⟩:=x;cases u;have hr:=om (a,b,c,());simp only[dU];generalize aj (a,b,c,())=y at *;obtain⟨k,ok⟩:=y;simp only at hr⊢;cases ok;·rfl
   ·rw[if_pos (show(!true)=false from rfl)];by_cases h2:t<k
    ·rw[if_pos h2];simp[h2]
    ·rw[if_neg h2,w64 (x:=1-k) (by omega),w64 (x:=t+(1-k)) (by omega),w64 (x:=(i:Int)+1) (by omega),show(i:Int)+1=((i+1:Nat):Int) by omega];rw[ih (i+1) (t+(1-k)) (by omega) (by omega) (by omega) (by omega)];simp[h2]
  ·have hi':i=e.length:=by omega
   subst hi';simp only[Zcr.l3,dt];rw[if_neg (by omega),PZ];simp only[dU];by_cases h3:t=1;·rw[if_pos h3];simp[h3];omega
   ·rw[if_neg h3];simp[h3]
theorem Nw(e:List Item)(he:e.length<=4611686018427387904):Zcr.g e=some (well e,()):=by
 unfold Zcr.g Zcr.f;exact IX e he _ _ 0 0 (by omega) (by omega) (by omega) (by omega)
end Rv
namespace Rv
open Go
abbrev Sym:=Str×Int×Unit
def aN(s:Str):List Sym->Option Int
 |[]=>none
 |x::r=>if x.1=s then some x.2.1 else aN s r
def lF(s:Str):List Sym->Option Nat
 |[]=>none
 |x::r=>if x.1=s then some 0 else(lF s r).map (·+1)
theorem EL(l:List Sym)(s:Str)(hl:l.length<=4611686018427387904)(n:Nat):∀(m i:Nat),i<=l.length->l.length-i<m ->
  Zcv.l2 n m l (l.length:Int) (i:Int) s=some ((match lF s (l.drop i) with|some k=>((i+k:Nat):Int)|none=>-1),s,()):=by
 intro m
 induction m with
 |zero=>intro i _ h;omega
 |succ m ih=>
  intro i hi hm;by_cases h1:i<l.length
  ·have hx:l.drop i=l.getD i (([]:Str),((0:Int),()))::l.drop (i+1):=by
    rw[P6 h1,PD,PH h1];rfl
   rw[hx];simp only[Zcv.l2,dt,Zfa.g,Zfa.f,Pt];rw[if_pos (by omega),if_pos (by omega),PG];generalize l.getD i (([]:Str),((0:Int),()))=x;unfold lF;by_cases h2:x.1=s;·rw[if_pos h2,if_pos h2];simp
   ·rw[if_neg h2,if_neg h2,w64 (by omega),show(i:Int)+1=((i+1:Nat):Int) by omega,ih (i+1) (by omega) (by omega)];cases lF s (l.drop (i+1)) with
    |none=>rfl
    |some k=>simp only[Ql];rw[show i+1+k=i+(k+1) by omega]
  ·have hi':i=l.length:=by omega
   subst hi';simp only[Zcv.l2,dt];rw[if_neg (by omega),PZ];rfl
theorem wP(s:Str):∀{l:List Sym}{k:Nat},lF s l=some k->k<l.length/\aN s l=some (l.getD k (([]:Str),((0:Int),()))).2.1
 |[],_,h=>by cases h
 |x::r,k,h=>by
  unfold lF at h;unfold aN;by_cases h2:x.1=s;·rw[if_pos h2] at h⊢;cases h;exact⟨by simp,rfl⟩
  ·rw[if_neg h2] at h⊢;obtain⟨j,hj,rfl⟩:=Option.map_eq_some_iff.1 h;obtain⟨h3,h4⟩:=wP s hj;exact⟨by simp;omega,by rw[h4];rfl⟩
theorem wO(s:Str):∀{l:List Sym},lF s l=none->aN s l=none
 |[],_=>rfl
 |x::r,h=>by
  unfold lF at h;unfold aN;by_cases h2:x.1=s;·rw[if_pos h2] at h;cases h
  ·rw[if_neg h2] at h⊢;exact wO s (Option.map_eq_none_iff.1 h)
theorem xV(l:List Sym)(s:Str)(hl:l.length<=4611686018427387904):Zcw.g l s=some ((aN s l).getD 0,(aN s l).isSome,()):=by
 unfold Zcw.g Zcw.f Zcv.g Zcv.f;rw[show(0:Int)=((0:Nat):Int) from rfl,EL l s hl _ _ 0 (by omega) (by omega),Pt,PV];dsimp only;cases h:lF s l with
 |none=>
  rw[wO s h];rfl
 |some k=>
  obtain⟨h1,h2⟩:=wP s h;rw[h2];simp only[dt];rw[if_neg (by omega),if_pos (by omega)];simp
end Rv
namespace Rv
open Go
abbrev Val:=Int×Int×Unit
theorem xn(l:List Val)(v:Val)(hl:l.length<=4611686018427387904):Zcc.g (l++[v])=some (v.1,v.2.1,l,()):=by
 unfold Zcc.g Zcc.f;have e1:IntKind.i64.wrap (((l++[v]).length:Int)-1)=(l.length:Int):=by
  rw[w64 (by simp;omega)];simp
 have e2:(l++[v]).getD l.length ((0:Int),((0:Int),()))=v:=by
  rw[PD,List.getElem?_append_right (PI _)];simp
 rw[e1,PG,if_pos (by simp;omega),if_pos (by simp;omega),e2,List.take_left]
def gX(labels:List Sym)(st:List Val)(x:Item):Except Int (List Val):=
 if x.1=2 then match aN x.2.2.1 labels with
  |some a=>.ok (st++[(IntKind.u32.wrap a,1,())])
  |none=>.error 25
 else if x.1=3 then match st.getLast? with
  |some v=>.ok (st.dropLast++[(IntKind.u32.wrap (0-v.1),IntKind.i64.wrap (0-v.2.1),())])
  |none=>.error 99
 else if x.1=4\/x.1=5\/x.1=6 then match st.getLast?,st.dropLast.getLast? with
  |some b,some a=>
   if x.1=4 then .ok (st.dropLast.dropLast++[(IntKind.u32.wrap (a.1+b.1),IntKind.i64.wrap (a.2.1+b.2.1),())])
   else if x.1=5 then .ok (st.dropLast.dropLast++[(IntKind.u32.wrap (a.1-b.1),IntKind.i64.wrap (a.2.1-b.2.1),())])
   else if a.2.1=0/\b.2.1=0 then .ok (st.dropLast.dropLast++[(IntKind.u32.wrap (a.1*b.1),0,())])
   else .error 27
  |_,_=>.error 99
 else .ok (st++[(x.2.1,0,())])
def fB(labels:List Sym):List Val->List Item->Except Int (List Val)
 |st,[]=>.ok st
 |st,x::r=>match gX labels st x with
  | .ok st=>fB labels st r
  | .error e=>.error e
theorem zw(a b:Int):Zea.g a b (-1)=some (IntKind.u32.wrap (0-a),IntKind.i64.wrap (0-b),()):=by
 unfold Zea.g Zea.f;have e1:IntKind.u32.wrap (-1)=4294967295:=by rw[IntKind.wrap_u32];rfl
 have e2:IntKind.u32.wrap (4294967295*a)=IntKind.u32.wrap (0-a):=by rw[IntKind.wrap_u32,IntKind.wrap_u32];omega
 rw[e1,e2,show -1*b=0-b by omega]
theorem Oz(a b c d:Int):Zfb.g a b c d=some (IntKind.u32.wrap (a+c),IntKind.i64.wrap (b+d),()):=rfl
theorem Cx(a b:Int):IntKind.i64.wrap (a+IntKind.i64.wrap (0-b))=IntKind.i64.wrap (a-b):=by
 rw[IntKind.wrap_i64,IntKind.wrap_i64,IntKind.wrap_i64];omega
theorem Dc(a b:Int):IntKind.u32.wrap (a+IntKind.u32.wrap (0-b))=IntKind.u32.wrap (a-b):=by
 rw[IntKind.wrap_u32,IntKind.wrap_u32,IntKind.wrap_u32];omega
end Rv
namespace Rv
open Go
def ut(st:List Val):Option (Int×Int×Int×Unit):=
 match st.getLast? with
 |some v=>some (v.1,v.2.1,0,())
 |none=>none
theorem MR(labels:List Sym)(e:List Item)(n:Nat)(rl)(t:Int)(i:Nat)(hi:i<=1000)(b0 b1:Int)(st:List Val)(hst:st.length<=1000)(v0 v1:Int) :
  Zam.j27 n rl labels e t (i:Int) b0 b1 st v0 v1=rl labels e t ((i+1:Nat):Int) b0 b1 (st++[(v0,v1,())]):=by
 unfold Zam.j27;rw[if_pos (by simp;omega),w64 (by omega)];rfl
theorem je(st:List Val):st=[]\/∃l v,st=l++[v]:=by
 rcases List.eq_nil_or_concat st with h|⟨l,v,h⟩;·exact .inl h
 ·exact .inr ⟨l,v,by rw[h,List.concat_eq_append]⟩
theorem dx(l:List Val)(v:Val):(l++[v]).getLast?=some v/\(l++[v]).dropLast=l:=by simp
theorem MQ(labels:List Sym)(hlab:labels.length<=4611686018427387904)(e:List Item)(he:e.length<=999)(n:Nat):∀(m i:Nat) (st:List Val) (b0 b1:Int),i<=e.length->e.length-i<m->dU (st.length:Int) (e.drop i)=true->st.length<=i ->
  Zam.l5 n m labels e (e.length:Int) (i:Int) b0 b1 st=match fB labels st (e.drop i) with
   | .error x=>some (0,0,x,())
   | .ok st'=>ut st':=by
 intro m
 induction m with
 |zero=>intro i st b0 b1 _ h;omega
 |succ m ih=>
  intro i st b0 b1 hi hm hw hst;by_cases h1:i<e.length
  ·have hx:e.drop i=e.getD i ((0:Int),((0:Int),(([]:Str),())))::e.drop (i+1):=by
    rw[P6 h1,PD,PH h1];rfl
   rw[hx] at hw⊢;simp only[Zam.l5,dt,df];rw[if_pos (by omega),if_pos (by omega),PG];generalize e.getD i ((0:Int),((0:Int),(([]:Str),())))=x at hw⊢;obtain⟨a,b,c,u⟩:=x;cases u;simp only[dU,Pz,Bool.not_eq_true',decide_eq_false_iff_not] at hw;obtain⟨hk,hlt,hw⟩:=hw;have next:∀(s:List Val) (v0 v1:Int),s.length+1<=i+1->dU ((s.length+1:Nat):Int) (e.drop (i+1))=true ->
     Zam.j27 n (Zam.l5 n m) labels e (e.length:Int) (i:Int) b0 b1 s v0 v1=match fB labels (s++[(v0,v1,())]) (e.drop (i+1)) with
      | .error x=>some (0,0,x,())
      | .ok st'=>ut st':=fun s v0 v1 hs hws=>by
    rw[MR labels e n _ _ i (by omega) b0 b1 s (by omega) v0 v1];exact ih (i+1) _ b0 b1 (by omega) (by omega) (by simpa using hws) (by simpa using hs)
   simp only[fB,gX];by_cases k2:a=2
   ·subst k2;rw[if_pos rfl,if_pos rfl,xV labels c hlab,Pt];have e0:(aj (2,b,c,())).1=0:=rfl;rw[e0] at hw;cases hf:aN c labels with
    |none=>rfl
    |some at_=>
     dsimp only[Option.isSome,Option.getD];rw[if_neg (by simp)];exact next st _ 1 (by omega) (by simpa using hw)
   ·rw[if_neg k2,if_neg k2];by_cases k3:a=3
    ·subst k3;have e0:(aj (3,b,c,())).1=1:=rfl;rw[e0] at hlt hw;rcases je st with rfl|⟨l,v,rfl⟩
     ·simp at hlt
     ·obtain⟨g1,g2⟩:=dx l v;rw[if_pos rfl,if_pos rfl,g1,g2,xn l v (by simp at hst;omega),Pt];dsimp only;rw[zw,Pt];exact next l _ _ (by simp at hst;omega) (by simpa using hw)
    ·rw[if_neg k3,if_neg k3];by_cases k4:a=4\/a=5\/a=6
     ·have e0:(aj (a,b,c,())).1=2:=by
       unfold aj;rcases k4 with rfl|rfl|rfl<;>rfl
      rw[e0] at hlt hw;rcases je st with rfl|⟨l0,v,rfl⟩;·simp at hlt
      ·rcases je l0 with rfl|⟨l,w,rfl⟩
       ·simp at hlt
       ·obtain⟨g1,g2⟩:=dx (l++[w]) v;obtain⟨g3,g4⟩:=dx l w;have hl:l.length<=1000:=by simp at hst;omega
        have hn:=next l
        rw[if_pos k4,g1,g2,g3,g4,xn (l++[w]) v (by simp;omega),Pt];dsimp only;have hp2:=xn l w (by omega);simp only[hp2,Pt,Oz,zw,Dc,Cx];have hs1:l.length+1<=i+1:=by simp at hst;omega
        have hw1:dU ((l.length+1:Nat):Int) (e.drop (i+1))=true:=by
         have:((l++[w]++[v]).length:Int)+(1-2)=((l.length+1:Nat):Int):=by simp;omega
         rw[<- this];exact hw
        rcases k4 with rfl|rfl|rfl;·rw[if_pos rfl,if_pos rfl,Int.add_comm v.1 w.1,Int.add_comm v.2.1 w.2.1];exact next l _ _ hs1 hw1
        ·rw[if_neg (show ¬(5:Int)=4 by decide),if_neg (show ¬(5:Int)=4 by decide),if_pos rfl,if_pos rfl];exact next l _ _ hs1 hw1
        ·rw[if_neg (show ¬(6:Int)=4 by decide),if_neg (show ¬(6:Int)=4 by decide),if_neg (show ¬(6:Int)=5 by decide),if_neg (show ¬(6:Int)=5 by decide),if_pos rfl];by_cases z1:v.2.1=0
         ·by_cases z2:w.2.1=0
          ·rw[if_pos (show w.2.1=0/\v.2.1=0 from⟨z2,z1⟩)];simp only[z1,z2,decide_true,Bool.and_self,Bool.not_true,if_true];rw[if_neg (by decide),Int.mul_comm v.1 w.1];exact next l _ _ hs1 hw1
          ·rw[if_neg (show ¬(w.2.1=0/\v.2.1=0) from fun h=>z2 h.1)];simp[z1,z2]
         ·rw[if_neg (show ¬(w.2.1=0/\v.2.1=0) from fun h=>z1 h.2)];simp[z1]
     ·have ha:a=1:=by
       apply Classical.byContradiction;intro h1';have:(aj (a,b,c,())).2=false:=by
        unfold aj;simp[h1',k2,k3,k4]
       rw[this] at hk;cases hk
      subst ha;have e0:(aj (1,b,c,())).1=0:=rfl;rw[e0] at hw;rw[if_neg k4,if_neg (show ¬(1:Int)=4 by decide),if_neg (show ¬(1:Int)=5 by decide),if_neg (show ¬(1:Int)=6 by decide)];exact next st b 0 (by omega) (by simpa using hw)
  ·have hi':i=e.length:=by omega
   subst hi';simp only[Zam.l5,dt];rw[if_neg (by omega),PZ];simp only[fB];rw[PZ] at hw;rcases je st with rfl|⟨l,v,rfl⟩;·simp[dU] at hw
   ·rw[xn l v (by simp at hst;omega),Pt];simp[ut]
def ofR(labels:List Sym)(e:List Item):Option (Int×Int×Int×Unit):=
 if well e=true then(match fB labels [] e with
  | .error x=>some (0,0,x,())
  | .ok st=>ut st)
 else some (0,0,23,())
theorem Fe(labels:List Sym)(hlab:labels.length<=4611686018427387904)(e:List Item)(he:e.length<=4611686018427387904):Zam.g e labels=ofR labels e:=by
 unfold Zam.g Zam.f ofR;rw[Nw e he,Pt];dsimp only;by_cases hw:well e=true;·rw[hw,if_neg (by decide),if_pos rfl];unfold well at hw;rw[Pz,Px] at hw;exact MQ labels hlab e (by omega) _ _ 0 [] 0 0 (by omega) (by omega) (by simpa using hw.1) (by simp)
 ·have hw':well e=false:=by simpa using hw
  rw[hw'];rfl
end Rv
namespace Rv
open Go
def enough:Int->List Item->Option Int
 |t,[]=>some t
 |t,x::r=>if(aj x).2=true/\¬t<(aj x).1 then enough (t+(1-(aj x).1)) r else none
theorem nA:∀(e:List Item) (t:Int),(dU t e=true)=(enough t e=some 1)
 |[],t=>by simp[dU,enough]
 |x::r,t=>by
  simp only[dU,enough,Pz,Bool.not_eq_true',decide_eq_false_iff_not];by_cases h:(aj x).2=true/\¬t<(aj x).1;·rw[if_pos h,<- nA r];simp[h.1,h.2]
  ·rw[if_neg h];apply propext;constructor
   ·intro h';exact absurd ⟨h'.1,h'.2.1⟩ h
   ·intro h';cases h'
theorem iY:∀(a b:List Item) (t:Int),enough t (a++b)=(enough t a).bind fun k=>enough k b
 |[],b,t=>rfl
 |x::a,b,t=>by
  simp only[List.cons_append,enough];split;·exact iY a b _
  ·rfl
def cz(e:List Item):Prop:=enough 0 e=some 1
theorem rR:∀(e:List Item) (t k j:Int),0<=j->enough t e=some k->enough (t+j) e=some (k+j)
 |[],t,k,j,_,h=>by
  simp only[enough,Pv] at h⊢;omega
 |x::e,t,k,j,hj,h=>by
  simp only[enough] at h⊢;split at h;·rename_i hc;rw[if_pos ⟨hc.1,by omega⟩,show t+j+(1-(aj x).1)=(t+(1-(aj x).1))+j by omega];exact rR e _ k j hj h
  ·cases h
theorem Lf{a b:List Item}(ha:cz a)(hb:cz b)(x:Item)(hx:aj x=(2,true)):cz (a++b++[x]):=by
 unfold cz at *;have h1:enough 1 b=some 2:=rR b 0 1 1 (by omega) hb;rw[iY,iY,ha,Pt,h1,Pt];simp[enough,hx]
theorem Le{a:List Item}(ha:cz a)(x:Item)(hx:aj x=(1,true)):cz (a++[x]):=by
 unfold cz at *;rw[iY,ha,Pt];simp[enough,hx]
end Rv
namespace Rv
open Go
theorem K5(labels:List Sym)(x:Item)(st st':List Val)(hk:(aj x).2=true)(hl:¬(st.length:Int)<(aj x).1)(h:gX labels st x=.ok st'):(st'.length:Int)=st.length+(1-(aj x).1):=by
 obtain⟨a,b,c,u⟩:=x;cases u;unfold gX at h;dsimp only at h;by_cases k2:a=2
 ·subst k2;rw[if_pos rfl] at h;have e0:(aj (2,b,c,())).1=0:=rfl;rw[e0];split at h
  ·cases h;simp
  ·cases h
 ·rw[if_neg k2] at h;by_cases k3:a=3
  ·subst k3;have e0:(aj (3,b,c,())).1=1:=rfl;rw[e0] at hl⊢;rcases je st with rfl|⟨l,v,rfl⟩
   ·simp at hl
   ·rw[if_pos rfl,(dx l v).1,(dx l v).2] at h;cases h;simp
  ·rw[if_neg k3] at h;by_cases k4:a=4\/a=5\/a=6
   ·have e0:(aj (a,b,c,())).1=2:=by
     unfold aj;rcases k4 with rfl|rfl|rfl<;>rfl
    rw[e0] at hl⊢;rcases je st with rfl|⟨l0,v,rfl⟩;·simp at hl
    ·rcases je l0 with rfl|⟨l,w,rfl⟩
     ·simp at hl
     ·rw[if_pos k4,(dx _ v).1,(dx _ v).2,(dx l w).1,(dx l w).2] at h;dsimp only at h;split at h
      ·cases h;simp;omega
      ·split at h
       ·cases h;simp;omega
       ·split at h
        ·cases h;simp;omega
        ·cases h
   ·rw[if_neg k4] at h;have ha:a=1:=by
     apply Classical.byContradiction;intro h1';have:(aj (a,b,c,())).2=false:=by
      unfold aj;simp[h1',k2,k3,k4]
     rw[this] at hk;cases hk
    subst ha;have e0:(aj (1,b,c,())).1=0:=rfl;rw[e0];cases h;simp
def onE(f:List Val->List Val):Except Int (List Val)->Except Int (List Val)
 | .ok l=>.ok (f l)
 | .error e=>.error e
theorem IC(labels:List Sym)(x:Item)(base st:List Val)(hl:¬(st.length:Int)<(aj x).1):gX labels (base++st) x=onE (base++·) (gX labels st x):=by
 obtain⟨a,b,c,u⟩:=x;cases u;unfold gX;dsimp only;by_cases k2:a=2
 ·subst k2;rw[if_pos rfl,if_pos rfl];cases aN c labels with
  |none=>rfl
  |some y=>simp[onE]
 ·rw[if_neg k2,if_neg k2];by_cases k3:a=3
  ·subst k3;have e0:(aj (3,b,c,())).1=1:=rfl;rw[e0] at hl;rcases je st with rfl|⟨l,v,rfl⟩
   ·simp at hl
   ·rw[if_pos rfl,if_pos rfl,<- PU,(dx (base++l) v).1,(dx (base++l) v).2,(dx l v).1,(dx l v).2];simp[onE]
  ·rw[if_neg k3,if_neg k3];by_cases k4:a=4\/a=5\/a=6
   ·have e0:(aj (a,b,c,())).1=2:=by
     unfold aj;rcases k4 with rfl|rfl|rfl<;>rfl
    rw[e0] at hl;rcases je st with rfl|⟨l0,v,rfl⟩;·simp at hl
    ·rcases je l0 with rfl|⟨l,w,rfl⟩
     ·simp at hl
     ·rw[if_pos k4,if_pos k4,<- PU,<- PU,(dx (base++l++[w]) v).1,(dx (base++l++[w]) v).2,(dx (base++l) w).1,(dx (base++l) w).2,(dx (l++[w]) v).1,(dx (l++[w]) v).2,(dx l w).1,(dx l w).2];dsimp only;split
      ·simp[onE]
      ·split
       ·simp[onE]
       ·split
        ·simp[onE]
        ·rfl
   ·rw[if_neg k4,if_neg k4];simp[onE]
theorem BJ(labels:List Sym):∀(e:List Item) (base st:List Val) (k:Int),enough (st.length:Int) e=some k->fB labels (base++st) e=onE (base++·) (fB labels st e)/\∀st',fB labels st e=.ok st'->(st'.length:Int)=k
 |[],base,st,k,h=>by
  simp only[enough,Pv] at h;exact⟨rfl,fun st' h'=>by cases h';exact h⟩
 |x::e,base,st,k,h=>by
  simp only[enough] at h;split at h
  ·rename_i hc;simp only[fB];rw[IC labels x base st hc.2];cases hs:gX labels st x with
   |error er=>exact⟨rfl,fun st' h'=>by cases h'⟩
   |ok s2=>
    have hl:=K5 labels x st s2 hc.1 hc.2 hs;rw[<- hl] at h;exact BJ labels e base s2 k h
  ·cases h
end Rv
namespace Rv
open Go
theorem BK(labels:List Sym){e:List Item}(h:cz e):(∃x,fB labels [] e=.error x)\/∃v,fB labels [] e=.ok [v]:=by
 obtain⟨_,h2⟩:=BJ labels e [] [] 1 h;cases hr:fB labels [] e with
 |error x=>exact .inl ⟨x,rfl⟩
 |ok st=>
  have:=h2 st hr
  match st,this with
  |[v],_=>exact .inr ⟨v,rfl⟩
end Rv
namespace Rv
open Go
def okV(v:Val):Prop:=(0<=v.1/\v.1<=4294967295)/\(-9223372036854775808<=v.2.1/\v.2.1<=9223372036854775807)
theorem jH(a:Int):0<=IntKind.u32.wrap a/\IntKind.u32.wrap a<=4294967295:=by rw[IntKind.wrap_u32];omega
theorem GJ(a:Int):-9223372036854775808<=IntKind.i64.wrap a/\IntKind.i64.wrap a<=9223372036854775807:=by rw[IntKind.wrap_i64];omega
theorem vS(a b:Int):okV (IntKind.u32.wrap a,IntKind.i64.wrap b,()):=⟨jH a,GJ b⟩
theorem Ff{a c:Int}(h1:0<=a/\a<=4294967295)(h2:-9223372036854775808<=c/\c<=9223372036854775807):okV (a,c,()):=⟨h1,h2⟩
theorem sJ{α:Type}{l:List α}{x:α}(h:x∈l.dropLast):x∈l:=List.dropLast_subset l h
theorem K6{labels:List Sym}{x:Item}{st st':List Val}(hx:0<=x.2.1/\x.2.1<=4294967295)(hst:∀v∈st,okV v)(h:gX labels st x=.ok st'):∀v∈st',okV v:=by
 have snoc:∀(l:List Val) (u:Val),(∀v∈l,okV v)->okV u->∀v∈l++[u],okV v:=fun l u hl hu v hv=>by
  rcases PL.1 hv with hv|hv;·exact hl v hv
  ·rw[PS] at hv;subst hv;exact hu
 have hd:∀v∈st.dropLast,okV v:=fun v hv=>hst v (sJ hv)
 have hdd:∀v∈st.dropLast.dropLast,okV v:=fun v hv=>hd v (sJ hv)
 unfold gX at h;split at h
 ·split at h
  ·simp only[Except.ok.injEq] at h;subst h;exact snoc _ _ hst (Ff (jH _) (by decide))
  ·cases h
 ·split at h
  ·split at h
   ·simp only[Except.ok.injEq] at h;subst h;exact snoc _ _ hd (vS _ _)
   ·cases h
  ·split at h
   ·split at h
    ·split at h
     ·simp only[Except.ok.injEq] at h;subst h;exact snoc _ _ hdd (vS _ _)
     ·split at h
      ·simp only[Except.ok.injEq] at h;subst h;exact snoc _ _ hdd (vS _ _)
      ·split at h
       ·simp only[Except.ok.injEq] at h;subst h;exact snoc _ _ hdd (Ff (jH _) (by decide))
       ·cases h
    ·cases h
   ·simp only[Except.ok.injEq] at h;subst h;exact snoc _ _ hst (Ff hx (by decide))
theorem Ea{labels:List Sym}:∀{e:List Item}{st st':List Val},(∀x∈e,0<=x.2.1/\x.2.1<=4294967295)->(∀v∈st,okV v)->fB labels st e=.ok st'->∀v∈st',okV v
 |[],st,st',_,hst,h=>by
  simp only[fB,Except.ok.injEq] at h;subst h;exact hst
 |x::e,st,st',hx,hst,h=>by
  simp only[fB] at h;cases hs:gX labels st x with
  |ok s=>
   rw[hs] at h;exact Ea (fun y hy=>hx y (by simp[hy])) (K6 (hx x (by simp)) hst hs) h
  |error k=>rw[hs] at h;cases h
theorem K4{labels:List Sym}{x:Item}{st:List Val}{k:Int}(h:gX labels st x=.error k):k=25\/k=99\/k=27:=by
 unfold gX at h;split at h
 ·split at h
  ·cases h
  ·cases h;simp
 ·split at h
  ·split at h
   ·cases h
   ·cases h;simp
  ·split at h
   ·split at h
    ·split at h
     ·cases h
     ·split at h
      ·cases h
      ·split at h
       ·cases h
       ·cases h;simp
    ·cases h;simp
   ·cases h
theorem D9{labels:List Sym}:∀{e:List Item}{st:List Val}{k:Int},fB labels st e=.error k->k≠0
 |[],st,k,h=>by cases h
 |x::e,st,k,h=>by
  simp only[fB] at h;cases hs:gX labels st x with
  |ok s=>rw[hs] at h;exact D9 h
  |error k'=>
   rw[hs] at h;cases h;rcases K4 hs with rfl|rfl|rfl<;>decide
def mv(by':Int)(v:Val):Val:=(IntKind.u32.wrap (v.1+by'*v.2.1),v.2.1,())
end Rv
namespace Rv
open Go
def jW(x:Ln):Nat:=if x.2.1.1=0\/x.2.1.1=10 then 0 else 1
theorem kJ(x:Ln):jW x<=1:=by unfold jW;split<;>omega
def bX:List Ln->Nat->List Int->List Sym->Nat->Except (Nat×Int) (List Int×List Sym×Nat)
 |[],_,a,lb,c=>.ok (a,lb,c)
 |x::r,i,a,lb,c=>
  if x.1=[] then bX r (i+1) (a++[((4*c:Nat):Int)]) lb (c+jW x)
  else if(aN x.1 lb).isSome=true then .error (i+1,26)
  else bX r (i+1) (a++[((4*c:Nat):Int)]) (lb++[(x.1,((4*c:Nat):Int),())]) (c+jW x)
def jY(p:List Val)(v:Val):List Val:=if v∈p then p else p++[v]
def vOf(lb:List Sym)(e:List Item):Int×Int×Int×Unit:=(ofR lb e).getD (0,0,99,())
def cu(lb:List Sym):List Ln->Nat->List Val->Except (Nat×Int) (List Val)
 |[],_,p=>.ok p
 |x::r,i,p=>
  if x.2.1.1=8 then
   (if(vOf lb x.2.1.2.2.2.2.2.2.1).2.2.1≠0 then .error (i+1,(vOf lb x.2.1.2.2.2.2.2.2.1).2.2.1)
   else if(vOf lb x.2.1.2.2.2.2.2.2.1).2.1<0\/1<(vOf lb x.2.1.2.2.2.2.2.2.1).2.1 then .error (i+1,27)
   else cu lb r (i+1) (jY p ((vOf lb x.2.1.2.2.2.2.2.2.1).1,(vOf lb x.2.1.2.2.2.2.2.2.1).2.1,())))
  else cu lb r (i+1) p
abbrev wy:=List Int×List Sym×List Val×Int×Int×Int×Int×Unit
def sM(i:Nat)(e:Int):wy:=([],[],[],0,0,(i:Int),e,())
def nP(t:List Int)(lb:List Sym)(c:Nat):Except (Nat×Int) (List Val)->wy
 | .error x=>sM x.1 x.2
 | .ok p=>if 1024<c+p.length then sM 0 2 else(t,lb,p,((4*c:Nat):Int),((c+p.length:Nat):Int),0,0,())
def zX(l:List Ln):Except (Nat×Int) (List Int×List Sym×Nat)->wy
 | .error x=>sM x.1 x.2
 | .ok r=>nP r.1 r.2.1 r.2.2 (cu r.2.1 l 0 [])
def bG(l:List Ln):wy:=zX l (bX l 0 [] [] 0)
def lC(v:Val):List Val->Nat
 |[]=>0
 |x::r=>if x=v then 0 else lC v r+1
theorem DN(labels:List Sym)(e:List Item):∃v1 v2 x,ofR labels e=some (v1,v2,x,()):=by
 unfold ofR;by_cases hw:well e=true
 ·rw[if_pos hw];unfold well at hw;rw[Pz,Px] at hw;have hwl:cz e:=by unfold cz;rw[<- nA];exact hw.1
  rcases BK labels hwl with⟨x,hx⟩|⟨v,hv⟩;·rw[hx];exact⟨0,0,x,rfl⟩
  ·rw[hv];exact⟨v.1,v.2.1,0,rfl⟩
 ·rw[if_neg hw];exact⟨0,0,23,rfl⟩
theorem uy(labels:List Sym)(e:List Item):ofR labels e=some (vOf labels e):=by
 obtain⟨a,b,c,h⟩:=DN labels e;unfold vOf;rw[h];rfl
theorem lQ:∀(l:List Ln) (i:Nat) (a:List Int) (lb:List Sym) (c:Nat) {r},bX l i a lb c=.ok r->r.1.length=a.length+l.length/\r.2.1.length<=lb.length+l.length/\r.2.2<=c+l.length
 |[],_,a,lb,c,r,h=>by cases h;simp
 |x::t,i,a,lb,c,r,h=>by
  have hs:=kJ x;unfold bX at h;split at h;·have:=lQ t _ _ _ _ h;simp at this⊢;omega
  ·split at h
   ·cases h
   ·have:=lQ t _ _ _ _ h;simp at this⊢;omega
theorem vk(p:List Val)(v:Val):(jY p v).length<=p.length+1:=by unfold jY;split<;>simp
theorem nN(lb:List Sym):∀(l:List Ln) (i:Nat) (p:List Val) {r},cu lb l i p=.ok r->r.length<=p.length+l.length
 |[],_,p,r,h=>by cases h;simp
 |x::t,i,p,r,h=>by
  unfold cu at h;split at h
  ·split at h
   ·cases h
   ·split at h
    ·cases h
    ·have:=nN lb t _ _ h;have:=vk p ((vOf lb x.2.1.2.2.2.2.2.2.1).1,(vOf lb x.2.1.2.2.2.2.2.2.1).2.1,());simp;omega
  ·have:=nN lb t _ _ h;simp;omega
end Rv
namespace Rv
open Go
abbrev zSy:Sym:=(([]:Str),((0:Int),()))
abbrev less(a b:Str):Bool:=Op.bytesLess a b
theorem vD:∀a b:Str,(L.cmpR a b<0↔less a b=true)/\(L.cmpR a b=0↔a=b)
 |[],[]=>by simp[L.cmpR,Op.bytesLess]
 |[],_::_=>by simp[L.cmpR,Op.bytesLess]
 |_::_,[]=>by simp[L.cmpR,Op.bytesLess]
 |a::r,b::s=>by
  have ih:=vD r s;unfold L.cmpR less Op.bytesLess;by_cases h1:a<b
  ·have:a≠b:=fun e=>by subst e;exact absurd h1 (UInt8.lt_irrefl a)
   simp[h1,this]
  ·by_cases h2:b<a
   ·have:a≠b:=fun e=>by subst e;exact absurd h2 (UInt8.lt_irrefl a)
    simp[h1,h2,this]
   ·have e:a=b:=UInt8.le_antisymm (UInt8.not_lt.1 h2) (UInt8.not_lt.1 h1);subst e;simp only[h1,if_false,decide_false,Bool.false_or,beq_self_eq_true,Bool.true_and,List.cons.injEq,true_and];exact ih
theorem jP:∀{a b c:Str},less a b=true->less b c=true->less a c=true
 |_,[],_,h,_=>by simp[Op.bytesLess] at h
 |_,_::_,[],_,h=>by simp[Op.bytesLess] at h
 |[],_::_,_::_,_,_=>by simp[Op.bytesLess]
 |a::x,b::y,c::z,h1,h2=>by
  simp only[less,Op.bytesLess,Bool.or_eq_true,Px,Pz,beq_iff_eq] at h1 h2⊢;rcases h1 with h1|⟨rfl,h1⟩
  ·rcases h2 with h2|⟨rfl,h2⟩
   ·exact .inl (UInt8.lt_trans h1 h2)
   ·exact .inl h1
  ·rcases h2 with h2|⟨rfl,h2⟩
   ·exact .inl h2
   ·exact .inr ⟨rfl,jP h1 h2⟩
theorem EX{a b:Str}(h:less a b=false)(hne:a≠b):less b a=true:=by
 induction a generalizing b with
 |nil=>cases b with
  |nil=>exact absurd rfl hne
  |cons b y=>simp[Op.bytesLess] at h
 |cons a x ih=>cases b with
  |nil=>simp[Op.bytesLess]
  |cons b y=>
   simp only[less,Op.bytesLess,Bool.or_eq_false_iff,decide_eq_false_iff_not,Bool.and_eq_false_iff,beq_eq_false_iff_ne,Bool.or_eq_true,Px,Pz,beq_iff_eq] at h⊢;obtain⟨h1,h2⟩:=h;by_cases e:a=b;·subst e;refine .inr ⟨rfl,ih (h2.resolve_left (fun g=>g rfl)) fun e=>hne (by rw[e])⟩
   ·exact .inl (UInt8.lt_of_le_of_ne (UInt8.not_lt.1 h1) (Ne.symm e))
def iE(y:List Sym):Prop:=y.Pairwise fun a b=>less a.1 b.1=true
def kS:List Sym->Str->Nat
 |[],_=>0
 |x::r,s=>if less x.1 s=true then kS r s+1 else 0
theorem qf:∀(y:List Sym) (s:Str),kS y s<=y.length
 |[],_=>PI _
 |x::r,s=>by unfold kS;split;exact Nat.succ_le_succ (qf r s);exact Nat.zero_le _
theorem Lm:∀{y:List Sym}{s:Str}{i:Nat},(∀t,t<i->less (y.getD t zSy).1 s=true)->i<=y.length->(i<y.length->less (y.getD i zSy).1 s=false)->kS y s=i
 |[],_,i,_,h,_=>by simp at h;subst h;rfl
 |x::r,s,0,_,_,h=>by
  have h:=h (by simp);have h:less x.1 s=false:=h;unfold kS;rw[if_neg (by rw[h];decide)]
 |x::r,s,i+1,h1,h2,h3=>by
  have h0:less x.1 s=true:=h1 0 (by omega);unfold kS;rw[if_pos h0,Lm (y:=r) (i:=i) (fun t ht=>by simpa using h1 (t+1) (by omega)) (by simpa using h2) (fun h=>by simpa using h3 (by simpa using h))]
theorem qN{y:List Sym}(hy:iE y){i j:Nat}(hij:i<j)(hj:j<y.length):less (y.getD i zSy).1 (y.getD j zSy).1=true:=by
 have:=List.pairwise_iff_getElem.1 hy i j (by omega) hj hij;rw[PD,PD,PH hj,PH (show i<y.length by omega)];exact this
def mR(y:List Sym)(s:Str):Bool:=decide (kS y s<y.length/\(y.getD (kS y s) zSy).1=s)
theorem IJ{x:Int}(h:0<=x/\x<=9223372036854775807):IntKind.u64.wrap x=x:=by
 show(x % 2 ^ 64:Int)=x;omega
theorem Ma(a:Str)(b:Int)(c:Str):Zfg.g a b c=some (L.cmpR a c,()):=rfl
theorem LK(y:List Sym)(s:Str)(hy:iE y)(hl:y.length<=1000000)(n:Nat):∀(m i j:Nat),i<=j->j<=y.length->j-i<m->(∀t,t<i->less (y.getD t zSy).1 s=true)->(∀t,j<=t->t<y.length->less (y.getD t zSy).1 s=false) ->
  Zct.l3 n m y s (y.length:Int) (i:Int) (j:Int)=some ((kS y s:Int),mR y s,()):=by
 intro m
 induction m with
 |zero=>intro i j _ _ h;omega
 |succ m ih=>
  intro i j hij hj hm h1 h2;rw[Zct.l3];have hmid:IntKind.i64.wrap ((IntKind.u64.wrap (IntKind.i64.wrap ((i:Int)+(j:Int)))).fdiv (2 ^ (min (1:Int).toNat IntKind.u64.bits)))=(((i+j) / 2:Nat):Int):=by
   show IntKind.i64.wrap ((IntKind.u64.wrap (IntKind.i64.wrap ((i:Int)+(j:Int)))).fdiv 2)=_;rw[w64 (x:=(i:Int)+(j:Int)) (by omega),Int.fdiv_eq_ediv_of_nonneg _ (by decide),IJ (by omega),w64 (by omega)];omega
  rw[hmid];simp only[dt,PG,Ma,Pt];by_cases h:i<j
  ·rw[if_pos (by omega),if_pos (by omega)];generalize hq:(i+j) / 2=q;have hc:=(vD (y.getD q zSy).1 s).1;by_cases hlt:less (y.getD q zSy).1 s=true
   ·rw[if_pos (hc.2 hlt),w64 (by omega),show(q:Int)+1=((q+1:Nat):Int) by omega];refine ih (q+1) j (by omega) hj (by omega) (fun t ht=>?_) h2;by_cases e:t=q
    ·rw[e];exact hlt
    ·exact jP (qN hy (show t<q by omega) (by omega)) hlt
   ·rw[if_neg (fun g=>hlt (hc.1 g))];refine ih i q (by omega) (by omega) (by omega) h1 fun t ht htl=>?_
    have hf:less (y.getD q zSy).1 s=false:=by simpa using hlt
    by_cases e:t=q;·rw[e];exact hf
    ·cases ht2:less (y.getD t zSy).1 s with
     |false=>rfl
     |true=>rw[jP (qN hy (show q<t by omega) htl) ht2] at hf;cases hf
  ·obtain rfl:i=j:=by omega
   have hk:kS y s=i:=Lm h1 hj (fun h=>h2 i (by omega) h);rw[if_neg (by omega)];unfold mR;rw[hk];by_cases hl2:i<y.length;·rw[if_pos (by omega),if_pos (by omega)];have:=(vD (y.getD i zSy).1 s).2;congr 3;rw[Bool.eq_iff_iff,Px,Px,this];exact⟨fun h=>⟨hl2,h⟩,fun h=>h.2⟩
   ·rw[if_neg (by omega),decide_eq_false (fun h=>hl2 h.1)]
theorem OC(y:List Sym)(s:Str)(hy:iE y)(hl:y.length<=1000000):Zct.g y s=some ((kS y s:Int),mR y s,()):=by
 unfold Zct.g Zct.f;exact LK y s hy hl _ _ 0 y.length (by omega) (by omega) (by omega) (fun t h=>by omega) (fun t h h2=>by omega)
def kD(y:List Sym)(x:Sym):List Sym:=y.take (kS y x.1)++[x]++y.drop (kS y x.1)
theorem x8:∀{y:List Sym}{s:Str},∀a∈y.take (kS y s),less a.1 s=true
 |[],_,a,h=>by simp at h
 |x::r,s,a,h=>by
  unfold kS at h;split at h
  ·rename_i hx;rw[List.take_succ_cons,PM] at h;rcases h with rfl|h
   ·exact hx
   ·exact x8 a h
  ·simp at h
theorem Mw{y:List Sym}{s:Str}(hy:iE y)(hs:mR y s=false):∀a∈y.drop (kS y s),less s a.1=true:=by
 intro a ha;obtain⟨j,hj,rfl⟩:=List.getElem_of_mem ha;rw[Qb] at hj;rw[List.getElem_drop];have hk:kS y s<y.length:=by omega
 unfold mR at hs;rw[decide_eq_false_iff_not] at hs;have hne:(y.getD (kS y s) zSy).1≠s:=fun e=>hs ⟨hk,e⟩
 have hnl:less (y.getD (kS y s) zSy).1 s=false:=by
  have gen:∀(y:List Sym),kS y s<y.length->less (y.getD (kS y s) zSy).1 s=false:=by
   intro y
   induction y with
   |nil=>intro h;simp at h
   |cons x r ih=>
    intro h;unfold kS at h⊢;split;·rename_i hx;rw[if_pos hx] at h;simpa using ih (by simpa using h)
    ·rename_i hx;simpa using hx
  exact gen y hk
 have h0:=EX hnl hne;by_cases e:j=0;·subst e;rw[PD,PH hk] at h0;exact h0
 ·have:=qN hy (show kS y s<kS y s+j by omega) (by omega);have:=jP h0 this;rw[PD,PH (show kS y s+j<y.length by omega)] at this;exact this
theorem wV{y:List Sym}{x:Sym}(hy:iE y)(hs:mR y x.1=false):iE (kD y x):=by
 unfold iE kD;rw[List.pairwise_append];have h1:(y.take (kS y x.1)).Pairwise fun a b=>less a.1 b.1=true:=hy.sublist (List.take_sublist _ _)
 have h2:(y.drop (kS y x.1)).Pairwise fun a b=>less a.1 b.1=true:=hy.sublist (List.drop_sublist _ _)
 refine⟨?_,h2,?_⟩;·rw[List.pairwise_append];exact⟨h1,List.pairwise_singleton _ _,fun a ha b hb=>by rw[PS.1 hb];exact x8 a ha⟩
 ·intro a ha b hb;have hxb:=Mw hy hs b hb;rcases PL.1 ha with h|h
  ·exact jP (x8 a h) hxb
  ·rw[PS.1 h];exact hxb
theorem Dv(y:List Sym)(x:Sym):(kD y x).length=y.length+1:=by
 have:=qf y x.1;unfold kD;simp only[PO,P7,Qb,List.length_singleton];omega
end Rv
namespace Rv
open Go
abbrev eL(x:Ln):List Item:=x.2.1.2.2.2.2.2.2.1
theorem IM(lb:List Sym){e:List Item}(hg:∀y∈e,0<=y.2.1/\y.2.1<=4294967295):(∃x,x≠0/\vOf lb e=(0,0,x,()))\/∃v,okV v/\vOf lb e=(v.1,v.2.1,0,())/\fB lb [] e=.ok [v]:=by
 unfold vOf ofR;by_cases hw:well e=true
 ·rw[if_pos hw];unfold well at hw;rw[Pz,Px] at hw;have hwl:cz e:=by unfold cz;rw[<- nA];exact hw.1
  rcases BK lb hwl with⟨x,hx⟩|⟨v,hv⟩;·rw[hx];exact .inl ⟨x,D9 hx,rfl⟩
  ·rw[hv];have:=Ea hg (fun u hu=>by cases hu) hv v (by simp);exact .inr ⟨v,this,rfl,rfl⟩
 ·rw[if_neg hw];exact .inl ⟨23,by decide,rfl⟩
end Rv
namespace Rv
open Go
def isA(b:UInt8):Bool:=decide (65<=b.toNat/\b.toNat<=90\/97<=b.toNat/\b.toNat<=122)
theorem wW(b:UInt8):isL b=(isA b||decide (b.toNat=95)):=by
 unfold isL isA;rw[Bool.eq_iff_iff];simp only[Px,Bool.or_eq_true];omega
def bW(s:Str):Bool:=decide (s≠[])&&decide (s.length<=12)&&isA (s.getD 0 0)&&!fo s&&s.all isW
end Rv
namespace Rv
open Go
theorem uW(b:UInt8):Zeb.g (b.toNat:Int)=some (isA b,()):=by
 unfold Zeb.g Zeb.f isA;simp only[dt,df]
 (repeat' split)<;>first|(refine mG ?_;omega)|(refine mE ?_;omega)|(refine mF ?_;omega)
theorem lV(b:UInt8):Zdm.g (b.toNat:Int)=some (isD b,()):=by
 unfold Zdm.g Zdm.f isD;simp only[dt,df]
 (repeat' split)<;>first|(refine mG ?_;omega)|(refine mE ?_;omega)|(refine mF ?_;omega)
theorem Kv(s:Str):Zeh.g s=some (fo s,()):=by
 unfold Zeh.g Zeh.f fo;simp only[dt,df]
 match s with
 |[]=>rfl
 |[a]=>simp
 |[a,b]=>
  have ea:bt [a,b] 0=(a.toNat:Int):=rfl;have eb:bt [a,b] 1=(b.toNat:Int):=rfl;have e82:((a.toNat:Int)=82)=(a=82):=dD a 82 (by decide);rw[if_pos (by simp),if_pos (by simp),if_pos (by simp),ea,eb];simp only[ne_eq,e82];by_cases h:a=82;·rw[if_neg (by simpa using h),if_pos (by simp),lV,Pt];cases hb:isD b<;>simp[h,hb]
  ·rw[if_pos h];simp[h]
 |[a,b,c]=>
  have ea:bt [a,b,c] 0=(a.toNat:Int):=rfl;have eb:bt [a,b,c] 1=(b.toNat:Int):=rfl;have ec:bt [a,b,c] 2=(c.toNat:Int):=rfl;have e82:((a.toNat:Int)=82)=(a=82):=dD a 82 (by decide);rw[if_pos (by simp),if_pos (by simp),if_pos (by simp),ea,eb,ec];simp only[ne_eq,e82];by_cases h:a=82;·rw[if_neg (by simpa using h),if_pos (by simp),lV,lV,Pt];cases hb:isD b<;>simp[h,hb]
  ·rw[if_pos h];simp[h]
 |a::b::c::d::r=>
  rw[if_pos (by simp;omega),if_neg (by simp;omega)];simp
theorem CY(s:Str)(hs:s.length<=1000000)(n:Nat):∀(m k:Nat),k<=s.length->s.length-k<m->Zaz.l4 n m s (k:Int)=some ((s.drop k).all isW,()):=by
 intro m
 induction m with
 |zero=>intro k _ h;omega
 |succ m ih=>
  intro k hk hm;rw[Zaz.l4];simp only[dt,Zaz.j5];by_cases h:k<s.length
  ·have step:=ih (k+1) (by omega) (by omega);have e1:IntKind.i64.wrap ((k:Int)+1)=((k+1:Nat):Int):=by rw[w64 (by omega)];omega
   rw[if_pos (by omega),if_pos (by omega),gY,uW,lV,Pt,Pt,e1,step,bB h,Qq];have e95:(((s.getD k 0).toNat:Int)≠95)=¬(s.getD k 0).toNat=95:=by apply propext;constructor<;>intro h<;>omega
   simp only[e95];unfold isW;rw[wW];generalize s.getD k 0=b;cases hA:isA b
   ·cases hD:isD b
    ·rw[if_pos (by simp),if_pos (by omega),if_pos (by simp),if_pos (by omega)];by_cases h5:b.toNat=95
     ·rw[if_neg (by simpa using h5)];simp[h5]
     ·rw[if_pos h5];simp[h5]
    ·rw[if_pos (by simp),if_pos (by omega),if_neg (by simp)];simp
   ·rw[if_neg (by simp)];simp
  ·have:k=s.length:=by omega
   subst this;rw[if_neg (by omega),PZ];rfl
theorem lm(s:Str)(hs:s.length<=1000000):Zaz.g s=some (bW s,()):=by
 unfold Zaz.g Zaz.f bW;simp only[dt,df];cases s with
 |nil=>rw[if_neg (by simp)];simp
 |cons c r=>
  rw[if_pos (by simp;omega)];by_cases h12:(c::r).length<=12;·have e0:bt (c::r) 0=(c.toNat:Int):=rfl;have hl:=CY (c::r) hs (1000+(c::r).length) (1000+(c::r).length) 0 (by omega) (by omega);rw[PV,show((0:Nat):Int)=0 from rfl] at hl;rw[if_pos (by omega),if_pos (by simp),e0,uW,Kv,Pt,Pt,hl];have hg:(c::r).getD 0 0=c:=rfl;rw[hg,decide_eq_true h12];cases isA c<;>cases fo (c::r)<;>simp
  ·rw[if_neg (by omega),decide_eq_false h12];simp
theorem tN(s:Str)(hs:s.length<=100000):Zbw.g s=some (aK s,()):=by
 unfold Zbw.g Zbw.f;simp only[dt,Zbw.j3];cases s with
 |nil=>rw[if_neg (by simp),lm [] (by simp)];rfl
 |cons c r=>
  have e0:bt (c::r) 0=(c.toNat:Int):=rfl;have e95:((c.toNat:Int)=95)=(c=95):=dD c 95 (by decide);rw[if_pos (by simp),if_pos (by simp),e0];simp only[e95];by_cases h:c=95
  ·rw[if_pos h,if_pos (by simp;omega),if_pos (by simp at hs⊢;omega)];have ed:(((c::r).take (((c::r).length:Int)).toNat).drop ((1:Int)).toNat)=r:=by rw[PG,List.take_length];rfl
   rw[ed,lm _ (by simp at hs⊢;omega),Pt];subst h;unfold bW aK fo;have h1:isA 97=true:=by decide
   have h2:isW 97=true:=by decide
   have h3:isD 95=false:=by decide
   have h4:isW 95=true:=by decide
   simp[h1,h2,h3,h4]
  ·rw[if_neg h,lm _ (by omega),Pt];unfold bW aK;have hg:(c::r).getD 0 0=c:=rfl;rw[hg];have hc:(isA c&&(isW c&&r.all isW))=(!isD c&&(isW c&&r.all isW)):=by
    have h95:c.toNat≠95:=fun e=>h (UInt8.toNat_inj.1 (by simpa using e))
    unfold isW;rw[wW,decide_eq_false h95];have hex:isA c=true->isD c=false:=fun hA=>by
     unfold isA at hA;unfold isD;simp only[Px] at hA;rw[decide_eq_false_iff_not];omega
    cases hA:isA c;·cases hD:isD c<;>simp
    ·simp[hex hA]
   rw[Qq];generalize fo (c::r)=x;generalize (isW c&&r.all isW)=y at hc⊢;generalize decide ((c::r).length<=12)=z;generalize decide (c::r≠[])=t;revert hc;cases isA c<;>cases isD c<;>cases x<;>cases y<;>cases z<;>cases t<;>simp
end Rv
namespace Rv
open Go
theorem Ia(x:Item)(hx:x.2.2.1.length<=100000):Zej.g x.1 x.2.1 x.2.2.1=some (if(aj x).2=true then(aj x).1 else -1,()):=by
 obtain⟨a,b,c,u⟩:=x;cases u;unfold Zej.g Zej.f aj;simp only at hx;simp only[dt,df,tN c hx,Pt];by_cases h1:a=1;·rw[if_pos h1,if_pos h1];by_cases hc:c=[]<;>simp[hc]
 ·rw[if_neg h1,if_neg h1];by_cases h2:a=2
  ·rw[if_pos h2,if_pos h2];by_cases hb:b=0
   ·cases hl:aK c<;>simp[hb,hl]
   ·simp[hb]
  ·rw[if_neg h2,if_neg h2];by_cases h3:a=3
   ·rw[if_pos h3];by_cases hb:b=0<;>by_cases hc:c=[]<;>simp[hb,hc,h3]
   ·rw[if_neg h3];by_cases h4:a=4\/a=5\/a=6
    ·rw[if_pos h4];have g1:4<=a:=by omega
     have g2:a<=6:=by omega
     by_cases hb:b=0<;>by_cases hc:c=[]<;>simp[hb,hc,h3,g1,g2]
    ·rw[if_neg h4];by_cases hb:b=0
     ·by_cases hc:c=[]
      ·by_cases g1:4<=a
       ·have g2:¬a<=6:=by omega
        simp[hb,hc,h3,g1,g2]
       ·simp[hb,hc,h3,g1]
      ·simp[hb,hc,h3]
     ·simp[hb,h3]
theorem FN(e:List Item)(he:e.length<=100000)(hn:∀x∈e,x.2.2.1.length<=100000)(n:Nat):∀(m i:Nat) (t:Int),i<=e.length->e.length-i<m->0<=t->t<=i ->
  Zcy.l3 n m e t (i:Int)=some (dU t (e.drop i)&&decide (e.length<=64),()):=by
 intro m
 induction m with
 |zero=>intro i t _ h;omega
 |succ m ih=>
  intro i t hi hm h0 ht;rw[Zcy.l3];simp only[dt,df,PG];by_cases h1:i<e.length
  ·have hx:e.drop i=e.getD i ((0:Int),((0:Int),(([]:Str),())))::e.drop (i+1):=by
    rw[P6 h1,PD,PH h1];rfl
   have hmem:e.getD i ((0:Int),((0:Int),(([]:Str),())))∈e:=by
    rw[PD,PH h1];exact Qf h1
   have hnx:=hn _ hmem;rw[hx,if_pos (by omega),if_pos (by omega)];generalize e.getD i ((0:Int),((0:Int),(([]:Str),())))=x at hnx⊢;rw[Ia x hnx,Pt];have hr:=om x;simp only[dU];generalize aj x=y at *;obtain⟨k,ok⟩:=y;simp only at hr⊢;cases ok;·rw[if_neg (by simp),Bool.false_and];simp
   ·rw[if_pos rfl,if_pos (by omega)];by_cases h2:t<k
    ·rw[if_pos h2];simp[h2]
    ·rw[if_neg h2,w64 (x:=t-k) (by omega),w64 (x:=t-k+1) (by omega),w64 (x:=(i:Int)+1) (by omega),show(i:Int)+1=((i+1:Nat):Int) by omega,show t-k+1=t+(1-k) by omega];rw[ih (i+1) (t+(1-k)) (by omega) (by omega) (by omega) (by omega)];simp[h2]
  ·have hi':i=e.length:=by omega
   subst hi';rw[if_neg (by omega),PZ];simp only[dU];by_cases h3:t=1;·rw[if_pos h3];simp[h3];omega
   ·rw[if_neg h3];simp[h3]
theorem KS(e:List Item)(he:e.length<=100000)(hn:∀x∈e,x.2.2.1.length<=100000):Zcy.g e=some (well e,()):=by
 unfold Zcy.g Zcy.f;exact FN e he hn _ _ 0 0 (by omega) (by omega) (by omega) (by omega)
end Rv
namespace Rv
open Go
theorem uN(s:Str)(hs:s.length<=9223372036854775807):∃r,Zbx.g s=some (r,())/\aK r=true/\r.length<=8/\(s.length<=6->r≠[122,122,95,122,122]):=by
 unfold Zbx.g Zbx.f;obtain⟨r,hr,⟨c,t,rfl,⟨hL,hne,hD⟩,hz⟩,ha,hl⟩:=Gz s hs;rw[hr,Pt];simp only[dt];split
 ·have e1:mn ((c::t).length:Int) 11=(c::t).length:=by unfold mn;rw[if_neg (by omega)]
  rw[e1,if_pos (by omega)];simp only[PG,List.take_length,PV];rw[if_pos (by simp at hl⊢;omega)];refine⟨_,rfl,?_,by simp at hl⊢;omega,fun _ e=>by simp at e⟩;unfold aK;rw[List.all_append,ha];have h1:([95]++c::t:Str).getD 0 0=95:=rfl;have h2:decide (([95]++c::t:Str).length<=12)=true:=by rw[Px];simp at hl⊢;omega
  rw[h2];unfold fo;rw[h1];rfl
 ·refine⟨_,rfl,?_,by omega,fun h6 e=>hz h6 (by simp at e;exact e.1)⟩;unfold aK;have h1:(c::t:Str).getD 0 0=c:=rfl;have h2:decide ((c::t:Str).length<=12)=true:=by rw[Px];omega
  unfold fo;rw[h1,h2,hD,ha,decide_eq_false hne];rfl
end Rv
namespace Rv
open Go
def aZ(x:Item):Prop:=0<=x.2.1/\x.2.1<=4294967295/\(aj x).2=true
theorem GA(n:Nat):∀(m:Nat) (out:List Item) (t:Int),enough 0 out=some t->1<=t->t<=10->out.length+t<=20->t.toNat<m->(∀x∈out,aZ x) ->
  ∃r,Zae.l21 n m out t=some (r,())/\cz r/\r.length<=19/\∀x∈r,aZ x:=by
 intro m
 induction m with
 |zero=>intro out t _ _ _ _ h;omega
 |succ m ih=>
  intro out t he h1 h10 hl hm hg;simp only[Zae.l21,dt];by_cases h2:1<t
  ·rw[if_pos h2,if_pos (by simp;omega),w64 (by omega)];refine ih _ (t-1) ?_ (by omega) (by omega) (by simp;omega) (by omega) ?_
   ·rw[iY,he,Pt];have e0:aj ((4:Int),0,([]:Str),())=(2,true):=rfl;simp only[enough,e0];rw[if_pos ⟨trivial,by omega⟩];congr 1
   ·intro x hx;rcases PL.1 hx with hx|hx
    ·exact hg x hx
    ·rw[PS] at hx;subst hx;exact⟨by decide,by decide,rfl⟩
  ·rw[if_neg h2];have:t=1:=by omega
   subst this;exact⟨out,rfl,he,by omega,hg⟩
theorem Cr{out:List Item}{t k:Int}{x:Item}(he:enough 0 out=some t)(hx:aj x=(k,true))(hk:¬t<k):enough 0 (out++[x])=some (t+(1-k)):=by
 rw[iY,he,Pt];simp only[enough,hx];rw[if_pos ⟨trivial,hk⟩]
theorem Cv(n:Nat)(hn:100<=n)(out:List Item)(t:Int)(he:enough 0 out=some t)(h0:0<=t)(h10:t<=out.length)(hl:out.length<=10)(hg:∀x∈out,aZ x) :
  ∃r,Zae.j19 n out t=some (r,())/\cz r/\r.length<=19/\∀x∈r,aZ x:=by
 unfold Zae.j19;simp only[dt];by_cases h:t=0;·rw[if_pos h];refine⟨_,rfl,rfl,by simp,fun x hx=>?_⟩;rw[PS] at hx;subst hx;exact⟨by decide,by decide,rfl⟩
 ·rw[if_neg h];exact GA n n out t he (by omega) (by omega) (by omega) (by omega) hg
end Rv
namespace Rv
open Go
theorem OZ(k:Int):-6<Int.tmod k 6/\Int.tmod k 6<6:=by
 by_cases h:0<=k;·rw[Qa h];omega
 ·have:k=-(-k):=by omega
  rw[this,Int.neg_tmod,Qa (by omega)];omega
def kindOf(k:Int):Int:=IntKind.i64.wrap (1+Int.tmod (IntKind.i64.wrap (Int.tmod k 6+6)) 6)
theorem AP(k:Int):1<=kindOf k/\kindOf k<=6:=by
 unfold kindOf;have h1:=OZ k;rw[w64 (x:=Int.tmod k 6+6) (by omega),Qa (show 0<=Int.tmod k 6+6 by omega),w64 (by omega)];omega
end Rv
namespace Rv
open Go
def mH(l:List Item):Prop:=∀x∈l,0<=x.2.1/\x.2.1<=4294967295/\x.2.2.1.length<=9223372036854775807
theorem lG(n:Nat)(rl)(l out:List Item)(t:Int)(i:Nat)(hi:i<10)(hlen:out.length=i)(x:Item) :
  Zae.j18 n rl l out t (i:Int) x.1 x.2.1 x.2.2.1=rl l (out++[x]) t ((i+1:Nat):Int):=by
 unfold Zae.j18;rw[if_pos (by simp;omega),w64 (by omega)];rfl
theorem JI{l:List Item}{i:Nat}(h:i<l.length)(d:Item):l.getD i d∈l:=by
 rw[PD,PH h];exact Qf h
theorem JE(n:Nat)(rl)(l out:List Item)(t:Int)(i:Nat)(hi:i<10)(hil:i<l.length)(hlen:out.length=i)(ht:0<=t/\t<=i)(hw:mH l)(K:Int)(hK:1<=K/\K<=6)(h3:K=3->1<=t)(h4:4<=K->2<=t) :
  ∃x k,aj x=(k,true)/\¬t<k/\aZ x/\Zae.j9 n rl l out t (i:Int) K 0 ([]:Str)=rl l (out++[x]) (t+(1-k)) ((i+1:Nat):Int):=by
 have hx:=hw _ (JI hil ((0:Int),((0:Int),(([]:Str),()))));unfold Zae.j9;simp only[dt,PG];generalize l.getD i ((0:Int),((0:Int),(([]:Str),())))=y at hx⊢;obtain⟨hy0,hy1,hy2⟩:=hx;by_cases k1:K=1;·subst k1;rw[if_pos rfl,if_pos (by omega),w64 (by omega)];refine⟨((1:Int),y.2.1,([]:Str),()),0,rfl,by omega,⟨hy0,hy1,rfl⟩,?_⟩;exact lG n rl l out _ i hi hlen ((1:Int),y.2.1,([]:Str),())
 ·rw[if_neg k1];by_cases k2:K=2
  ·subst k2;have e1:(mn (y.2.2.1.length:Int) 6)=((min y.2.2.1.length 6:Nat):Int):=by unfold mn;split<;>omega
   obtain⟨r,hr,hlab,_⟩:=uN (y.2.2.1.take (min y.2.2.1.length 6)) (by simp;omega);have e2:(y.2.2.1.take (mn (y.2.2.1.length:Int) 6).toNat).drop 0=y.2.2.1.take (min y.2.2.1.length 6):=by rw[e1,PG,PV]
   rw[if_pos rfl,if_pos (by omega),if_pos (by omega),if_pos (by rw[e1];omega),e2,hr,Pt,w64 (by omega)];have hn:aj ((2:Int),0,r,())=(0,true):=by
    unfold aj;simp[hlab]
   refine⟨((2:Int),0,r,()),0,hn,by omega,⟨Int.le_refl 0,(by decide:(0:Int)<=4294967295),by rw[hn]⟩,?_⟩;exact lG n rl l out _ i hi hlen ((2:Int),0,r,())
  ·rw[if_neg k2];by_cases k3:K=3
   ·subst k3;rw[if_pos rfl];refine⟨((3:Int),0,([]:Str),()),1,rfl,by have:=h3 rfl;omega,⟨by decide,by decide,rfl⟩,?_⟩;rw[show t+(1-1)=t by omega];exact lG n rl l out _ i hi hlen ((3:Int),0,([]:Str),())
   ·rw[if_neg k3,w64 (by omega)];have hn:aj (K,0,([]:Str),())=(2,true):=by
     unfold aj;have:K=4\/K=5\/K=6:=by omega
     simp[k1,k2,k3,this]
    refine⟨(K,0,([]:Str),()),2,hn,by have:=h4 (by omega);omega,⟨Int.le_refl 0,(by decide:(0:Int)<=4294967295),by rw[hn]⟩,?_⟩;rw[show t+(1-2)=t-1 by omega];exact lG n rl l out _ i hi hlen (K,0,([]:Str),())
theorem EJ(l:List Item)(hl:l.length<=9223372036854775807)(hw:mH l)(n:Nat)(hn:100<=n):∀(m i:Nat) (out:List Item) (t:Int),i<=l.length->i<=10->10-i<m->out.length=i->enough 0 out=some t->0<=t->t<=i->(∀x∈out,aZ x) ->
  ∃r,Zae.l4 n m l out t (i:Int)=some (r,())/\cz r/\r.length<=19/\∀x∈r,aZ x:=by
 intro m
 induction m with
 |zero=>intro i out t _ _ h;omega
 |succ m ih=>
  intro i out t hi hi10 hm hlen he h0 ht hg;have fin:=Cv n hn out t he h0 (by omega) (by omega) hg;simp only[Zae.l4,dt,df,PG];by_cases h1:i<l.length
  ·rw[if_pos (show(i:Int)<l.length by omega)];by_cases h2:i<10
   ·rw[if_pos (show(i:Int)<10 by omega),if_pos (by omega)];have hkk:IntKind.i64.wrap (1+Int.tmod (IntKind.i64.wrap (Int.tmod (l.getD i ((0:Int),((0:Int),(([]:Str),())))).1 6+6)) 6)=kindOf (l.getD i ((0:Int),((0:Int),(([]:Str),())))).1:=rfl;rw[hkk];have hK:=AP (l.getD i ((0:Int),((0:Int),(([]:Str),())))).1;generalize kindOf (l.getD i ((0:Int),((0:Int),(([]:Str),())))).1=K at *;have go:∀K:Int,1<=K/\K<=6->(K=3->1<=t)->(4<=K->2<=t)->∃r,Zae.j9 n (Zae.l4 n m) l out t (i:Int) K 0 ([]:Str)=some (r,())/\cz r/\r.length<=19/\∀x∈r,aZ x:=fun K hK h3 h4=>by
     obtain⟨x,k,hx,hk,hgx,heq⟩:=JE n (Zae.l4 n m) l out t i h2 h1 hlen ⟨h0,ht⟩ hw K hK h3 h4;rw[heq];have hr:=om x;rw[hx] at hr;refine ih (i+1) (out++[x]) (t+(1-k)) (by omega) (by omega) (by omega) (by simp[hlen]) (Cr he hx hk) (by simp at hr;omega) (by simp at hr;omega) fun y hy=>?_
     rcases PL.1 hy with hy|hy;·exact hg y hy
     ·rw[PS] at hy;subst hy;exact hgx
    by_cases k3:K=3
    ·rw[if_pos k3];by_cases t1:t<1
     ·rw[if_neg (by omega)];exact go 1 (by omega) (by omega) (by omega)
     ·rw[if_pos t1];by_cases k4:3<K
      ·omega
      ·rw[if_neg k4];exact go K hK (by omega) (by omega)
    ·rw[if_neg k3];by_cases k4:3<K
     ·rw[if_pos k4];by_cases t2:t<2
      ·rw[if_pos t2];exact go 1 (by omega) (by omega) (by omega)
      ·rw[if_neg t2];exact go K hK (by omega) (by omega)
     ·rw[if_neg k4];exact go K hK (by omega) (by omega)
   ·rw[if_neg (by omega)];exact fin
  ·rw[if_neg (by omega)];exact fin
theorem Aq(l:List Item)(hl:l.length<=9223372036854775807)(hw:mH l):∃r,Zae.g l=some (r,())/\cz r/\r.length<=19/\∀x∈r,aZ x:=by
 unfold Zae.g Zae.f;exact EJ l hl hw _ (by omega) _ 0 [] 0 (by omega) (by omega) (by omega) rfl rfl (by omega) (by omega) (fun x hx=>by cases hx)
end Rv
namespace Rv
open Go
theorem Ct(l:List Sym)(s:Str)(hl:l.length<=4611686018427387904)(n:Nat):∀(m i:Nat),i<=l.length->l.length-i<m ->
  Zbl.l2 n m l s (i:Int)=some ((aN s (l.drop i)).getD 0,(aN s (l.drop i)).isSome,()):=by
 intro m
 induction m with
 |zero=>intro i _ h;omega
 |succ m ih=>
  intro i hi hm;by_cases h1:i<l.length
  ·have hx:l.drop i=l.getD i (([]:Str),((0:Int),()))::l.drop (i+1):=by
    rw[P6 h1,PD,PH h1];rfl
   rw[hx];simp only[Zbl.l2,dt,PG];rw[if_pos (by omega),if_pos (by omega)];generalize l.getD i (([]:Str),((0:Int),()))=x;unfold aN;by_cases h2:x.1=s;·rw[if_pos h2,if_pos h2,if_pos (by omega)];rfl
   ·rw[if_neg h2,if_neg h2,w64 (by omega),show(i:Int)+1=((i+1:Nat):Int) by omega,ih (i+1) (by omega) (by omega)]
  ·have hi':i=l.length:=by omega
   subst hi';simp only[Zbl.l2,dt];rw[if_neg (by omega),PZ];rfl
theorem nK(l:List Sym)(s:Str)(hl:l.length<=4611686018427387904):Zbl.g l s=some ((aN s l).getD 0,(aN s l).isSome,()):=by
 unfold Zbl.g Zbl.f;have:=Ct l s hl (1000+l.length+s.length) (1000+l.length+s.length) 0 (by omega) (by omega)
 rwa [PV] at this
theorem yK{s:Str}:∀{l:List Sym},aN s l=none->s ∉ l.map (·.1)
 |[],_=>by simp
 |x::l,h=>by
  unfold aN at h;split at h;·cases h
  ·rename_i hne;simp only[PW,PM,not_or];exact⟨fun e=>hne e.symm,yK h⟩
end Rv
namespace Rv
open Go
theorem KJ(labels:List Sym)(e:List Item)(n:Nat)(rl)(i:Nat)(hi:i<=1000)(b0 b1:Int)(st tl:List Val)(hst:st.length+tl.length<=1000)(v0 v1:Int) :
  Zal.j29 n rl e labels (st++tl) (i:Int) (st.length:Int) b0 b1 v0 v1=rl e labels (st++[(v0,v1,())]) ((i+1:Nat):Int) b0 b1:=by
 unfold Zal.j29;rw[if_pos (by simp;omega),PG,List.take_left,Qi,if_pos (by simp;omega),if_pos (by simp;omega),w64 (by omega)];rfl
theorem KI(labels:List Sym)(hlab:labels.length<=4611686018427387904)(e:List Item)(he:e.length<=999)(n:Nat):∀(m i:Nat) (st:List Val) (b0 b1:Int),i<=e.length->e.length-i<m->dU (st.length:Int) (e.drop i)=true->st.length<=i ->
  Zal.l5 n m e labels st (i:Int) b0 b1=match fB labels st (e.drop i) with
   | .error x=>some (0,0,x,())
   | .ok st'=>ut st':=by
 intro m
 induction m with
 |zero=>intro i st b0 b1 _ h;omega
 |succ m ih=>
  intro i st b0 b1 hi hm hw hst;rw[Zal.l5];simp only[dt,df,PG];by_cases h1:i<e.length
  ·have hx:e.drop i=e.getD i ((0:Int),((0:Int),(([]:Str),())))::e.drop (i+1):=by
    rw[P6 h1,PD,PH h1];rfl
   rw[hx] at hw⊢;rw[if_pos (by omega),if_pos (by omega),if_pos (by omega)];generalize e.getD i ((0:Int),((0:Int),(([]:Str),())))=x at hw⊢;obtain⟨a,b,c,u⟩:=x;cases u;simp only[dU,Pz,Bool.not_eq_true',decide_eq_false_iff_not] at hw;obtain⟨hk,hlt,hw⟩:=hw;have next:∀(s tl:List Val) (v0 v1:Int),s.length+tl.length<=1000->s.length+1<=i+1->dU ((s.length+1:Nat):Int) (e.drop (i+1))=true ->
     Zal.j29 n (Zal.l5 n m) e labels (s++tl) (i:Int) (s.length:Int) b0 b1 v0 v1=match fB labels (s++[(v0,v1,())]) (e.drop (i+1)) with
      | .error x=>some (0,0,x,())
      | .ok st'=>ut st':=fun s tl v0 v1 hs1 hs hws=>by
    rw[KJ labels e n _ i (by omega) b0 b1 s tl hs1 v0 v1];exact ih (i+1) _ b0 b1 (by omega) (by omega) (by simpa using hws) (by simpa using hs)
   simp only[fB,gX];by_cases k2:a=2
   ·subst k2;rw[if_pos rfl,if_pos rfl,if_pos (by omega),nK labels c hlab,Pt];have e0:(aj (2,b,c,())).1=0:=rfl;rw[e0] at hw;cases hf:aN c labels with
    |none=>rfl
    |some at_=>
     dsimp only[Option.isSome,Option.getD];rw[if_neg (by simp)];have:=next st [] (IntKind.u32.wrap at_) 1 (by simp;omega) (by omega) (by simpa using hw)
     rwa [Qm] at this
   ·rw[if_neg k2,if_neg k2];by_cases k3:a=3
    ·subst k3;have e0:(aj (3,b,c,())).1=1:=rfl;rw[e0] at hlt hw;rcases je st with rfl|⟨l,v,rfl⟩
     ·simp at hlt
     ·obtain⟨g1,g2⟩:=dx l v;have hw1:IntKind.i64.wrap (((l++[v]).length:Int)-1)=(l.length:Int):=by rw[w64 (by simp at hst⊢;omega)];simp
      have hgd:(l++[v]).getD l.length ((0:Int),((0:Int),()))=v:=by
       rw[PD,List.getElem?_append_right (PI _)];simp
      rw[if_pos rfl,if_pos rfl,g1,g2,hw1,if_pos (by simp;omega),if_pos (by simp;omega)];simp only[PG,hgd];exact next l [v] _ _ (by simp at hst⊢;omega) (by simp at hst;omega) (by simpa using hw)
    ·rw[if_neg k3,if_neg k3];by_cases k4:a=4\/a=5\/a=6
     ·have e0:(aj (a,b,c,())).1=2:=by
       unfold aj;rcases k4 with rfl|rfl|rfl<;>rfl
      rw[e0] at hlt hw;rcases je st with rfl|⟨l0,v,rfl⟩;·simp at hlt
      ·rcases je l0 with rfl|⟨l,w,rfl⟩
       ·simp at hlt
       ·obtain⟨g1,g2⟩:=dx (l++[w]) v;obtain⟨g3,g4⟩:=dx l w;rw[if_pos k4,g1,g2,g3,g4];dsimp only;have hw1:IntKind.i64.wrap (((l++[w]++[v]).length:Int)-2)=(l.length:Int):=by rw[w64 (by simp at hst⊢;omega)];simp<;>omega
        have hw2:IntKind.i64.wrap ((l.length:Int)+1)=((l.length+1:Nat):Int):=by rw[w64 (by simp at hst;omega)];omega
        have hd1:(l++[w]++[v]).getD l.length ((0:Int),((0:Int),()))=w:=by
         rw[PU,PD,List.getElem?_append_right (PI _)];simp
        have hd2:(l++[w]++[v]).getD (l.length+1) ((0:Int),((0:Int),()))=v:=by
         rw[PU,PD,List.getElem?_append_right (by omega)];simp
        have hlen:(l++[w]++[v]).length=l.length+2:=by simp
        have hc1:0<=(l.length:Int)/\(l.length:Int)<((l++[w]++[v]).length:Int):=by rw[hlen];omega
        have hc2:0<=((l.length+1:Nat):Int)/\((l.length+1:Nat):Int)<((l++[w]++[v]).length:Int):=by rw[hlen];omega
        simp only[hw1,hw2,PG,hd1,hd2];have hs1:l.length+1<=i+1:=by simp at hst;omega
        have hwx:dU ((l.length+1:Nat):Int) (e.drop (i+1))=true:=by
         have:((l++[w]++[v]).length:Int)+(1-2)=((l.length+1:Nat):Int):=by simp;omega
         rw[<- this];exact hw
        have hn:=fun v0 v1=>next l ([w]++[v]) v0 v1 (by simp at hst⊢;omega) hs1 hwx
        rw[<- PU] at hn;rcases k4 with rfl|rfl|rfl;·rw[if_pos rfl,if_pos rfl,if_pos hc1,if_pos hc2,if_pos hc1,if_pos hc2];exact hn _ _
        ·rw[if_neg (show ¬(5:Int)=4 by decide),if_neg (show ¬(5:Int)=4 by decide),if_pos rfl,if_pos rfl,if_pos hc1,if_pos hc2,if_pos hc1,if_pos hc2];exact hn _ _
        ·rw[if_neg (show ¬(6:Int)=4 by decide),if_neg (show ¬(6:Int)=4 by decide),if_neg (show ¬(6:Int)=5 by decide),if_neg (show ¬(6:Int)=5 by decide),if_pos rfl,if_pos hc1];by_cases z1:w.2.1=0
         ·rw[if_pos (by simpa using z1),if_pos hc2];by_cases z2:v.2.1=0
          ·rw[if_neg (by simpa using z2),if_pos hc1,if_pos hc2,if_pos ⟨z1,z2⟩];exact hn _ _
          ·rw[if_pos z2,if_neg (show ¬(w.2.1=0/\v.2.1=0) from fun h=>z2 h.2)]
         ·rw[if_neg (by simpa using z1),if_neg (show ¬(w.2.1=0/\v.2.1=0) from fun h=>z1 h.1)]
     ·have ha:a=1:=by
       apply Classical.byContradiction;intro h1';have:(aj (a,b,c,())).2=false:=by
        unfold aj;simp[h1',k2,k3,k4]
       rw[this] at hk;cases hk
      subst ha;have e0:(aj (1,b,c,())).1=0:=rfl;rw[e0] at hw;rw[if_neg k4,if_neg (show ¬(1:Int)=4 by decide),if_neg (show ¬(1:Int)=5 by decide),if_neg (show ¬(1:Int)=6 by decide)];have:=next st [] b 0 (by simp;omega) (by omega) (by simpa using hw)
      rwa [Qm] at this
  ·have hi':i=e.length:=by omega
   subst hi';rw[if_neg (by omega),PZ];simp only[fB];rw[PZ] at hw;simp only[dU,Px] at hw
   match st,hw with
   |[v],_=>
    rw[if_pos (by simp)];rfl
   |[],hw=>simp at hw
   |_::_::_,hw=>simp at hw;omega
theorem Ib(labels:List Sym)(hlab:labels.length<=4611686018427387904)(e:List Item)(he:e.length<=100000)(hn:∀x∈e,x.2.2.1.length<=100000):Zal.g e labels=ofR labels e:=by
 unfold Zal.g Zal.f ofR;rw[KS e he hn,Pt];dsimp only;by_cases hw:well e=true;·rw[hw,if_neg (by decide),if_pos rfl];unfold well at hw;rw[Pz,Px] at hw;exact KI labels hlab e (by omega) _ _ 0 [] 0 0 (by omega) (by omega) (by simpa using hw.1) (by simp)
 ·have hw':well e=false:=by simpa using hw
  rw[hw'];rfl
end Rv
namespace Rv
open Go
theorem JZ(x:Ln):Zet.g x.2.1.1 x.2.1.2.1 x.2.1.2.2.1 x.2.1.2.2.2.1 x.2.1.2.2.2.2.1 x.2.1.2.2.2.2.2.1 x.2.1.2.2.2.2.2.2.1 x.2.1.2.2.2.2.2.2.2.1=some ((jW x:Int),()):=by
 unfold Zet.g Zet.f jW;simp only[dt];by_cases h0:x.2.1.1=0;·rw[if_pos h0,if_pos h0,if_pos (.inl h0)];rfl
 ·rw[if_neg h0];by_cases h1:x.2.1.1=10
  ·rw[if_pos h1,if_pos (.inr h1)];rfl
  ·rw[if_neg h1,if_neg (by rintro(h|h)<;>contradiction)];rfl
theorem KR(x:Ln):Zev.g x.2.1.1 x.2.1.2.1 x.2.1.2.2.1 x.2.1.2.2.2.1 x.2.1.2.2.2.2.1 x.2.1.2.2.2.2.2.1 x.2.1.2.2.2.2.2.2.1 x.2.1.2.2.2.2.2.2.2.1=some ((jW x:Int),()):=by
 unfold Zev.g Zev.f jW;simp only[dt,df];by_cases h0:x.2.1.1=0;·rw[if_neg (by simpa using h0),if_pos (.inl h0)];rfl
 ·rw[if_pos h0];by_cases h1:x.2.1.1=10
  ·rw[if_pos h1,if_pos (.inr h1)];rfl
  ·rw[if_neg h1,if_neg (by rintro(h|h)<;>contradiction)];rfl
theorem IQ(x:Val)(a b:Int):(decide (x.1=a)&&(decide (x.2.1=b)&&true))=decide (x=(a,b,())):=by
 obtain⟨x1,x2,_⟩:=x;simp only[Bool.and_true];by_cases h1:x1=a<;>by_cases h2:x2=b<;>simp[h1,h2]
theorem Hl(p:List Val)(a b:Int)(hp:p.length<=1000000)(n:Nat):∀(m i:Nat),i<=p.length->p.length-i<m ->
  Zco.l2 n m p p (p.length:Int) (i:Int) a b=some (if(a,b,())∈p.drop i then p else p++[(a,b,())],((i+lC (a,b,()) (p.drop i):Nat):Int),()):=by
 intro m
 induction m with
 |zero=>intro i _ h;omega
 |succ m ih=>
  intro i hi hm;rw[Zco.l2];simp only[IQ,dt,PG];by_cases h:i<p.length
  ·have hd:p.drop i=p.getD i ((0:Int),((0:Int),()))::p.drop (i+1):=by
    rw[P6 h,PD,PH h];rfl
   rw[if_pos (by omega),if_pos (by omega),hd];generalize p.getD i ((0:Int),((0:Int),()))=x;unfold lC;by_cases hx:x=(a,b,())
   ·rw[if_pos hx,if_pos (by rw[hx];simp),if_pos hx];simp
   ·rw[if_neg hx,if_neg hx,w64 (by omega),show(i:Int)+1=((i+1:Nat):Int) by omega,ih (i+1) (by omega) (by omega)];have e:((a,b,())∈x::p.drop (i+1))=((a,b,())∈p.drop (i+1)):=by
     apply propext;rw[PM];exact⟨fun h=>h.resolve_left fun e=>hx e.symm,.inr⟩
    simp only[e];rw[show i+1+lC (a,b,()) (p.drop (i+1))=i+(lC (a,b,()) (p.drop (i+1))+1) by omega]
  ·obtain rfl:i=p.length:=by omega
   rw[if_neg (by omega),PZ];unfold Zff.g Zff.f;rw[if_pos ⟨rfl,rfl,rfl⟩,Pt];dsimp only;rw[if_pos (by simp),if_pos (by simp;omega),if_neg (by simp)];rfl
theorem DW(p:List Val)(a b:Int)(hp:p.length<=1000000):Zco.g p a b=some (jY p (a,b,()),(lC (a,b,()) p:Int),()):=by
 unfold Zco.g Zco.f;have:=Hl p a b hp (1000+p.length+a.toNat+b.toNat) (1000+p.length+a.toNat+b.toNat) 0 (by omega) (by omega);rw[PV,Nat.zero_add] at this;exact this
theorem Hz(p:List Val)(a b:Int)(hp:p.length<=1000000)(n:Nat):∀(m i:Nat),i<=p.length->p.length-i<m ->
  Zcp.l2 n m p (i:Int) a b=some (if(a,b,())∈p.drop i then p else p++[(a,b,())],((i+lC (a,b,()) (p.drop i):Nat):Int),()):=by
 intro m
 induction m with
 |zero=>intro i _ h;omega
 |succ m ih=>
  intro i hi hm;rw[Zcp.l2];simp only[IQ,dt,PG];by_cases h:i<p.length
  ·have hd:p.drop i=p.getD i ((0:Int),((0:Int),()))::p.drop (i+1):=by
    rw[P6 h,PD,PH h];rfl
   rw[if_pos (by omega),if_pos (by omega),hd];generalize p.getD i ((0:Int),((0:Int),()))=x;unfold lC;by_cases hx:x=(a,b,())
   ·rw[if_pos hx,if_pos (by rw[hx];simp),if_pos hx];simp
   ·rw[if_neg hx,if_neg hx,w64 (by omega),show(i:Int)+1=((i+1:Nat):Int) by omega,ih (i+1) (by omega) (by omega)];have e:((a,b,())∈x::p.drop (i+1))=((a,b,())∈p.drop (i+1)):=by
     apply propext;rw[PM];exact⟨fun h=>h.resolve_left fun e=>hx e.symm,.inr⟩
    simp only[e];rw[show i+1+lC (a,b,()) (p.drop (i+1))=i+(lC (a,b,()) (p.drop (i+1))+1) by omega]
  ·obtain rfl:i=p.length:=by omega
   rw[if_neg (by omega),PZ,if_pos (by simp;omega),if_pos (by simp;omega),if_neg (by simp)];rfl
theorem DY(p:List Val)(a b:Int)(hp:p.length<=1000000):Zcp.g p a b=some (jY p (a,b,()),(lC (a,b,()) p:Int),()):=by
 unfold Zcp.g Zcp.f;have:=Hz p a b hp (1000+p.length+a.toNat+b.toNat) (1000+p.length+a.toNat+b.toNat) 0 (by omega) (by omega);rw[PV,Nat.zero_add] at this;exact this
theorem ul{c k:Nat}(hc:c<=1000000)(hk:k<=1):IntKind.i64.wrap (((4*c:Nat):Int)+IntKind.i64.wrap (4*(k:Int)))=((4*(c+k):Nat):Int):=by
 rw[w64 (x:=4*(k:Int)) (by omega),w64 (by omega)];omega
theorem Kq(x:Ln)(t:List Int)(lb:List Sym)(q:List Val)(c:Nat)(s:Int)(ht:t.length<=1000000)(hlb:lb.length<=1000000)(hc:c<=1000000) :
  Zdq.g x.1 x.2.1.1 x.2.1.2.1 x.2.1.2.2.1 x.2.1.2.2.2.1 x.2.1.2.2.2.2.1 x.2.1.2.2.2.2.2.1 x.2.1.2.2.2.2.2.2.1 x.2.1.2.2.2.2.2.2.2.1 t lb q ((4*c:Nat):Int) s =
   some (if x.1=[] then(0,t++[((4*c:Nat):Int)],lb,q,((4*(c+jW x):Nat):Int),s,()) else if(aN x.1 lb).isSome=true then(26,t++[((4*c:Nat):Int)],lb,q,((4*c:Nat):Int),s,())
    else(0,t++[((4*c:Nat):Int)],lb++[(x.1,((4*c:Nat):Int),())],q,((4*(c+jW x):Nat):Int),s,())):=by
 unfold Zdq.g;generalize 1000+_+_+_+_+_+_+_+_+_+_+_+_+_=n;unfold Zdq.f Zdq.j7;rw[if_pos (by simp;omega),xV lb x.1 (by omega),Pt,JZ,Pt];dsimp only;rw[ul hc (kJ x)];simp only[Bool.not_eq_true',decide_eq_false_iff_not];by_cases h:x.1=[]
 ·rw[if_neg (by simpa using h),if_pos h,Pt];dsimp only;rw[ul hc (kJ x)]
 ·rw[if_pos h,if_neg h];by_cases h2:(aN x.1 lb).isSome=true
  ·rw[if_pos h2,if_pos h2]
  ·rw[if_neg h2,if_neg h2,if_pos (by simp;omega)]
theorem ma{a:List Ln}{i:Nat}(h:i<a.length):a.drop i=a.getD i zL::a.drop (i+1):=by
 rw[P6 h,PD,PH h];rfl
theorem oL{a:List Ln}{i:Nat}(h:i<a.length):a.getD i zL∈a:=by
 rw[PD,PH h];exact Qf h
theorem Me(a:List Ln)(ha:a.length<=1000000)(n:Nat)(q:List Val)(s:Int):∀(m i:Nat) (t:List Int) (lb:List Sym) (c:Nat),i<=a.length->a.length-i<m->t.length<=i->lb.length<=i->c<=i ->
  ∃r,Zdw.l2 n m a (a.length:Int) (i:Int) t lb q ((4*c:Nat):Int) s=some r/\(∀x,bX (a.drop i) i t lb c=.error x->r.1=(x.1:Int)/\r.2.1=x.2/\x.2≠0) /\
   (∀y,bX (a.drop i) i t lb c=.ok y->r=(0,0,y.1,y.2.1,q,((4*y.2.2:Nat):Int),s,())):=by
 intro m
 induction m with
 |zero=>intro i _ _ _ _ h;omega
 |succ m ih=>
  intro i t lb c hi hm ht hlb hc;rw[Zdw.l2];simp only[dt,PG];by_cases h:i<a.length
  ·rw[if_pos (by omega),if_pos (by omega),Kq _ t lb q c s (by omega) (by omega) (by omega),Pt,ma h];have hs:=kJ (a.getD i zL);generalize a.getD i zL=x at hs;have W:IntKind.i64.wrap ((i:Int)+1)=((i+1:Nat):Int):=by rw[w64 (by omega)];omega
   rw[bX,W];by_cases h1:x.1=[]
   ·rw[if_pos h1,if_pos h1];simp only[ne_eq,not_true_eq_false,↓reduceIte];exact ih (i+1) _ _ _ (by omega) (by omega) (by simp;omega) (by omega) (by omega)
   ·rw[if_neg h1,if_neg h1];by_cases h2:(aN x.1 lb).isSome=true
    ·rw[if_pos h2,if_pos h2];dsimp only;rw[if_pos (by decide)];exact⟨_,rfl,fun y hy=>by cases hy;exact⟨rfl,rfl,(by decide:(26:Int)≠0)⟩,fun y hy=>by cases hy⟩
    ·rw[if_neg h2,if_neg h2];simp only[ne_eq,not_true_eq_false,↓reduceIte];exact ih (i+1) _ _ _ (by omega) (by omega) (by simp;omega) (by simp;omega) (by omega)
  ·obtain rfl:i=a.length:=by omega
   rw[if_neg (by omega),PZ];exact⟨_,rfl,fun x hx=>by(rw[bX] at hx;cases hx),fun y hy=>by(rw[bX] at hy;cases hy;rfl)⟩
theorem Kr(x:Ln)(t:List Int)(lb:List Sym)(q:List Val)(f s:Int)(hlb:lb.length<=1000000)(hq:q.length<=1000000)(he:(eL x).length<=4611686018427387904) :
  Zeu.g x.1 x.2.1.1 x.2.1.2.1 x.2.1.2.2.1 x.2.1.2.2.2.1 x.2.1.2.2.2.2.1 x.2.1.2.2.2.2.2.1 x.2.1.2.2.2.2.2.2.1 x.2.1.2.2.2.2.2.2.2.1 t lb q f s =
   some (if x.2.1.1=8 then(if(vOf lb (eL x)).2.2.1≠0 then((vOf lb (eL x)).2.2.1,t,lb,q,f,s,()) else if(vOf lb (eL x)).2.1<0\/1<(vOf lb (eL x)).2.1 then(27,t,lb,q,f,s,())
    else(0,t,lb,jY q ((vOf lb (eL x)).1,(vOf lb (eL x)).2.1,()),f,s,())) else(0,t,lb,q,f,s,())):=by
 unfold Zeu.g;generalize 1000+_+_+_+_+_+_+_+_+_+_+_+_+_=n;unfold Zeu.f;rw[Fe lb (by omega) _ he,uy,Pt];simp only[dt,df];by_cases h8:x.2.1.1=8
 ·rw[if_neg (by simpa using h8),if_pos h8];show(if(vOf lb (eL x)).2.2.1≠0 then _ else _)=_;by_cases h1:(vOf lb (eL x)).2.2.1≠0
  ·rw[if_pos h1,if_pos h1]
  ·rw[if_neg h1,if_neg h1,DW q _ _ hq,Pt];by_cases h2:(vOf lb (eL x)).2.1<0
   ·rw[if_neg (by simpa using h2),if_pos (.inl h2)]
   ·rw[if_pos h2];by_cases h3:1<(vOf lb (eL x)).2.1
    ·rw[if_pos h3,if_pos (.inr h3)]
    ·rw[if_neg h3,if_neg (by rintro(h|h)<;>contradiction)]
 ·rw[if_pos h8,if_neg h8]
theorem Mf(a:List Ln)(ha:a.length<=1000000)(he:∀x∈a,(eL x).length<=4611686018427387904)(n:Nat)(t:List Int)(lb:List Sym)(hlb:lb.length<=1000000)(f s:Int):∀(m i:Nat) (q:List Val),i<=a.length->a.length-i<m->q.length<=i ->
  ∃r,Zdx.l2 n m a (a.length:Int) (i:Int) t lb q f s=some r/\(∀x,cu lb (a.drop i) i q=.error x->r.1=(x.1:Int)/\r.2.1=x.2/\x.2≠0) /\
   (∀y,cu lb (a.drop i) i q=.ok y->r=(0,0,t,lb,y,f,s,())):=by
 intro m
 induction m with
 |zero=>intro i _ _ h;omega
 |succ m ih=>
  intro i q hi hm hq;rw[Zdx.l2];simp only[dt,PG];by_cases h:i<a.length
  ·rw[if_pos (by omega),if_pos (by omega),Kr _ t lb q f s hlb (by omega) (he _ (oL h)),Pt,ma h];generalize a.getD i zL=x;have W:IntKind.i64.wrap ((i:Int)+1)=((i+1:Nat):Int):=by rw[w64 (by omega)];omega
   rw[cu,W];by_cases h8:x.2.1.1=8
   ·rw[if_pos h8,if_pos h8];show ∃r,_/\(∀y,(if(vOf lb (eL x)).2.2.1≠0 then _ else _)=_->_)/\_;by_cases h1:(vOf lb (eL x)).2.2.1≠0
    ·rw[if_pos h1];dsimp only;rw[if_pos h1];refine⟨_,rfl,fun y hy=>?_,fun y hy=>?_⟩
     ·rw[if_pos h1] at hy;cases hy;exact⟨rfl,rfl,h1⟩
     ·rw[if_pos h1] at hy;cases hy
    ·rw[if_neg h1];by_cases h2:(vOf lb (eL x)).2.1<0\/1<(vOf lb (eL x)).2.1
     ·rw[if_pos h2];dsimp only;rw[if_pos (by decide)];refine⟨_,rfl,fun y hy=>?_,fun y hy=>?_⟩
      ·rw[if_neg h1,if_pos h2] at hy;cases hy;exact⟨rfl,rfl,(by decide:(27:Int)≠0)⟩
      ·rw[if_neg h1,if_pos h2] at hy;cases hy
     ·rw[if_neg h2];simp only[ne_eq,not_true_eq_false,↓reduceIte];have hl:=vk q ((vOf lb (eL x)).1,(vOf lb (eL x)).2.1,());obtain⟨r,hr,g1,g2⟩:=ih (i+1) (jY q ((vOf lb (eL x)).1,(vOf lb (eL x)).2.1,())) (by omega) (by omega) (by omega);refine⟨r,hr,fun y hy=>g1 y ?_,fun y hy=>g2 y ?_⟩
      ·rw[if_neg h1,if_neg h2] at hy;exact hy
      ·rw[if_neg h1,if_neg h2] at hy;exact hy
   ·rw[if_neg h8,if_neg h8];simp only[ne_eq,not_true_eq_false,↓reduceIte];exact ih (i+1) q (by omega) (by omega) (by omega)
  ·obtain rfl:i=a.length:=by omega
   rw[if_neg (by omega),PZ];exact⟨_,rfl,fun x hx=>by(rw[cu] at hx;cases hx),fun y hy=>by(rw[cu] at hy;cases hy;rfl)⟩
theorem xm{c k:Nat}(hc:c<=1000000)(hk:k<=1000000):IntKind.i64.wrap (IntKind.i64.wrap (Int.tdiv ((4*c:Nat):Int) 4)+(k:Int))=((c+k:Nat):Int):=by
 have:Int.tdiv ((4*c:Nat):Int) 4=(c:Int):=by
  rw[Int.tdiv_eq_ediv_of_nonneg (by omega)];omega
 rw[this,w64 (x:=(c:Int)) (by omega),w64 (by omega)];omega
theorem MV(a:List Ln)(ha:a.length<=1000000)(he:∀x∈a,(eL x).length<=4611686018427387904):Zbv.g a=some (bG a):=by
 have key:∀n m,3<=m->Zbv.l4 n m a 2 0 [] [] [] 0 0=some (bG a):=by
  intro n m hm;obtain⟨k,rfl⟩:∃k,m=k+3:=⟨m-3,by omega⟩
  obtain⟨r,hr,g1,g2⟩:=Me a ha (1000+a.length+([]:List Int).length+([]:List Sym).length+([]:List Val).length+(0:Int).toNat+(0:Int).toNat) [] 0 (1000+a.length+([]:List Int).length+([]:List Sym).length+([]:List Val).length+(0:Int).toNat+(0:Int).toNat) 0 [] [] 0 (by omega) (by omega) (by simp) (by simp) (by omega);rw[PV] at g1 g2;have hr':Zdw.g a [] [] [] 0 0=some r:=hr;rw[Zbv.l4,if_pos (by decide),if_pos rfl,hr',Pt,Zbv.j7];unfold bG zX;cases hp:bX a 0 [] [] 0 with
  |error x=>
   obtain⟨e1,e2,e3⟩:=g1 x hp;rw[e1,e2];simp only[dt];rw[if_pos e3];rfl
  |ok y=>
   obtain rfl:=g2 y hp;simp only[ne_eq,not_true_eq_false,decide_false,Bool.false_eq_true,↓reduceIte];have hl:=lQ _ _ _ _ _ hp;simp only[Qp,Nat.zero_add] at hl;rw[show IntKind.i64.wrap ((0:Int)+1)=1 from rfl,Zbv.l4,if_pos (by decide),if_neg (by decide),if_pos rfl];obtain⟨r2,hr2,k1,k2⟩:=Mf a ha he (1000+a.length+y.1.length+y.2.1.length+([]:List Val).length+(((4*y.2.2:Nat):Int)).toNat+(0:Int).toNat) y.1 y.2.1 (by omega) ((4*y.2.2:Nat):Int) 0 (1000+a.length+y.1.length+y.2.1.length+([]:List Val).length+(((4*y.2.2:Nat):Int)).toNat+(0:Int).toNat) 0 [] (by omega) (by omega) (by simp);rw[PV] at k1 k2;have hr2':Zdx.g a y.1 y.2.1 [] ((4*y.2.2:Nat):Int) 0=some r2:=hr2;rw[hr2',Pt,Zbv.j7];cases hq:cu y.2.1 a 0 [] with
   |error x=>
    obtain⟨e1,e2,e3⟩:=k1 x hq;rw[e1,e2];simp only[dt];rw[if_pos e3];rfl
   |ok z=>
    obtain rfl:=k2 z hq;have hz:=nN _ _ _ _ hq;simp only[Qp,Nat.zero_add] at hz;simp only[ne_eq,not_true_eq_false,decide_false,Bool.false_eq_true,↓reduceIte];rw[show IntKind.i64.wrap ((1:Int)+1)=2 from rfl,Zbv.l4,if_neg (by decide),xm (by omega) (by omega)];simp only[dt];unfold nP;by_cases hw:1024<y.2.2+z.length;·rw[if_pos (by omega)];dsimp only;rw[if_pos hw];rfl
    ·rw[if_neg (by omega)];dsimp only;rw[if_neg hw]
 exact key _ _ (by omega)
end Rv
namespace Rv
open Go
def sN(a b low high:Int):Int×Int×Unit:=if low<=a/\a<=high then(a,0,()) else if low<=b/\b<=high then(b,0,()) else(0,28,())
theorem Kg(n m:Nat)(a b low high:Int):Zax.l7 n (m+3) low high a b 0=some (sN a b low high):=by
 have e2:Zax.l7 n (m+1) low high a b 2=some (0,28,()):=by
  simp only[Zax.l7,dt];rw[if_neg (by decide)]
 have e1:Zax.l7 n (m+2) low high a b 1=some (if low<=b/\b<=high then(b,0,()) else(0,28,())):=by
  rw[Zax.l7];simp only[dt,Zax.j11];rw[if_pos (by decide),if_pos (by decide),show([a,b].getD (1:Int).toNat 0)=b from rfl,show IntKind.i64.wrap (1+1)=2 by decide,e2];by_cases h1:low<=b
  ·by_cases h2:b<=high
   ·rw[if_pos h1,if_pos h2,if_pos ⟨h1,h2⟩]
   ·rw[if_pos h1,if_neg h2,if_neg (fun h=>h2 h.2)]
  ·rw[if_neg h1,if_neg (fun h=>h1 h.1)]
 rw[Zax.l7];simp only[dt,Zax.j11];rw[if_pos (by decide),if_pos (by decide),show([a,b].getD (0:Int).toNat 0)=a from rfl,show IntKind.i64.wrap (0+1)=1 by decide,e1];unfold sN;by_cases h1:low<=a
 ·by_cases h2:a<=high
  ·rw[if_pos h1,if_pos h2,if_pos ⟨h1,h2⟩]
  ·rw[if_pos h1,if_neg h2,if_neg (show ¬(low<=a/\a<=high) from fun h=>h2 h.2)]
 ·rw[if_neg h1,if_neg (show ¬(low<=a/\a<=high) from fun h=>h1 h.1)]
theorem F4(e:List Item)(labels:List Sym)(low high v1 v2 x:Int)(h:Zam.g e labels=some (v1,v2,x,())) :
  Zax.g e labels low high=some (if x≠0 then(0,x,()) else if v2≠0 then(0,27,()) else sN (IntKind.i64.wrap (IntKind.i32.wrap v1)) (IntKind.i64.wrap v1) low high):=by
 unfold Zax.g Zax.f;rw[h,Pt];simp only[dt];have z:¬((0:Int)≠0):=by decide
 by_cases h1:x=0
 ·subst h1;rw[if_neg z,if_neg z];by_cases h2:v2=0
  ·subst h2;rw[if_neg z,if_neg z];have:∀k,3<=k->Zax.l7 k k low high (IntKind.i64.wrap (IntKind.i32.wrap v1)) (IntKind.i64.wrap v1) 0=some (sN (IntKind.i64.wrap (IntKind.i32.wrap v1)) (IntKind.i64.wrap v1) low high):=fun k hk=>by
    obtain⟨m,rfl⟩:∃m,k=m+3:=⟨k-3,by omega⟩
    exact Kg _ m _ _ _ _
   exact this _ (by omega)
  ·rw[if_pos (show v2≠0 from h2),if_pos (show v2≠0 from h2)]
 ·rw[if_pos (show x≠0 from h1),if_pos (show x≠0 from h1)]
end Rv
namespace Rv
open Go
abbrev W32:=BitVec 32
theorem ofI(W:W32):BitVec.ofInt 32 (W.toNat:Int)=W:=by simp
theorem Cj(x:Int):IntKind.u32.wrap x=((BitVec.ofInt 32 x).toNat:Int):=by
 rw[IntKind.wrap_u32,BitVec.toNat_ofInt];omega
theorem Ld(W:W32):IntKind.u32.wrap (W.toNat:Int)=(W.toNat:Int):=by rw[Cj,ofI]
theorem gU(A B:W32):ay .or .u32 (A.toNat:Int) (B.toNat:Int)=((A ||| B).toNat:Int):=by
 show IntKind.u32.wrap (((BitVec.ofInt 32 (A.toNat:Int) ||| BitVec.ofInt 32 (B.toNat:Int)).toNat:Nat):Int)=_;rw[ofI,ofI,Ld]
theorem Lg(A B:W32):ay .and .u32 (A.toNat:Int) (B.toNat:Int)=((A &&& B).toNat:Int):=by
 show IntKind.u32.wrap (((BitVec.ofInt 32 (A.toNat:Int) &&& BitVec.ofInt 32 (B.toNat:Int)).toNat:Nat):Int)=_;rw[ofI,ofI,Ld]
theorem I9(A B:W32):ay .andNot .u32 (A.toNat:Int) (B.toNat:Int)=((A &&& ~~~B).toNat:Int):=by
 show IntKind.u32.wrap (((BitVec.ofInt 32 (A.toNat:Int) &&& ~~~BitVec.ofInt 32 (B.toNat:Int)).toNat:Nat):Int)=_;rw[ofI,ofI,Ld]
theorem xD(A:W32)(b:Nat)(hb:b<=32):IntKind.u32.wrap ((A.toNat:Int)*2 ^ (min ((b:Int)).toNat IntKind.u32.bits))=((A <<< b).toNat:Int):=by
 have e:min ((b:Int)).toNat IntKind.u32.bits=b:=by show min ((b:Int)).toNat 32=b;omega
 rw[e,IntKind.wrap_u32,BitVec.toNat_shiftLeft,Nat.shiftLeft_eq];have:(A.toNat:Int)*2 ^ b=((A.toNat*2 ^ b:Nat):Int):=by rw[Int.natCast_mul,Int.natCast_pow];rfl
 rw[this];generalize A.toNat*2 ^ b=q;omega
theorem LB(A:W32)(b:Nat)(hb:b<=32):(A.toNat:Int).fdiv (2 ^ (min ((b:Int)).toNat IntKind.u32.bits))=((A >>> b).toNat:Int):=by
 have e:min ((b:Int)).toNat IntKind.u32.bits=b:=by show min ((b:Int)).toNat 32=b;omega
 rw[e,BitVec.toNat_ushiftRight,Nat.shiftRight_eq_div_pow,Int.fdiv_eq_ediv_of_nonneg _ (Int.le_of_lt (Int.pow_pos (by decide))),Int.natCast_ediv,Int.natCast_pow];rfl
def uC(W X:W32)(b p:Nat):W32:=(W &&& ~~~(1#32 <<< b)) ||| (((X >>> p) &&& 1#32) <<< b)
def dC(W X:W32)(a:Nat):Nat->W32
 |0=>W
 |k+1=>uC (dC W X a k) X (a+k) k
def dK(W:W32)(a:Nat):Nat->W32
 |0=>0
 |k+1=>dK W a k ||| (((W >>> (a+k)) &&& 1#32) <<< k)
theorem DR(j:Nat):(1#32).getLsbD j=decide (j=0):=by
 rw[BitVec.getLsbD_one];simp
theorem Da(W X:W32){b p:Nat}(hb:b<32){j:Nat}(hj:j<32):(uC W X b p).getLsbD j=if j=b then X.getLsbD p else W.getLsbD j:=by
 unfold uC;rw[BitVec.getLsbD_or,BitVec.getLsbD_and,BitVec.getLsbD_not,BitVec.getLsbD_shiftLeft,BitVec.getLsbD_shiftLeft,BitVec.getLsbD_and,BitVec.getLsbD_ushiftRight,DR];by_cases h:j=b;·subst h;simp[hj]
 ·rw[if_neg h];by_cases h2:j<b
  ·simp[hj,h2]
  ·have:¬j-b=0:=by omega
   simp[hj,this]
theorem kI(W X:W32){a:Nat}:∀{n:Nat},a+n<=32->∀{j:Nat},j<32->(dC W X a n).getLsbD j=if a<=j/\j<a+n then X.getLsbD (j-a) else W.getLsbD j
 |0,_,j,_=>by rw[if_neg (by omega)];rfl
 |n+1,h,j,hj=>by
  rw[dC,Da _ _ (by omega) hj];by_cases e:j=a+n;·rw[if_pos e,if_pos (by omega),e,Nat.add_sub_cancel_left]
  ·rw[if_neg e,kI W X (by omega) hj];by_cases e2:a<=j/\j<a+n
   ·rw[if_pos e2,if_pos (by omega)]
   ·rw[if_neg e2,if_neg (by omega)]
theorem fA(W:W32){a:Nat}:∀{n:Nat},n<=32->∀{j:Nat},j<32->(dK W a n).getLsbD j=(decide (j<n)&&W.getLsbD (a+j))
 |0,_,j,_=>by simp[dK]
 |n+1,h,j,hj=>by
  rw[dK,BitVec.getLsbD_or,fA W (by omega) hj,BitVec.getLsbD_shiftLeft,BitVec.getLsbD_and,BitVec.getLsbD_ushiftRight,DR];by_cases e:j=n;·subst e;simp[hj]
  ·by_cases e2:j<n
   ·simp[e2];omega
   ·have h1:¬j-n=0:=by omega
    have h2:¬j<n+1:=by omega
    simp[e2,h1,h2]
theorem jZ{A B:W32}(h:∀j,j<32->A.getLsbD j=B.getLsbD j):A=B:=BitVec.eq_of_getLsbD_eq fun j hj=>h j hj
theorem wS(W X:W32){a n b m:Nat}(h:a+n<=32)(h1:a<=b)(h2:b+m<=a+n):dK (dC W X a n) b m=dK X (b-a) m:=jZ fun j hj=>by
 rw[fA _ (by omega) hj,fA _ (by omega) hj];by_cases e:j<m;·rw[kI _ _ h (by omega),if_pos (by omega),show b+j-a=b-a+j by omega]
 ·simp[e]
theorem Du(W X:W32){a n b m:Nat}(h:a+n<=32)(hb:b+m<=32)(h1:b+m<=a\/a+n<=b):dK (dC W X a n) b m=dK W b m:=jZ fun j hj=>by
 rw[fA _ (by omega) hj,fA _ (by omega) hj];by_cases e:j<m;·rw[kI _ _ h (by omega),if_neg (by omega)]
 ·simp[e]
theorem Ay(b m:Nat)(hm:m<=32):dK 0 b m=0:=jZ fun j hj=>by
 rw[fA _ hm hj];simp
theorem Ml{X:W32}{n:Nat}(hn:n<=32)(hx:X.toNat<2 ^ n):dK X 0 n=X:=jZ fun j hj=>by
 rw[fA _ hn hj,Nat.zero_add];by_cases e:j<n;·simp[e]
 ·have:X.getLsbD j=false:=by
   show X.toNat.testBit j=false;exact Nat.testBit_lt_two_pow (Qo hx (Nat.pow_le_pow_right (by decide) (by omega)))
  simp[e,this]
theorem NM(W:W32)(a:Nat){n:Nat}(hn:n<=32):(dK W a n).toNat<2 ^ n:=by
 refine Nat.lt_pow_two_of_testBit _ fun j hj=>?_
 by_cases h:j<32;·have:=fA W (a:=a) hn h;show(dK W a n).getLsbD j=false;rw[this];simp;omega
 ·exact BitVec.getLsbD_of_ge _ _ (by omega)
theorem Nh(W X:W32){b p:Nat}(hb:b<32)(hp:p<32):Zen.g (b:Int) (p:Int) (W.toNat:Int) (X.toNat:Int)=some (((uC W X b p).toNat:Int),(X.toNat:Int),()):=by
 unfold Zen.g Zen.f;have e1:(1:Int)=((1#32).toNat:Int):=rfl;rw[if_neg (by omega),if_neg (by omega),if_neg (by omega),LB X p (by omega),e1,xD (1#32) b (by omega),Lg,xD _ b (by omega),I9,gU];rfl
theorem Jv(n:Nat)(X W:W32){a c:Nat}(hc:1<=c)(h:a+c<=32):∀(m k:Nat),k<=c->c-k<m->Zdn.l2 n m (a:Int) (c:Int) ((a+k:Nat):Int) ((dC W X a k).toNat:Int) (X.toNat:Int)=some (((dC W X a c).toNat:Int),(X.toNat:Int),()):=by
 intro m
 induction m with
 |zero=>intro k _ hm;omega
 |succ m ih=>
  intro k hk hm;rw[Zdn.l2];simp only[dt];by_cases e:k=c
  ·subst e;by_cases e2:a+k<32
   ·rw[if_pos (by omega),if_neg (by rw[w64 (by omega)];omega)]
   ·rw[if_neg (by omega)]
  ·rw[if_pos (by omega),w64 (by omega),if_pos (by omega),show((a+k:Nat):Int)-(a:Int)=(k:Int) by omega,Nh _ X (by omega) (by omega),Pt];dsimp only;rw[w64 (by omega),show((a+k:Nat):Int)+1=((a+(k+1):Nat):Int) by omega];exact ih (k+1) (by omega) (by omega)
theorem Ot(W X:W32){a c:Nat}(hc:1<=c)(h:a+c<=32):Zeo.g (W.toNat:Int) (a:Int) (c:Int) (X.toNat:Int)=some (((dC W X a c).toNat:Int),()):=by
 unfold Zeo.g Zeo.f Zdn.g Zdn.f;simp only[dt,df];rw[if_pos (by omega),if_pos (by omega),w64 (by omega),if_neg (by omega)];have hmx:mx (a:Int) 0=((a+0:Nat):Int):=by unfold mx;split<;>omega
 rw[hmx];have:=Jv (1000+((a:Int)).toNat+((c:Int)).toNat+((W.toNat:Int)).toNat+((X.toNat:Int)).toNat) X W hc h (1000+((a:Int)).toNat+((c:Int)).toNat+((W.toNat:Int)).toNat+((X.toNat:Int)).toNat) 0 (by omega) (by omega);rw[show dC W X a 0=W from rfl] at this;rw[this,Pt]
theorem Mj(O W:W32){b p:Nat}(hb:b<32)(hp:p<32):Zep.g (b:Int) (p:Int) (O.toNat:Int) (W.toNat:Int)=some (((O ||| (((W >>> b) &&& 1#32) <<< p)).toNat:Int),(W.toNat:Int),()):=by
 unfold Zep.g Zep.f;have e1:(1:Int)=((1#32).toNat:Int):=rfl;rw[if_neg (by omega),if_neg (by omega),LB W b (by omega),e1,Lg,xD _ p (by omega),gU]
theorem Ju(n:Nat)(W:W32){a c:Nat}(hc:1<=c)(h:a+c<=32):∀(m k:Nat),k<=c->c-k<m->Zdo.l2 n m (a:Int) (c:Int) ((a+k:Nat):Int) ((dK W a k).toNat:Int) (W.toNat:Int)=some (((dK W a c).toNat:Int),(W.toNat:Int),()):=by
 intro m
 induction m with
 |zero=>intro k _ hm;omega
 |succ m ih=>
  intro k hk hm;rw[Zdo.l2];simp only[dt];by_cases e:k=c
  ·subst e;by_cases e2:a+k<32
   ·rw[if_pos (by omega),if_neg (by rw[w64 (by omega)];omega)]
   ·rw[if_neg (by omega)]
  ·rw[if_pos (by omega),w64 (by omega),if_pos (by omega),show((a+k:Nat):Int)-(a:Int)=(k:Int) by omega,Mj _ W (by omega) (by omega),Pt];dsimp only;rw[w64 (by omega),show((a+k:Nat):Int)+1=((a+(k+1):Nat):Int) by omega];exact ih (k+1) (by omega) (by omega)
theorem NL(W:W32){a c:Nat}(hc:1<=c)(h:a+c<=32):Zeq.g (W.toNat:Int) (a:Int) (c:Int)=some (((dK W a c).toNat:Int),()):=by
 unfold Zeq.g Zeq.f Zdo.g Zdo.f;simp only[dt,df];rw[if_pos (by omega),if_pos (by omega),w64 (by omega),if_neg (by omega)];have hmx:mx (a:Int) 0=((a+0:Nat):Int):=by unfold mx;split<;>omega
 rw[hmx];have:=Ju (1000+((a:Int)).toNat+((c:Int)).toNat+((0:Int)).toNat+((W.toNat:Int)).toNat) W hc h (1000+((a:Int)).toNat+((c:Int)).toNat+((0:Int)).toNat+((W.toNat:Int)).toNat) 0 (by omega) (by omega);rw[show((dK W a 0).toNat:Int)=0 from rfl] at this;rw[this,Pt]
end Rv
namespace Rv
open Go
def gD:W32->List (Nat×Nat×Int)->W32
 |W,[]=>W
 |W,(a,n,x)::r=>gD (dC W (BitVec.ofInt 32 x) a n) r
abbrev fld(f:Nat×Nat×Int):Int×Int×Int×Unit:=((f.1:Int),(f.2.1:Int),f.2.2,())
abbrev O8:Int×Int×Int×Unit:=((0:Int),((0:Int),((0:Int),())))
theorem JS(n:Nat)(fs:List (Nat×Nat×Int))(hf:∀f∈fs,1<=f.2.1/\f.1+f.2.1<=32)(hl:fs.length<=1000):∀(m i:Nat) (W:W32),i<=fs.length->fs.length-i<m ->
  Zbc.l3 n m (W.toNat:Int) (fs.map fld) ((fs.map fld).length:Int) (i:Int)=some (((gD W (fs.drop i)).toNat:Int),()):=by
 intro m
 induction m with
 |zero=>intro i _ _ h;omega
 |succ m ih=>
  intro i W hi hm;rw[Zbc.l3];simp only[dt,Qj];by_cases h:i<fs.length
  ·have hd:fs.drop i=fs[i]::fs.drop (i+1):=P6 h;have hg:(fs.map fld).getD ((i:Int)).toNat O8=fld fs[i]:=by
    rw[PG,PD,PH (by simpa using h)];simp
   obtain⟨h1,h2⟩:=hf fs[i] (Qf h);rw[if_pos (by omega),if_pos (by omega),if_pos (by decide),if_pos (by decide),if_pos (by decide),hg];have q1:∀x y z:Int,([x,y,z]:List Int).getD ((0:Int)).toNat 0=x:=fun _ _ _=>rfl
   have q2:∀x y z:Int,([x,y,z]:List Int).getD ((1:Int)).toNat 0=y:=fun _ _ _=>rfl
   have q3:∀x y z:Int,([x,y,z]:List Int).getD ((2:Int)).toNat 0=z:=fun _ _ _=>rfl
   rw[q1,q2,q3];dsimp only[fld];rw[Cj,Ot _ _ h1 h2,Pt];dsimp only;rw[w64 (by omega),show(i:Int)+1=((i+1:Nat):Int) by omega,hd];have:=ih (i+1) (dC W (BitVec.ofInt 32 fs[i].2.2) fs[i].1 fs[i].2.1) (by omega) (by omega);rw[Qj] at this;exact this
  ·rw[if_neg (by omega),List.drop_eq_nil_of_le (by omega)];rfl
theorem NT(fs:List (Nat×Nat×Int))(hf:∀f∈fs,1<=f.2.1/\f.1+f.2.1<=32)(hl:fs.length<=1000)(l:List (Int×Int×Int×Unit))(e:l=fs.map fld):Zbc.g l=some (((gD 0 fs).toNat:Int),()):=by
 subst e;unfold Zbc.g Zbc.f;have:=JS (1000+(fs.map fld).length) fs hf hl (1000+(fs.map fld).length) 0 0 (by omega) (by rw[Qj];omega);rw[PV] at this;exact this
def hdN(f:Nat)(u v:Bool):Nat:=f*4+(if u then 2 else 0)+(if v then 1 else 0)
theorem kC(f:Nat)(hf:f<4)(u v:Bool):Zbz.g (f:Int) u v=some (28,4,(hdN f u v:Int),()):=by
 have:∀f:Nat,f<4->∀u v:Bool,Zbz.g (f:Int) u v=some (28,4,(hdN f u v:Int),()):=by decide +kernel
 exact this f hf u v
def dJ(k o a b c i:Int)(u:Bool):List (Nat×Nat×Int):=
 if k=1 then[(28,4,(hdN 0 u false:Int)),(24,4,a),(20,4,b),(16,4,o),(0,4,c)] else
 if k=3\/k=4 then[(28,4,(hdN 0 true (decide (k=4)):Int)),(24,4,a)] else
 if k=2 then[(28,4,(hdN 1 u (decide (i<0)):Int)),(24,4,a),(20,4,b),(16,4,o),(0,16,i)] else
 if k=5 then[(28,4,(hdN 2 (decide (2<=o)) (decide (Int.tmod o 2=1)):Int)),(24,4,a),(20,4,b),(0,20,i)] else
 if k=6 then[(28,4,(hdN 3 false u:Int)),(24,4,o),(0,4,c)] else
 [(28,4,(hdN 3 true u:Int)),(24,4,o),(0,24,i)]
theorem Dr(k o a b c i:Int)(u:Bool):(∀f∈dJ k o a b c i u,1<=f.2.1/\f.1+f.2.1<=32)/\(dJ k o a b c i u).length<=1000:=by
 unfold dJ;split;·exact⟨by simp,by simp⟩
 ·split
  ·exact⟨by simp,by simp⟩
  ·split
   ·exact⟨by simp,by simp⟩
   ·split
    ·exact⟨by simp,by simp⟩
    ·split
     ·exact⟨by simp,by simp⟩
     ·exact⟨by simp,by simp⟩
def aR(k o a b c i:Int)(u:Bool):W32:=gD 0 (dJ k o a b c i u)
theorem mV(k o a b c i:Int)(u:Bool)(l:List (Int×Int×Int×Unit))(e:l=(dJ k o a b c i u).map fld):Zbc.g l=some (((aR k o a b c i u).toNat:Int),()):=
 NT _ (Dr k o a b c i u).1 (Dr k o a b c i u).2 l e
theorem qd(k o a b c i:Int)(u:Bool):Zcl.g k o a b c i u=some (((aR k o a b c i u).toNat:Int),()):=by
 have J:∀n,k≠1->k≠2->k≠3->k≠4->k≠5->k≠6->Zcl.j14 n k o a b c i u 24 4 o=some (((aR k o a b c i u).toNat:Int),()):=fun n h1 h2 h3 h4 h5 h6=>by
  unfold Zcl.j14;rw[show(3:Int)=((3:Nat):Int) from rfl,kC 3 (by decide),Pt,mV k o a b c i u _ (by unfold dJ;simp[h1,h2,h3,h4,h5,h6]),Pt]
 unfold Zcl.g;generalize 1000+k.toNat+o.toNat+a.toNat+b.toNat+c.toNat+i.toNat=n;unfold Zcl.f;simp only[dt];have e0:(0:Int)=((0:Nat):Int):=rfl;by_cases h1:k=1;·rw[if_pos h1];have:=kC 0 (by decide) u false;rw[show((0:Nat):Int)=0 from rfl] at this;rw[this,Pt,mV k o a b c i u _ (by unfold dJ;simp[h1]),Pt]
 ·rw[if_neg h1];have h0:=kC 0 (by decide) true (decide (k=4));rw[show((0:Nat):Int)=0 from rfl] at h0;have g2:=kC 1 (by decide) u (decide (i<0));rw[show((1:Nat):Int)=1 from rfl] at g2;have g5:=kC 2 (by decide) (decide (2<=o)) (decide (Int.tmod o 2=1));rw[show((2:Nat):Int)=2 from rfl] at g5;have g6:=kC 3 (by decide) false u;rw[show((3:Nat):Int)=3 from rfl] at g6;rw[h0,g2,g5,g6];simp only[Pt];by_cases h3:k=3
  ·rw[if_pos h3,if_pos h3,mV k o a b c i u _ (by unfold dJ;simp[h3]),Pt]
  ·rw[if_neg h3];by_cases h4:k=4
   ·rw[if_pos h4,mV k o a b c i u _ (by unfold dJ;simp[h4]),Pt]
   ·rw[if_neg h4];by_cases h2:k=2
    ·rw[if_pos h2,mV k o a b c i u _ (by unfold dJ;simp[h2]),Pt]
    ·rw[if_neg h2];by_cases h5:k=5
     ·rw[if_pos h5,mV k o a b c i u _ (by unfold dJ;simp[h5]),Pt]
     ·rw[if_neg h5];by_cases h6:k=6
      ·rw[if_pos h6,mV k o a b c i u _ (by unfold dJ;simp[h6]),Pt]
      ·rw[if_neg h6];exact J n h1 h2 h3 h4 h5 h6
abbrev Gn(W:W32)(a n:Nat):Int:=((dK W a n).toNat:Int)
theorem fO(W:W32)(a:Nat){n:Nat}(hn:n<=32):0<=Gn W a n/\Gn W a n<2 ^ n:=by
 have:=NM W a hn;refine⟨Int.natCast_nonneg _,?_⟩;have h2:((2 ^ n:Nat):Int)=2 ^ n:=by rw[Int.natCast_pow];rfl
 rw[<- h2];exact Int.ofNat_lt.2 this
theorem iR(W:W32)(a n:Nat)(hn:1<=n)(h:a+n<=32):Zbh.g (a:Int) (n:Int) (W.toNat:Int)=some (Gn W a n,()):=by
 unfold Zbh.g Zbh.f;rw[NL W hn h,Pt];dsimp only;have:=fO W a (n:=n) (by omega);have h32:(dK W a n).toNat<2 ^ 32:=(dK W a n).isLt;rw[w64 (by omega)]
def sgV(W:W32)(n:Nat):Int:=IntKind.i64.wrap ((IntKind.i32.wrap ((W <<< (32-n)).toNat:Int)).fdiv (2 ^ (32-n)))
theorem zo(W:W32)(n:Nat)(h:1<=n)(h2:n<=32):Zec.g (W.toNat:Int) (n:Int)=some (sgV W n,()):=by
 unfold Zec.g Zec.f Zfe.g Zfe.f;have hk:mn (mx (n:Int) 1) 32=(n:Int):=by unfold mn mx;split<;>split<;>omega
 rw[hk,Pt];dsimp only;rw[w64 (by omega),show(32:Int)-(n:Int)=((32-n:Nat):Int) by omega,if_neg (by omega),if_neg (by omega),xD W (32-n) (by omega)];have e:min (((32-n:Nat):Int)).toNat IntKind.i32.bits=32-n:=by show min (((32-n:Nat):Int)).toNat 32=_;omega
 rw[e];rfl
theorem Eb{W:W32}{n:Nat}(h:n<=32)(h0:dK W 0 n=0):sgV W n=0:=by
 have:W <<< (32-n)=0:=jZ fun j hj=>by
  rw[BitVec.getLsbD_shiftLeft];by_cases e:j<32-n;·simp[e]
  ·have:=congrArg (fun V:W32=>V.getLsbD (j-(32-n))) h0;simp only[fA W h (show j-(32-n)<32 by omega)] at this;rw[Nat.zero_add] at this;have h3:j-(32-n)<n:=by omega
   simp[h3] at this;simp[e,hj,this]
 unfold sgV;rw[this];show IntKind.i64.wrap ((IntKind.i32.wrap 0).fdiv (2 ^ (32-n)))=0;rw[show IntKind.i32.wrap 0=0 from rfl,Int.zero_fdiv];rfl
def bR(W:W32):Int×Int×Int×Int×Int×Int×Bool×Unit:=
 if Gn W 30 2=0 then
  (if Gn W 29 1=1/\Gn W 16 4=0 then(3+Gn W 28 1,0,Gn W 24 4,0,0,0,false,()) else(1,Gn W 16 4,Gn W 24 4,Gn W 20 4,Gn W 0 4,0,decide (Gn W 29 1=1),()))
 else if Gn W 30 2=1 then(2,Gn W 16 4,Gn W 24 4,Gn W 20 4,0,Gn W 0 16-Gn W 28 1*65536,decide (Gn W 29 1=1),())
 else if Gn W 30 2=2 then(5,Gn W 29 1*2+Gn W 28 1,Gn W 24 4,Gn W 20 4,0,sgV W 20,false,())
 else if Gn W 29 1=1 then(7,Gn W 24 4,0,0,0,sgV W 24,decide (Gn W 28 1=1),())
 else(6,Gn W 24 4,0,0,Gn W 0 4,0,decide (Gn W 28 1=1),())
theorem vN(W:W32):Zca.g (W.toNat:Int)=some (bR W):=by
 unfold Zca.g Zca.f;have r1:=iR W 29 1 (by decide) (by decide);have r2:=iR W 28 1 (by decide) (by decide);have r3:=iR W 24 4 (by decide) (by decide);have r4:=iR W 20 4 (by decide) (by decide);have r5:=iR W 16 4 (by decide) (by decide);have r6:=iR W 30 2 (by decide) (by decide);have r7:=iR W 0 4 (by decide) (by decide);have r8:=iR W 0 16 (by decide) (by decide);have s1:=zo W 20 (by decide) (by decide);have s2:=zo W 24 (by decide) (by decide);have b1:=fO W 29 (n:=1) (by decide);have b2:=fO W 28 (n:=1) (by decide);have b8:=fO W 0 (n:=16) (by decide);have p16:IntKind.i64.wrap (Gn W 28 1*2 ^ (min (16:Int).toNat IntKind.i64.bits))=Gn W 28 1*65536:=by
  show IntKind.i64.wrap (Gn W 28 1*65536)=_;rw[w64 (by omega)]
 simp only[Int.cast_ofNat_Int] at r1 r2 r3 r4 r5 r6 r7 r8 s1 s2;simp only[r1,r2,r3,r4,r5,r6,r7,r8,s1,s2,Pt,dt,Zca.j16,p16];unfold bR;by_cases h1:Gn W 30 2=0
 ·rw[if_pos h1,if_pos h1];by_cases h2:Gn W 29 1=1
  ·rw[if_pos h2];by_cases h3:Gn W 16 4=0
   ·rw[if_pos h3,if_pos ⟨h2,h3⟩,w64 (by omega)]
   ·rw[if_neg h3,if_neg (fun h=>h3 h.2)]
  ·rw[if_neg h2,if_neg (fun h=>h2 h.1)]
 ·rw[if_neg h1,if_neg h1];by_cases h2:Gn W 30 2=1
  ·rw[if_pos h2,if_pos h2,w64 (by omega)]
  ·rw[if_neg h2,if_neg h2];by_cases h3:Gn W 30 2=2
   ·rw[if_pos h3,if_pos h3,w64 (x:=Gn W 29 1*2) (by omega),w64 (by omega)]
   ·rw[if_neg h3,if_neg h3];by_cases h4:Gn W 29 1=1
    ·rw[if_pos h4,if_pos h4]
    ·rw[if_neg h4,if_neg h4]
theorem ai(W X:W32){a n b m:Nat}(h:a+n<=32)(hb:b+m<=32)(h1:b+m<=a\/a+n<=b):Gn (dC W X a n) b m=Gn W b m:=by unfold Gn;rw[Du W X h hb h1]
theorem zU(W:W32){x:Int}{a n:Nat}(h:a+n<=32)(hx:0<=x/\x<2 ^ n):Gn (dC W (BitVec.ofInt 32 x) a n) a n=x:=by
 have h1:(2:Int) ^ n=((2 ^ n:Nat):Int):=by rw[Int.natCast_pow];rfl
 have h2:2 ^ n<=2 ^ 32:=Nat.pow_le_pow_right (by decide) (by omega);have h3:(BitVec.ofInt 32 x).toNat=x.toNat:=by
  rw[BitVec.toNat_ofInt];rw[h1] at hx;generalize 2 ^ n=q at *;omega
 unfold Gn;rw[wS W _ h (PI _) (PI _),Nat.sub_self,Ml (by omega) (by rw[h3];rw[h1] at hx;omega),h3];omega
theorem gQ(W:W32){x:Int}{a:Nat}(h:a+4<=32)(hx:0<=x/\x<16):Gn (dC W (BitVec.ofInt 32 x) a 4) a 4=x:=zU W h hx
theorem bJ(W X:W32){a n b m:Nat}(h:a+n<=32)(h1:a<=b)(h2:b+m<=a+n):Gn (dC W X a n) b m=Gn X (b-a) m:=by unfold Gn;rw[wS W X h h1 h2]
theorem Mm(b m:Nat)(hm:m<=32):Gn 0 b m=0:=by unfold Gn;rw[Ay b m hm];rfl
theorem lH:∀f:Nat,f<4->∀u v:Bool,Gn (BitVec.ofInt 32 (hdN f u v:Int)) 2 2=f/\Gn (BitVec.ofInt 32 (hdN f u v:Int)) 1 1=(if u then 1 else 0)/\Gn (BitVec.ofInt 32 (hdN f u v:Int)) 0 1=(if v then 1 else 0):=by decide +kernel
def rg(x:Int):Prop:=0<=x/\x<16
inductive bO:Int->Int->Int->Int->Int->Bool->Prop
 |reg {o a b c:Int} {u:Bool}:0<o->o<12->rg a->rg b->rg c->(u=true->8<=o/\o<=10)->bO 1 o a b c u
 |mov {a c:Int}:rg a->rg c->bO 1 0 a 0 c false
 |imm {o a b:Int} {u:Bool}:0<o->o<12->rg a->rg b->(u=true->8<=o/\o<=10)->bO 2 o a b 0 u
 |movi {a:Int} {u:Bool}:rg a->bO 2 0 a 0 0 u
 |hi {a:Int}:rg a->bO 3 0 a 0 0 false
 |fl {a:Int}:rg a->bO 4 0 a 0 0 false
 |mem {o a b:Int}:0<=o->o<4->rg a->rg b->bO 5 o a b 0 false
 |br {o c:Int} {u:Bool}:rg o->rg c->bO 6 o 0 0 c u
 |jmp {o:Int} {u:Bool}:rg o->bO 7 o 0 0 0 u
theorem Bu{o a b c:Int}{u:Bool}(ho:rg o)(ha:rg a)(hb:rg b)(hc:rg c)(hu:u=true->o≠0):bR (aR 1 o a b c 0 u)=(1,o,a,b,c,0,u,()):=by
 obtain⟨h1,h2,h3⟩:=lH 0 (by decide) u false;generalize hW:aR 1 o a b c 0 u=W;unfold aR dJ at hW;rw[if_pos rfl] at hW;simp only[gD] at hW;have w1:Gn W 30 2=0:=by rw[<- hW,ai _ _ (by decide) (by decide) (by decide),ai _ _ (by decide) (by decide) (by decide),ai _ _ (by decide) (by decide) (by decide),ai _ _ (by decide) (by decide) (by decide),bJ _ _ (by decide) (by decide) (by decide)];exact h1
 have w2:Gn W 29 1=if u then 1 else 0:=by rw[<- hW,ai _ _ (by decide) (by decide) (by decide),ai _ _ (by decide) (by decide) (by decide),ai _ _ (by decide) (by decide) (by decide),ai _ _ (by decide) (by decide) (by decide),bJ _ _ (by decide) (by decide) (by decide)];exact h2
 have w3:Gn W 24 4=a:=by rw[<- hW,ai _ _ (by decide) (by decide) (by decide),ai _ _ (by decide) (by decide) (by decide),ai _ _ (by decide) (by decide) (by decide),gQ _ (by decide) ha]
 have w4:Gn W 20 4=b:=by rw[<- hW,ai _ _ (by decide) (by decide) (by decide),ai _ _ (by decide) (by decide) (by decide),gQ _ (by decide) hb]
 have w5:Gn W 16 4=o:=by rw[<- hW,ai _ _ (by decide) (by decide) (by decide),gQ _ (by decide) ho]
 have w6:Gn W 0 4=c:=by rw[<- hW,gQ _ (by decide) hc]
 unfold bR;rw[w1,w2,w3,w4,w5,w6,if_pos rfl];cases u with
 |false=>simp
 |true=>simp[hu rfl]
theorem Bq{o a b:Int}{u:Bool}(ho:rg o)(ha:rg a)(hb:rg b):bR (aR 2 o a b 0 0 u)=(2,o,a,b,0,0,u,()):=by
 obtain⟨h1,h2,h3⟩:=lH 1 (by decide) u false;generalize hW:aR 2 o a b 0 0 u=W;unfold aR dJ at hW;rw[if_neg (by decide),if_neg (by decide),if_pos rfl] at hW;simp only[gD] at hW;rw[show decide ((0:Int)<0)=false from rfl] at hW;have w1:Gn W 30 2=1:=by rw[<- hW,ai _ _ (by decide) (by decide) (by decide),ai _ _ (by decide) (by decide) (by decide),ai _ _ (by decide) (by decide) (by decide),ai _ _ (by decide) (by decide) (by decide),bJ _ _ (by decide) (by decide) (by decide)];exact h1
 have w2:Gn W 29 1=if u then 1 else 0:=by rw[<- hW,ai _ _ (by decide) (by decide) (by decide),ai _ _ (by decide) (by decide) (by decide),ai _ _ (by decide) (by decide) (by decide),ai _ _ (by decide) (by decide) (by decide),bJ _ _ (by decide) (by decide) (by decide)];exact h2
 have w7:Gn W 28 1=0:=by rw[<- hW,ai _ _ (by decide) (by decide) (by decide),ai _ _ (by decide) (by decide) (by decide),ai _ _ (by decide) (by decide) (by decide),ai _ _ (by decide) (by decide) (by decide),bJ _ _ (by decide) (by decide) (by decide)];exact h3
 have w3:Gn W 24 4=a:=by rw[<- hW,ai _ _ (by decide) (by decide) (by decide),ai _ _ (by decide) (by decide) (by decide),ai _ _ (by decide) (by decide) (by decide),gQ _ (by decide) ha]
 have w4:Gn W 20 4=b:=by rw[<- hW,ai _ _ (by decide) (by decide) (by decide),ai _ _ (by decide) (by decide) (by decide),gQ _ (by decide) hb]
 have w5:Gn W 16 4=o:=by rw[<- hW,ai _ _ (by decide) (by decide) (by decide),gQ _ (by decide) ho]
 have w6:Gn W 0 16=0:=by rw[<- hW,zU _ (by decide) (by decide)]
 unfold bR;rw[w1,w2,w3,w4,w5,w6,w7,if_neg (by decide),if_pos rfl];cases u<;>simp
theorem D5{k a:Int}(hk:k=3\/k=4)(ha:rg a):bR (aR k 0 a 0 0 0 false)=(k,0,a,0,0,0,false,()):=by
 obtain⟨h1,h2,h3⟩:=lH 0 (by decide) true (decide (k=4));generalize hW:aR k 0 a 0 0 0 false=W;unfold aR dJ at hW;rw[if_neg (by omega),if_pos hk] at hW;simp only[gD] at hW;have w1:Gn W 30 2=0:=by rw[<- hW,ai _ _ (by decide) (by decide) (by decide),bJ _ _ (by decide) (by decide) (by decide)];exact h1
 have w2:Gn W 29 1=1:=by rw[<- hW,ai _ _ (by decide) (by decide) (by decide),bJ _ _ (by decide) (by decide) (by decide)];exact h2
 have w7:Gn W 28 1=if decide (k=4) then 1 else 0:=by rw[<- hW,ai _ _ (by decide) (by decide) (by decide),bJ _ _ (by decide) (by decide) (by decide)];exact h3
 have w3:Gn W 24 4=a:=by rw[<- hW,gQ _ (by decide) ha]
 have w5:Gn W 16 4=0:=by rw[<- hW,ai _ _ (by decide) (by decide) (by decide),ai _ _ (by decide) (by decide) (by decide),Mm _ _ (by decide)]
 unfold bR;rw[w1,w2,w3,w5,w7,if_pos rfl,if_pos ⟨rfl,rfl⟩];rcases hk with rfl|rfl<;>simp
theorem Kz{o a b:Int}(ho:0<=o/\o<4)(ha:rg a)(hb:rg b):bR (aR 5 o a b 0 0 false)=(5,o,a,b,0,0,false,()):=by
 obtain⟨h1,h2,h3⟩:=lH 2 (by decide) (decide (2<=o)) (decide (Int.tmod o 2=1));generalize hW:aR 5 o a b 0 0 false=W;unfold aR dJ at hW;rw[if_neg (by decide),if_neg (by decide),if_neg (by decide),if_pos rfl] at hW;simp only[gD] at hW;have w1:Gn W 30 2=2:=by rw[<- hW,ai _ _ (by decide) (by decide) (by decide),ai _ _ (by decide) (by decide) (by decide),ai _ _ (by decide) (by decide) (by decide),bJ _ _ (by decide) (by decide) (by decide)];exact h1
 have w2:Gn W 29 1=if decide (2<=o) then 1 else 0:=by rw[<- hW,ai _ _ (by decide) (by decide) (by decide),ai _ _ (by decide) (by decide) (by decide),ai _ _ (by decide) (by decide) (by decide),bJ _ _ (by decide) (by decide) (by decide)];exact h2
 have w7:Gn W 28 1=if decide (Int.tmod o 2=1) then 1 else 0:=by rw[<- hW,ai _ _ (by decide) (by decide) (by decide),ai _ _ (by decide) (by decide) (by decide),ai _ _ (by decide) (by decide) (by decide),bJ _ _ (by decide) (by decide) (by decide)];exact h3
 have w3:Gn W 24 4=a:=by rw[<- hW,ai _ _ (by decide) (by decide) (by decide),ai _ _ (by decide) (by decide) (by decide),gQ _ (by decide) ha]
 have w4:Gn W 20 4=b:=by rw[<- hW,ai _ _ (by decide) (by decide) (by decide),gQ _ (by decide) hb]
 have w6:sgV W 20=0:=Eb (by decide) (by
  rw[<- hW];have:=zU (x:=0) (a:=0) (n:=20) (dC (dC (dC 0 (BitVec.ofInt 32 ((hdN 2 (decide (2<=o)) (decide (Int.tmod o 2=1)):Nat):Int)) 28 4) (BitVec.ofInt 32 a) 24 4) (BitVec.ofInt 32 b) 20 4) (by decide) (by decide);exact BitVec.eq_of_toNat_eq (by unfold Gn at this;simpa using this))
 have:o=0\/o=1\/o=2\/o=3:=by omega
 unfold bR;rw[w1,w2,w3,w4,w6,w7,if_neg (by decide),if_neg (by decide),if_pos rfl];rcases this with rfl|rfl|rfl|rfl<;>rfl
theorem M6{o c:Int}{u:Bool}(ho:rg o)(hc:rg c):bR (aR 6 o 0 0 c 0 u)=(6,o,0,0,c,0,u,()):=by
 obtain⟨h1,h2,h3⟩:=lH 3 (by decide) false u;generalize hW:aR 6 o 0 0 c 0 u=W;unfold aR dJ at hW;rw[if_neg (by decide),if_neg (by decide),if_neg (by decide),if_neg (by decide),if_pos rfl] at hW;simp only[gD] at hW;have w1:Gn W 30 2=3:=by rw[<- hW,ai _ _ (by decide) (by decide) (by decide),ai _ _ (by decide) (by decide) (by decide),bJ _ _ (by decide) (by decide) (by decide)];exact h1
 have w2:Gn W 29 1=0:=by rw[<- hW,ai _ _ (by decide) (by decide) (by decide),ai _ _ (by decide) (by decide) (by decide),bJ _ _ (by decide) (by decide) (by decide)];exact h2
 have w7:Gn W 28 1=if u then 1 else 0:=by rw[<- hW,ai _ _ (by decide) (by decide) (by decide),ai _ _ (by decide) (by decide) (by decide),bJ _ _ (by decide) (by decide) (by decide)];exact h3
 have w3:Gn W 24 4=o:=by rw[<- hW,ai _ _ (by decide) (by decide) (by decide),gQ _ (by decide) ho]
 have w6:Gn W 0 4=c:=by rw[<- hW,gQ _ (by decide) hc]
 unfold bR;rw[w1,w2,w3,w6,w7,if_neg (by decide),if_neg (by decide),if_neg (by decide),if_neg (by decide)];cases u<;>simp
theorem Ky{o:Int}{u:Bool}(ho:rg o):bR (aR 7 o 0 0 0 0 u)=(7,o,0,0,0,0,u,()):=by
 obtain⟨h1,h2,h3⟩:=lH 3 (by decide) true u;generalize hW:aR 7 o 0 0 0 0 u=W;unfold aR dJ at hW;rw[if_neg (by decide),if_neg (by decide),if_neg (by decide),if_neg (by decide),if_neg (by decide)] at hW;simp only[gD] at hW;have w1:Gn W 30 2=3:=by rw[<- hW,ai _ _ (by decide) (by decide) (by decide),ai _ _ (by decide) (by decide) (by decide),bJ _ _ (by decide) (by decide) (by decide)];exact h1
 have w2:Gn W 29 1=1:=by rw[<- hW,ai _ _ (by decide) (by decide) (by decide),ai _ _ (by decide) (by decide) (by decide),bJ _ _ (by decide) (by decide) (by decide)];exact h2
 have w7:Gn W 28 1=if u then 1 else 0:=by rw[<- hW,ai _ _ (by decide) (by decide) (by decide),ai _ _ (by decide) (by decide) (by decide),bJ _ _ (by decide) (by decide) (by decide)];exact h3
 have w3:Gn W 24 4=o:=by rw[<- hW,ai _ _ (by decide) (by decide) (by decide),gQ _ (by decide) ho]
 have w6:sgV W 24=0:=Eb (by decide) (by
  rw[<- hW];have:=zU (x:=0) (a:=0) (n:=24) (dC (dC 0 (BitVec.ofInt 32 ((hdN 3 true u:Nat):Int)) 28 4) (BitVec.ofInt 32 o) 24 4) (by decide) (by decide);exact BitVec.eq_of_toNat_eq (by unfold Gn at this;simpa using this))
 unfold bR;rw[w1,w2,w3,w6,w7,if_neg (by decide),if_neg (by decide),if_neg (by decide),if_pos rfl];cases u<;>simp
theorem lq{k o a b c:Int}{u:Bool}(h:bO k o a b c u):bR (aR k o a b c 0 u)=(k,o,a,b,c,0,u,()):=by
 have z:rg 0:=⟨by decide,by decide⟩
 cases h with
 |reg h1 h2 ha hb hc hu=>exact Bu ⟨by omega,by omega⟩ ha hb hc (fun _=>by omega)
 |mov ha hc=>exact Bu z ha z hc (fun h=>by cases h)
 |imm h1 h2 ha hb hu=>exact Bq ⟨by omega,by omega⟩ ha hb
 |movi ha=>exact Bq z ha z
 |hi ha=>exact D5 (.inl rfl) ha
 |fl ha=>exact D5 (.inr rfl) ha
 |mem h1 h2 ha hb=>exact Kz ⟨h1,h2⟩ ha hb
 |br ho hc=>exact M6 ho hc
 |jmp ho=>exact Ky ho
theorem eO(n l h:Int):Zdu.g n l h=some (decide (l<=n)&&decide (n<=h),()):=by
 unfold Zdu.g Zdu.f;by_cases e:l<=n;·rw[if_pos (by simpa using e),decide_eq_true e];rfl
 ·rw[if_neg (by simpa using e),decide_eq_false e];rfl
theorem JJ{k o a b c:Int}{u:Bool}(h:bO k o a b c u):1<=k/\k<=7/\0<=o/\o<=15:=by
 cases h<;>refine⟨by decide,by decide,?_,?_⟩<;>first|decide|omega|(rename_i h _;exact h.1)|(rename_i h _;have:=h.2;omega)|(rename_i h;exact h.1)|(rename_i h;have:=h.2;omega)
theorem CZ(W:W32):rg (bR W).2.2.1/\rg (bR W).2.2.2.1/\rg (bR W).2.2.2.2.1:=by
 have z:rg 0:=⟨by decide,by decide⟩
 have a:∀p,rg (Gn W p 4):=fun p=>fO W p (n:=4) (by decide)
 unfold bR;split
 ·split
  ·exact⟨a _,z,z⟩
  ·exact⟨a _,a _,a _⟩
 ·split
  ·exact⟨a _,a _,z⟩
  ·split
   ·exact⟨a _,a _,z⟩
   ·split
    ·exact⟨z,z,z⟩
    ·exact⟨z,z,a _⟩
theorem GQ(k o a b c i:Int)(u:Bool):∃r,Zbm.g k o a b c i u=some (r,())/\(r=true->(1<=k/\k<=7)/\rg a/\rg b/\rg c):=by
 unfold Zbm.g;generalize 1000+k.toNat+o.toNat+a.toNat+b.toNat+c.toNat+i.toNat=n;unfold Zbm.f;rw[eO,Pt];dsimp only;by_cases hk:1<=k/\k<=7
 case neg=>rw[if_neg (by simp;omega)];exact⟨_,rfl,fun h=>by cases h⟩
 rw[if_pos (by simp[hk]),eO,Pt];dsimp only;by_cases ho:0<=o/\o<=15
 case neg=>rw[if_neg (by simp;omega)];exact⟨_,rfl,fun h=>by cases h⟩
 rw[if_pos (by simp[ho]),qd,Pt];dsimp only;rw[vN,Pt];obtain⟨r1,r2,r3⟩:=CZ (aR k o a b c i u);generalize bR (aR k o a b c i u)=y at *;split;·exact⟨_,rfl,fun h=>by cases h⟩
 ·rename_i he;simp only[Bool.not_eq_true',Bool.not_eq_false,Pz,Px] at he;have hg:(1<=k/\k<=7)/\rg a/\rg b/\rg c:=⟨hk,he.2.2.1 ▸ r1,he.2.2.2.1 ▸ r2,he.2.2.2.2.1 ▸ r3⟩
  simp only[dt,df,Zbm.j10,eO,Pt]
  repeat' split
  all_goals exact⟨_,rfl,fun _=>hg⟩
end Rv
namespace Rv
open Go
theorem zW{k o a b c:Int}{u:Bool}(h:bO k o a b c u):rg a/\rg b/\rg c:=by
 have z:rg 0:=⟨by decide,by decide⟩
 cases h<;>refine⟨?_,?_,?_⟩<;>assumption
theorem qF(x:Int):Zcz.g x=some (decide (0<=x/\x<16),()):=by
 unfold Zcz.g Zcz.f;by_cases h:0<=x;·rw[if_pos (by simpa using h)];congr 2;rw[Bool.eq_iff_iff,Px,Px];omega
 ·rw[if_neg (by simpa using h),decide_eq_false (by omega)]
def I0P(k o a b c:Int)(u:Bool):Prop:=
 (k=1/\0<o/\o<12/\(u=true->8<=o/\o<=10))\/(k=1/\o=0/\b=0/\u=false)\/(k=2/\0<o/\o<12/\c=0/\(u=true->8<=o/\o<=10))\/(k=2/\o=0/\b=0/\c=0) \/
 (k=3/\o=0/\b=0/\c=0/\u=false)\/(k=4/\o=0/\b=0/\c=0/\u=false)\/(k=5/\0<=o/\o<4/\c=0/\u=false)\/(k=6/\0<=o/\o<16/\a=0/\b=0)\/(k=7/\0<=o/\o<16/\a=0/\b=0/\c=0)
instance (k o a b c:Int) (u:Bool):Decidable (I0P k o a b c u):=by unfold I0P;infer_instance
theorem xY{k o a b c:Int}{u:Bool}(ha:rg a)(hb:rg b)(hc:rg c):bO k o a b c u↔I0P k o a b c u:=by
 constructor
 ·intro h;unfold I0P;cases h with
  |reg h1 h2 _ _ _ h3=>exact .inl ⟨rfl,h1,h2,h3⟩
  |mov _ _=>exact .inr (.inl ⟨rfl,rfl,rfl,rfl⟩)
  |imm h1 h2 _ _ h3=>exact .inr (.inr (.inl ⟨rfl,h1,h2,rfl,h3⟩))
  |movi _=>exact .inr (.inr (.inr (.inl ⟨rfl,rfl,rfl,rfl⟩)))
  |hi _=>exact .inr (.inr (.inr (.inr (.inl ⟨rfl,rfl,rfl,rfl,rfl⟩))))
  |fl _=>exact .inr (.inr (.inr (.inr (.inr (.inl ⟨rfl,rfl,rfl,rfl,rfl⟩)))))
  |mem h1 h2 _ _=>exact .inr (.inr (.inr (.inr (.inr (.inr (.inl ⟨rfl,h1,h2,rfl,rfl⟩))))))
  |br h _=>exact .inr (.inr (.inr (.inr (.inr (.inr (.inr (.inl ⟨rfl,h.1,h.2,rfl,rfl⟩)))))))
  |jmp h=>exact .inr (.inr (.inr (.inr (.inr (.inr (.inr (.inr ⟨rfl,h.1,h.2,rfl,rfl,rfl⟩)))))))
 ·intro h;unfold I0P at h;rcases h with⟨rfl,h1,h2,h3⟩|⟨rfl,rfl,rfl,rfl⟩|⟨rfl,h1,h2,rfl,h3⟩|⟨rfl,rfl,rfl,rfl⟩|⟨rfl,rfl,rfl,rfl,rfl⟩|⟨rfl,rfl,rfl,rfl,rfl⟩|⟨rfl,h1,h2,rfl,rfl⟩|⟨rfl,h1,h2,rfl,rfl⟩|⟨rfl,h1,h2,rfl,rfl,rfl⟩
  ·exact .reg h1 h2 ha hb hc h3
  ·exact .mov ha hc
  ·exact .imm h1 h2 ha hb h3
  ·exact .movi ha
  ·exact .hi ha
  ·exact .fl ha
  ·exact .mem h1 h2 ha hb
  ·exact .br ⟨h1,h2⟩ hc
  ·exact .jmp ⟨h1,h2⟩
end Rv
namespace Rv
open Go
def bU(k o i:Int)(u:Bool):Prop:=
 (k=2/\-65536<=i/\i<=65535/\(o=0->u=true->0<=i))\/(k=5/\-524288<=i/\i<=524287)\/(k=7/\-8388608<=i/\i<=8388607)\/(k≠2/\k≠5/\k≠7/\i=0)
instance (k o i:Int) (u:Bool):Decidable (bU k o i u):=by unfold bU;infer_instance
theorem uo(W:W32){n:Nat}(hn:n<=32):(dK W 0 n).toNat=W.toNat % 2 ^ n:=by
 refine Nat.eq_of_testBit_eq fun j=>?_
 rw[Nat.testBit_mod_two_pow];by_cases hj:j<32;·have:=fA W (a:=0) hn hj;rw[Nat.zero_add] at this;exact this
 ·have h1:(dK W 0 n).toNat.testBit j=false:=BitVec.getLsbD_of_ge _ _ (by omega);rw[h1,decide_eq_false (by omega),Bool.false_and]
theorem wT(W:W32)(i:Int){n:Nat}(hn:n<=32):Gn (dC W (BitVec.ofInt 32 i) 0 n) 0 n=i % 2 ^ n:=by
 unfold Gn;rw[wS W _ (by omega) (PI _) (PI _),Nat.sub_self,uo _ hn,BitVec.toNat_ofInt];have e:((2 ^ n:Nat):Int)=2 ^ n:=by rw[Int.natCast_pow];rfl
 have e2:((2 ^ 32:Nat):Int)=2 ^ 32:=rfl;rw[Int.natCast_emod,Int.toNat_of_nonneg (Int.emod_nonneg _ (by decide)),e];refine Int.emod_emod_of_dvd i ?_;obtain⟨d,hd⟩:=Nat.exists_eq_add_of_le hn;refine⟨2 ^ d,?_⟩;rw[e2,<- Int.pow_add,<- hd]
theorem Ou(W:W32):sgV W 20=if Gn W 0 20<524288 then Gn W 0 20 else Gn W 0 20-1048576:=by
 unfold sgV Gn;rw[uo W (by decide),BitVec.toNat_shiftLeft,Nat.shiftLeft_eq,Int.fdiv_eq_ediv_of_nonneg _ (by decide),IntKind.wrap_i32,IntKind.wrap_i64];have:=W.isLt;generalize W.toNat=q at *;show _=if((q % 1048576:Nat):Int)<524288 then((q % 1048576:Nat):Int) else((q % 1048576:Nat):Int)-1048576
 simp only[Nat.reducePow,Nat.reduceSub,Int.reducePow];split<;>omega
theorem Ov(W:W32):sgV W 24=if Gn W 0 24<8388608 then Gn W 0 24 else Gn W 0 24-16777216:=by
 unfold sgV Gn;rw[uo W (by decide),BitVec.toNat_shiftLeft,Nat.shiftLeft_eq,Int.fdiv_eq_ediv_of_nonneg _ (by decide),IntKind.wrap_i32,IntKind.wrap_i64];have:=W.isLt;generalize W.toNat=q at *;show _=if((q % 16777216:Nat):Int)<8388608 then((q % 16777216:Nat):Int) else((q % 16777216:Nat):Int)-16777216
 simp only[Nat.reducePow,Nat.reduceSub,Int.reducePow];split<;>omega
theorem zg{o a b i:Int}{u:Bool}(ho:rg o)(ha:rg a)(hb:rg b)(hi:-65536<=i/\i<=65535):bR (aR 2 o a b 0 i u)=(2,o,a,b,0,i,u,()):=by
 obtain⟨h1,h2,h3⟩:=lH 1 (by decide) u (decide (i<0));generalize hW:aR 2 o a b 0 i u=W;unfold aR dJ at hW;rw[if_neg (by decide),if_neg (by decide),if_pos rfl] at hW;simp only[gD] at hW;have w1:Gn W 30 2=1:=by rw[<- hW,ai _ _ (by decide) (by decide) (by decide),ai _ _ (by decide) (by decide) (by decide),ai _ _ (by decide) (by decide) (by decide),ai _ _ (by decide) (by decide) (by decide),bJ _ _ (by decide) (by decide) (by decide)];exact h1
 have w2:Gn W 29 1=if u then 1 else 0:=by rw[<- hW,ai _ _ (by decide) (by decide) (by decide),ai _ _ (by decide) (by decide) (by decide),ai _ _ (by decide) (by decide) (by decide),ai _ _ (by decide) (by decide) (by decide),bJ _ _ (by decide) (by decide) (by decide)];exact h2
 have w7:Gn W 28 1=if decide (i<0) then 1 else 0:=by rw[<- hW,ai _ _ (by decide) (by decide) (by decide),ai _ _ (by decide) (by decide) (by decide),ai _ _ (by decide) (by decide) (by decide),ai _ _ (by decide) (by decide) (by decide),bJ _ _ (by decide) (by decide) (by decide)];exact h3
 have w3:Gn W 24 4=a:=by rw[<- hW,ai _ _ (by decide) (by decide) (by decide),ai _ _ (by decide) (by decide) (by decide),ai _ _ (by decide) (by decide) (by decide),gQ _ (by decide) ha]
 have w4:Gn W 20 4=b:=by rw[<- hW,ai _ _ (by decide) (by decide) (by decide),ai _ _ (by decide) (by decide) (by decide),gQ _ (by decide) hb]
 have w5:Gn W 16 4=o:=by rw[<- hW,ai _ _ (by decide) (by decide) (by decide),gQ _ (by decide) ho]
 have w6:Gn W 0 16=i % 65536:=by rw[<- hW];exact wT _ i (by decide)
 unfold bR;rw[w1,w2,w3,w4,w5,w6,w7,if_neg (by decide),if_pos rfl];have e:i % 65536-(if decide (i<0) then 1 else 0)*65536=i:=by
  by_cases h:i<0;·rw[decide_eq_true h,if_pos rfl];omega
  ·rw[decide_eq_false h,if_neg (by decide)];omega
 rw[e];cases u<;>simp
theorem H6{o a b i:Int}(ho:0<=o/\o<4)(ha:rg a)(hb:rg b)(hi:-524288<=i/\i<=524287):bR (aR 5 o a b 0 i false)=(5,o,a,b,0,i,false,()):=by
 obtain⟨h1,h2,h3⟩:=lH 2 (by decide) (decide (2<=o)) (decide (Int.tmod o 2=1));generalize hW:aR 5 o a b 0 i false=W;unfold aR dJ at hW;rw[if_neg (by decide),if_neg (by decide),if_neg (by decide),if_pos rfl] at hW;simp only[gD] at hW;have w1:Gn W 30 2=2:=by rw[<- hW,ai _ _ (by decide) (by decide) (by decide),ai _ _ (by decide) (by decide) (by decide),ai _ _ (by decide) (by decide) (by decide),bJ _ _ (by decide) (by decide) (by decide)];exact h1
 have w2:Gn W 29 1=if decide (2<=o) then 1 else 0:=by rw[<- hW,ai _ _ (by decide) (by decide) (by decide),ai _ _ (by decide) (by decide) (by decide),ai _ _ (by decide) (by decide) (by decide),bJ _ _ (by decide) (by decide) (by decide)];exact h2
 have w7:Gn W 28 1=if decide (Int.tmod o 2=1) then 1 else 0:=by rw[<- hW,ai _ _ (by decide) (by decide) (by decide),ai _ _ (by decide) (by decide) (by decide),ai _ _ (by decide) (by decide) (by decide),bJ _ _ (by decide) (by decide) (by decide)];exact h3
 have w3:Gn W 24 4=a:=by rw[<- hW,ai _ _ (by decide) (by decide) (by decide),ai _ _ (by decide) (by decide) (by decide),gQ _ (by decide) ha]
 have w4:Gn W 20 4=b:=by rw[<- hW,ai _ _ (by decide) (by decide) (by decide),gQ _ (by decide) hb]
 have w6:sgV W 20=i:=by
  have e:Gn W 0 20=i % 1048576:=by rw[<- hW];exact wT _ i (by decide)
  rw[Ou,e];split<;>omega
 have:o=0\/o=1\/o=2\/o=3:=by omega
 unfold bR;rw[w1,w2,w3,w4,w6,w7,if_neg (by decide),if_neg (by decide),if_pos rfl];rcases this with rfl|rfl|rfl|rfl<;>rfl
theorem H5{o i:Int}{u:Bool}(ho:rg o)(hi:-8388608<=i/\i<=8388607):bR (aR 7 o 0 0 0 i u)=(7,o,0,0,0,i,u,()):=by
 obtain⟨h1,h2,h3⟩:=lH 3 (by decide) true u;generalize hW:aR 7 o 0 0 0 i u=W;unfold aR dJ at hW;rw[if_neg (by decide),if_neg (by decide),if_neg (by decide),if_neg (by decide),if_neg (by decide)] at hW;simp only[gD] at hW;have w1:Gn W 30 2=3:=by rw[<- hW,ai _ _ (by decide) (by decide) (by decide),ai _ _ (by decide) (by decide) (by decide),bJ _ _ (by decide) (by decide) (by decide)];exact h1
 have w2:Gn W 29 1=1:=by rw[<- hW,ai _ _ (by decide) (by decide) (by decide),ai _ _ (by decide) (by decide) (by decide),bJ _ _ (by decide) (by decide) (by decide)];exact h2
 have w7:Gn W 28 1=if u then 1 else 0:=by rw[<- hW,ai _ _ (by decide) (by decide) (by decide),ai _ _ (by decide) (by decide) (by decide),bJ _ _ (by decide) (by decide) (by decide)];exact h3
 have w3:Gn W 24 4=o:=by rw[<- hW,ai _ _ (by decide) (by decide) (by decide),gQ _ (by decide) ho]
 have w6:sgV W 24=i:=by
  have e:Gn W 0 24=i % 16777216:=by rw[<- hW];exact wT _ i (by decide)
  rw[Ov,e];split<;>omega
 unfold bR;rw[w1,w2,w3,w6,w7,if_neg (by decide),if_neg (by decide),if_neg (by decide),if_pos rfl];cases u<;>simp
theorem Fu{k o a b c i:Int}{u:Bool}(h:bO k o a b c u)(hi:bU k o i u):bR (aR k o a b c i u)=(k,o,a,b,c,i,u,()):=by
 have z:rg 0:=⟨by decide,by decide⟩
 unfold bU at hi;have i0:k≠2->k≠5->k≠7->i=0:=fun h2 h5 h7=>by
  rcases hi with⟨h,_⟩|⟨h,_⟩|⟨h,_⟩|⟨_,_,_,h⟩;·exact absurd h h2
  ·exact absurd h h5
  ·exact absurd h h7
  ·exact h
 have hg:=h;cases h with
 |imm h1 h2 ha hb hu=>exact zg ⟨by omega,by omega⟩ ha hb (by omega)
 |movi ha=>exact zg z ha z (by omega)
 |mem h1 h2 ha hb=>exact H6 ⟨h1,h2⟩ ha hb (by omega)
 |jmp ho=>exact H5 ho (by omega)
 |reg h1 h2 ha hb hc hu=>rw[i0 (by decide) (by decide) (by decide)];exact lq hg
 |mov ha hc=>rw[i0 (by decide) (by decide) (by decide)];exact lq hg
 |hi ha=>rw[i0 (by decide) (by decide) (by decide)];exact lq hg
 |fl ha=>rw[i0 (by decide) (by decide) (by decide)];exact lq hg
 |br ho hc=>rw[i0 (by decide) (by decide) (by decide)];exact lq hg
theorem GM{k o a b c i:Int}{u:Bool}(h:bO k o a b c u)(hi:bU k o i u):Zbm.g k o a b c i u=some (true,()):=by
 have hr:=Fu h hi;have hk:=JJ h;unfold Zbm.g;generalize 1000+k.toNat+o.toNat+a.toNat+b.toNat+c.toNat+i.toNat=n;unfold Zbm.f;rw[eO,Pt];dsimp only;rw[decide_eq_true hk.1,decide_eq_true hk.2.1,if_pos (by decide),eO,Pt];dsimp only;rw[decide_eq_true hk.2.2.1,decide_eq_true hk.2.2.2,if_pos (by decide),qd,Pt];dsimp only;rw[vN,Pt,hr];dsimp only;rw[if_neg (by simp)];simp only[dt,df,Zbm.j10,eO,Pt];have i0:k=1->i=0:=fun h1=>by unfold bU at hi;omega
 cases h with
 |reg h1 h2 ha hb hc hu=>
  rw[if_pos rfl,if_pos rfl,if_neg (by omega),if_neg (by omega)];cases u with
  |false=>rfl
  |true=>simp[hu rfl]
 |mov ha hc=>rw[i0 rfl];rfl
 |imm h1 h2 ha hb hu=>
  rw[if_neg (by decide),if_pos rfl,if_neg (by omega),if_neg (by omega)];cases u with
  |false=>rfl
  |true=>simp[hu rfl]
 |movi ha=>
  cases u with
  |false=>rfl
  |true=>
   have:0<=i:=by unfold bU at hi;simp at hi;omega
   show some (decide (0<=i),())=_;rw[decide_eq_true this]
 |hi ha=>rfl
 |fl ha=>rfl
 |mem h1 h2 ha hb=>rfl
 |br ho hc=>rfl
 |jmp ho=>rfl
theorem GN{k o a b c i:Int}{u:Bool}(h:Zbm.g k o a b c i u=some (true,())):bO k o a b c u/\bU k o i u:=by
 unfold Zbm.g at h;generalize 1000+k.toNat+o.toNat+a.toNat+b.toNat+c.toNat+i.toNat=n at h;unfold Zbm.f at h;rw[eO,Pt] at h;dsimp only at h;by_cases hk:1<=k/\k<=7
 case neg=>rw[if_neg (by simp;omega)] at h;cases h
 rw[if_pos (by simp[hk]),eO,Pt] at h;dsimp only at h;by_cases ho:0<=o/\o<=15
 case neg=>rw[if_neg (by simp;omega)] at h;cases h
 rw[if_pos (by simp[ho]),qd,Pt] at h;dsimp only at h;rw[vN,Pt] at h;have s20:=Ou (aR k o a b c i u);have s24:=Ov (aR k o a b c i u);have r20:=fO (aR k o a b c i u) 0 (n:=20) (by decide);have r24:=fO (aR k o a b c i u) 0 (n:=24) (by decide);have r16:=fO (aR k o a b c i u) 0 (n:=16) (by decide);generalize hW:aR k o a b c i u=W at h s20 s24 r20 r24 r16;have g4:∀p,rg (Gn W p 4):=fun p=>fO W p (n:=4) (by decide)
 have g1:∀p,0<=Gn W p 1/\Gn W p 1<2:=fun p=>fO W p (n:=1) (by decide)
 split at h;·cases h
 ·rename_i he;simp only[Bool.not_eq_true',Bool.not_eq_false,Pz,Px,beq_iff_eq,and_true] at he;obtain⟨e1,e2,e3,e4,e5,e6,e7⟩:=he;simp only[dt,df,Zbm.j10,eO,Pt] at h;unfold bR at e1 e2 e3 e4 e5 e6 e7;split at e1
  ·rename_i f0;rw[if_pos f0] at e2 e3 e4 e5 e6 e7;split at e1
   ·rename_i f1;rw[if_pos f1] at e2 e3 e4 e5 e6 e7;dsimp only at e1 e2 e3 e4 e5 e6 e7;have:=g1 28;subst e2 e4 e5 e7;have hk3:k=3\/k=4:=by omega
    rcases hk3 with rfl|rfl;·exact⟨.hi (e3 ▸ g4 _),.inr (.inr (.inr ⟨by decide,by decide,by decide,e6⟩))⟩
    ·exact⟨.fl (e3 ▸ g4 _),.inr (.inr (.inr ⟨by decide,by decide,by decide,e6⟩))⟩
   ·rename_i f1;rw[if_neg f1] at e2 e3 e4 e5 e6 e7;dsimp only at e1 e2 e3 e4 e5 e6 e7;subst e1;rw[if_pos rfl,if_pos rfl] at h;by_cases ho0:o=0
    ·subst ho0;rw[if_pos rfl] at h;by_cases hb0:b=0
     ·subst hb0;rw[if_pos rfl,if_pos (by decide)] at h;cases u with
      |false=>exact⟨.mov (e3 ▸ g4 _) (e5 ▸ g4 _),.inr (.inr (.inr ⟨by decide,by decide,by decide,e6⟩))⟩
      |true=>rw[if_neg (by decide)] at h;cases h
     ·rw[if_neg hb0] at h;cases h
    ·rw[if_neg ho0] at h;by_cases h11:11<o
     ·rw[if_pos h11] at h;cases h
     ·rw[if_neg h11] at h;refine⟨.reg (by omega) (by omega) (e3 ▸ g4 _) (e4 ▸ g4 _) (e5 ▸ g4 _) fun hu=>?_,.inr (.inr (.inr ⟨by decide,by decide,by decide,e6⟩))⟩;subst hu;simp at h;exact h
  ·rename_i f0;rw[if_neg f0] at e2 e3 e4 e5 e6 e7;split at e1
   ·rename_i f1;rw[if_pos f1] at e2 e3 e4 e5 e6 e7;dsimp only at e1 e2 e3 e4 e5 e6 e7;subst e1 e5;rw[if_neg (by decide),if_pos rfl] at h;by_cases ho0:o=0
    ·subst ho0;rw[if_pos rfl] at h;by_cases hb0:b=0
     ·subst hb0;exact⟨.movi (e3 ▸ g4 _),.inl ⟨rfl,by have:=g1 28;omega,by have:=g1 28;omega,fun _ hu=>by subst hu;simpa using h⟩⟩
     ·rw[if_neg hb0] at h;cases h
    ·rw[if_neg ho0] at h;by_cases h11:11<o
     ·rw[if_pos h11] at h;cases h
     ·rw[if_neg h11] at h;refine⟨.imm (by omega) (by omega) (e3 ▸ g4 _) (e4 ▸ g4 _) fun hu=>?_,.inl ⟨rfl,by have:=g1 28;omega,by have:=g1 28;omega,fun h0=>absurd h0 ho0⟩⟩;subst hu;simp at h;exact h
   ·rename_i f1;rw[if_neg f1] at e2 e3 e4 e5 e6 e7;split at e1
    ·rename_i f2;rw[if_pos f2] at e2 e3 e4 e5 e6 e7;dsimp only at e1 e2 e3 e4 e5 e6 e7;have q1:=g1 29;have q2:=g1 28;subst e1 e5 e7;exact⟨.mem (by omega) (by omega) (e3 ▸ g4 _) (e4 ▸ g4 _),.inr (.inl ⟨rfl,by rw[e6,s20];split<;>omega,by rw[e6,s20];split<;>omega⟩)⟩
    ·rename_i f2;rw[if_neg f2] at e2 e3 e4 e5 e6 e7;split at e1
     ·rename_i f3;rw[if_pos f3] at e2 e3 e4 e5 e6 e7;dsimp only at e1 e2 e3 e4 e5 e6 e7;subst e1 e3 e4 e5;exact⟨.jmp (e2 ▸ g4 _),.inr (.inr (.inl ⟨rfl,by rw[e6,s24];split<;>omega,by rw[e6,s24];split<;>omega⟩))⟩
     ·rename_i f3;rw[if_neg f3] at e2 e3 e4 e5 e6 e7;dsimp only at e1 e2 e3 e4 e5 e6 e7;subst e1 e3 e4;exact⟨.br (e2 ▸ g4 _) (e5 ▸ g4 _),.inr (.inr (.inr ⟨by decide,by decide,by decide,e6⟩))⟩
end Rv
