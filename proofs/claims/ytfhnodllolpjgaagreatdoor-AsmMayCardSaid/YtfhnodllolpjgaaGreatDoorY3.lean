/- Texts put together. -/
import Derived.Test.YtfhnodllolpjgaaGreatDoorY2
import Derived.Test.YtfhnodllolpjgaaGreatDoorY1
import Derived.Test.YtfhnodllolpjgaaGreatDoorH1
set_option linter.all false
namespace Rv
open Go
abbrev zSy:Sym:=(([]:Str),((0:Int),()))
abbrev less(a b:Str):Bool:=Op.bytesLess a b
theorem ow:∀a b:Str,(L.cmpR a b<0↔less a b=true)/\(L.cmpR a b=0↔a=b)
 |[],[]=>by simp[L.cmpR,Op.bytesLess]
 |[],_::_=>by simp[L.cmpR,Op.bytesLess]
 |_::_,[]=>by simp[L.cmpR,Op.bytesLess]
 |a::r,b::s=>by
  have ih:=ow r s;unfold L.cmpR less Op.bytesLess;by_cases h1:a<b
  ·have:a≠b:=fun e=>by subst e;exact absurd h1 (UInt8.lt_irrefl a)
   simp[h1,this]
  ·by_cases h2:b<a
   ·have:a≠b:=fun e=>by subst e;exact absurd h2 (UInt8.lt_irrefl a)
    simp[h1,h2,this]
   ·have e:a=b:=UInt8.le_antisymm (UInt8.not_lt.1 h2) (UInt8.not_lt.1 h1);subst e;simp only[h1,if_false,decide_false,Bool.false_or,beq_self_eq_true,Bool.true_and,List.cons.injEq,true_and];exact ih
theorem iH:∀{a b c:Str},less a b=true->less b c=true->less a c=true
 |_,[],_,h,_=>by simp[Op.bytesLess] at h
 |_,_::_,[],_,h=>by simp[Op.bytesLess] at h
 |[],_::_,_::_,_,_=>by simp[Op.bytesLess]
 |a::x,b::y,c::z,h1,h2=>by
  simp only[less,Op.bytesLess,Bool.or_eq_true,NN,NJ,beq_iff_eq] at h1 h2⊢;rcases h1 with h1|⟨rfl,h1⟩
  ·rcases h2 with h2|⟨rfl,h2⟩
   ·exact .inl (UInt8.lt_trans h1 h2)
   ·exact .inl h1
  ·rcases h2 with h2|⟨rfl,h2⟩
   ·exact .inl h2
   ·exact .inr ⟨rfl,iH h1 h2⟩
theorem tK(a:Str):less a a=false:=by
 have:=ow a a;cases h:less a a with
 |false=>rfl
 |true=>
  have h1:=this.1.2 h;have h2:=this.2.2 rfl;omega
theorem Eb{a b:Str}(h:less a b=false)(hne:a≠b):less b a=true:=by
 induction a generalizing b with
 |nil=>cases b with
  |nil=>exact absurd rfl hne
  |cons b y=>simp[Op.bytesLess] at h
 |cons a x ih=>cases b with
  |nil=>simp[Op.bytesLess]
  |cons b y=>
   simp only[less,Op.bytesLess,Bool.or_eq_false_iff,decide_eq_false_iff_not,Bool.and_eq_false_iff,beq_eq_false_iff_ne,Bool.or_eq_true,NN,NJ,beq_iff_eq] at h⊢;obtain⟨h1,h2⟩:=h;by_cases e:a=b;·subst e;refine .inr ⟨rfl,ih (h2.resolve_left (fun g=>g rfl)) fun e=>hne (by rw[e])⟩
   ·exact .inl (UInt8.lt_of_le_of_ne (UInt8.not_lt.1 h1) (Ne.symm e))
def eu(y:List Sym):Prop:=y.Pairwise fun a b=>less a.1 b.1=true
def kS:List Sym->Str->Nat
 |[],_=>0
 |x::r,s=>if less x.1 s=true then kS r s+1 else 0
theorem DZ:∀(y:List Sym) (s:Str),kS y s<=y.length
 |[],_=>NM _
 |x::r,s=>by unfold kS;split;exact Nat.succ_le_succ (DZ r s);exact Nat.zero_le _
theorem JN:∀{y:List Sym}{s:Str}{i:Nat},(∀t,t<i->less (y.getD t zSy).1 s=true)->i<=y.length->(i<y.length->less (y.getD i zSy).1 s=false)->kS y s=i
 |[],_,i,_,h,_=>by simp at h;subst h;rfl
 |x::r,s,0,_,_,h=>by
  have h:=h (by simp);have h:less x.1 s=false:=h;unfold kS;rw[if_neg (by rw[h];decide)]
 |x::r,s,i+1,h1,h2,h3=>by
  have h0:less x.1 s=true:=h1 0 (by omega);unfold kS;rw[if_pos h0,JN (y:=r) (i:=i) (fun t ht=>by simpa using h1 (t+1) (by omega)) (by simpa using h2) (fun h=>by simpa using h3 (by simpa using h))]
theorem pV{y:List Sym}(hy:eu y){i j:Nat}(hij:i<j)(hj:j<y.length):less (y.getD i zSy).1 (y.getD j zSy).1=true:=by
 have:=List.pairwise_iff_getElem.1 hy i j (by omega) hj hij;rw[NH,NH,NL hj,NL (show i<y.length by omega)];exact this
def oN(y:List Sym)(s:Str):Bool:=decide (kS y s<y.length/\(y.getD (kS y s) zSy).1=s)
theorem Gz{x:Int}(h:0<=x/\x<=9223372036854775807):IntKind.u64.wrap x=x:=by
 show(x % 2 ^ 64:Int)=x;omega
theorem Kj(a:Str)(b:Int)(c:Str):Zdw.g a b c=some (L.cmpR a c,()):=rfl
theorem J3(y:List Sym)(s:Str)(hy:eu y)(hl:y.length<=1000000)(n:Nat):∀(m i j:Nat),i<=j->j<=y.length->j-i<m->(∀t,t<i->less (y.getD t zSy).1 s=true)->(∀t,j<=t->t<y.length->less (y.getD t zSy).1 s=false) ->
  Zbo.l3 n m y s (y.length:Int) (i:Int) (j:Int)=some ((kS y s:Int),oN y s,()):=by
 intro m
 induction m with
 |zero=>intro i j _ _ h;omega
 |succ m ih=>
  intro i j hij hj hm h1 h2;rw[Zbo.l3];have hmid:IntKind.i64.wrap ((IntKind.u64.wrap (IntKind.i64.wrap ((i:Int)+(j:Int)))).fdiv (2 ^ (min (1:Int).toNat IntKind.u64.bits)))=(((i+j) / 2:Nat):Int):=by
   show IntKind.i64.wrap ((IntKind.u64.wrap (IntKind.i64.wrap ((i:Int)+(j:Int)))).fdiv 2)=_;rw[w64 (x:=(i:Int)+(j:Int)) (by omega),Int.fdiv_eq_ediv_of_nonneg _ (by decide),Gz (by omega),w64 (by omega)];omega
  rw[hmid];simp only[dt,NU,Kj,ND];by_cases h:i<j
  ·rw[if_pos (by omega),if_pos (by omega)];generalize hq:(i+j) / 2=q;have hc:=(ow (y.getD q zSy).1 s).1;by_cases hlt:less (y.getD q zSy).1 s=true
   ·rw[if_pos (hc.2 hlt),w64 (by omega),show(q:Int)+1=((q+1:Nat):Int) by omega];refine ih (q+1) j (by omega) hj (by omega) (fun t ht=>?_) h2;by_cases e:t=q
    ·rw[e];exact hlt
    ·exact iH (pV hy (show t<q by omega) (by omega)) hlt
   ·rw[if_neg (fun g=>hlt (hc.1 g))];refine ih i q (by omega) (by omega) (by omega) h1 fun t ht htl=>?_
    have hf:less (y.getD q zSy).1 s=false:=by simpa using hlt
    by_cases e:t=q;·rw[e];exact hf
    ·cases ht2:less (y.getD t zSy).1 s with
     |false=>rfl
     |true=>rw[iH (pV hy (show q<t by omega) htl) ht2] at hf;cases hf
  ·obtain rfl:i=j:=by omega
   have hk:kS y s=i:=JN h1 hj (fun h=>h2 i (by omega) h);rw[if_neg (by omega)];unfold oN;rw[hk];by_cases hl2:i<y.length;·rw[if_pos (by omega),if_pos (by omega)];have:=(ow (y.getD i zSy).1 s).2;congr 3;rw[Bool.eq_iff_iff,NN,NN,this];exact⟨fun h=>⟨hl2,h⟩,fun h=>h.2⟩
   ·rw[if_neg (by omega),decide_eq_false (fun h=>hl2 h.1)]
theorem MU(y:List Sym)(s:Str)(hy:eu y)(hl:y.length<=1000000):Zbo.g y s=some ((kS y s:Int),oN y s,()):=by
 unfold Zbo.g Zbo.f;exact J3 y s hy hl _ _ 0 y.length (by omega) (by omega) (by omega) (fun t h=>by omega) (fun t h h2=>by omega)
def jE(y:List Sym)(x:Sym):List Sym:=y.take (kS y x.1)++[x]++y.drop (kS y x.1)
theorem wV:∀{y:List Sym}{s:Str},∀a∈y.take (kS y s),less a.1 s=true
 |[],_,a,h=>by simp at h
 |x::r,s,a,h=>by
  unfold kS at h;split at h
  ·rename_i hx;rw[List.take_succ_cons,NS] at h;rcases h with rfl|h
   ·exact hx
   ·exact wV a h
  ·simp at h
theorem KF{y:List Sym}{s:Str}(hy:eu y)(hs:oN y s=false):∀a∈y.drop (kS y s),less s a.1=true:=by
 intro a ha;obtain⟨j,hj,rfl⟩:=List.getElem_of_mem ha;rw[Oh] at hj;rw[List.getElem_drop];have hk:kS y s<y.length:=by omega
 unfold oN at hs;rw[decide_eq_false_iff_not] at hs;have hne:(y.getD (kS y s) zSy).1≠s:=fun e=>hs ⟨hk,e⟩
 have hnl:less (y.getD (kS y s) zSy).1 s=false:=by
  have gen:∀(y:List Sym),kS y s<y.length->less (y.getD (kS y s) zSy).1 s=false:=by
   intro y
   induction y with
   |nil=>intro h;simp at h
   |cons x r ih=>
    intro h;unfold kS at h⊢;split;·rename_i hx;rw[if_pos hx] at h;simpa using ih (by simpa using h)
    ·rename_i hx;simpa using hx
  exact gen y hk
 have h0:=Eb hnl hne;by_cases e:j=0;·subst e;rw[NH,NL hk] at h0;exact h0
 ·have:=pV hy (show kS y s<kS y s+j by omega) (by omega);have:=iH h0 this;rw[NH,NL (show kS y s+j<y.length by omega)] at this;exact this
theorem vO{y:List Sym}{x:Sym}(hy:eu y)(hs:oN y x.1=false):eu (jE y x):=by
 unfold eu jE;rw[List.pairwise_append];have h1:(y.take (kS y x.1)).Pairwise fun a b=>less a.1 b.1=true:=hy.sublist (List.take_sublist _ _)
 have h2:(y.drop (kS y x.1)).Pairwise fun a b=>less a.1 b.1=true:=hy.sublist (List.drop_sublist _ _)
 refine⟨?_,h2,?_⟩;·rw[List.pairwise_append];exact⟨h1,List.pairwise_singleton _ _,fun a ha b hb=>by rw[NZ.1 hb];exact wV a ha⟩
 ·intro a ha b hb;have hxb:=KF hy hs b hb;rcases NT.1 ha with h|h
  ·exact iH (wV a h) hxb
  ·rw[NZ.1 h];exact hxb
theorem Cn(y:List Sym)(x:Sym):(jE y x).length=y.length+1:=by
 have:=DZ y x.1;unfold jE;simp only[NI,Oa,Oh,List.length_singleton];omega
end Rv
namespace Rv
open Go
theorem Ff{a:List Sym}{i:Nat}(h:i<a.length):a.drop i=a.getD i zSy::a.drop (i+1):=by
 rw[Og h,NH,NL h];rfl
theorem sM{a:List Sym}{i:Nat}(h:i<a.length):a.getD i zSy∈a:=by
 rw[NH,NL h];exact Ou h
structure OkO (ws ss:List Int) (ys:List Sym):Prop extends OkS ws ss where
 bey:∀i,i<ss.length->ws.getD (ss.getD i 0).toNat 0<=4*(ws.length:Int)
 nm:∀x∈ys,cB x.1=true
 srt:eu ys
 sat_:∀x∈ys,0<=x.2.1/\x.2.1<=4*(ws.length:Int)/\x.2.1 % 4=0
 ly:ys.length<=64
section
variable{ws ss:List Int}{ys:List Sym}(O:OkO ws ss ys)
include O
theorem KR(n:Nat):∀(m i:Nat),i<=ss.length->ss.length-i<m->Zcf.l2 n m ss (ss.length:Int) (i:Int) ws ss ys (4*(ws.length:Int))=some (-1,ws,ss,ys,4*(ws.length:Int),()):=by
 intro m
 induction m with
 |zero=>intro i _ h;omega
 |succ m ih=>
  intro i hi hm;have hl:=O.toOkS.len;have hlw:=O.lw;rw[Zcf.l2];simp only[dt,NU];by_cases h:i<ss.length
  ·have hs:=O.at_ i h;have hb:=O.bey i h;have hx:0<=ws.getD (ss.getD i 0).toNat 0:=by
    rw[NH,NL (by omega)];exact(O.wr _ (Ou _)).1
   unfold Zdr.g Zdr.f;rw[if_pos (by omega),if_pos (by omega),if_pos hs,ND,w64 (by omega)];dsimp only;rw[if_neg (by simpa using hb),w64 (by omega)];exact ih (i+1) (by omega) (by omega)
  ·rw[if_neg (by omega)]
theorem KS(n:Nat):∀(m i:Nat),i<=ys.length->ys.length-i<m->Zcg.l2 n m ys (ys.length:Int) (i:Int) (4*(ws.length:Int))=some (-1,4*(ws.length:Int),()):=by
 intro m
 induction m with
 |zero=>intro i _ h;omega
 |succ m ih=>
  intro i hi hm;have hl:=O.ly;have hlw:=O.lw;rw[Zcg.l2];simp only[dt,NU];by_cases h:i<ys.length
  ·have hs:=O.sat_ _ (sM h);generalize ys.getD i zSy=x at hs;unfold Zds.g Zds.f;simp only[df];rw[if_pos (by omega),if_pos (by omega),if_pos (by omega),if_pos (by omega),ND];dsimp only;have ht:Int.tmod x.2.1 4=0:=by rw[Int.tmod_eq_emod_of_nonneg hs.1];exact hs.2.2
   rw[if_neg (by simp[ht]),w64 (by omega)];exact ih (i+1) (by omega) (by omega)
  ·rw[if_neg (by omega)]
theorem Mm(n:Nat):∀(m i:Nat),i<=ys.length->ys.length-i<m->Zaw.l2 n m ys (ys.length:Int) (i:Int) ws ss ys=some (true,ws,ss,ys,()):=by
 intro m
 induction m with
 |zero=>intro i _ h;omega
 |succ m ih=>
  intro i hi hm;have hl:=O.ly;rw[Zaw.l2];unfold Zaw.j6;simp only[dt,NU];by_cases h:i<ys.length
  ·have hn:=O.nm _ (sM h);rw[if_pos (by omega),if_pos (by omega),jY,ND,hn];dsimp only;rw[if_pos (by simp)];have w:IntKind.i64.wrap ((i:Int)+1)=((i+1:Nat):Int):=by rw[w64 (by omega)];omega
   rw[w];by_cases h0:0<i
   ·have w1:IntKind.i64.wrap ((i:Int)-1)=((i-1:Nat):Int):=by rw[w64 (by omega)];omega
    have hlt:less (ys.getD (i-1) zSy).1 (ys.getD i zSy).1=true:=by
     have hp:=List.pairwise_iff_getElem.1 O.srt (i-1) i (by omega) h (by omega);rw[NH,NL (by omega),NH,NL h];exact hp
    have hno:¬((Op.bytesLess (ys.getD i zSy).1 (ys.getD (i-1) zSy).1||decide ((ys.getD i zSy).1=(ys.getD (i-1) zSy).1))=true):=by
     rw[Bool.or_eq_true,NN];rintro(hh|hh);·have:=iH hlt hh;rw[tK] at this;cases this
     ·rw[hh,tK] at hlt;cases hlt
    rw[if_pos (by omega),w1,NU,if_pos (by omega),if_neg hno];exact ih (i+1) (by omega) (by omega)
   ·rw[if_neg (by omega)];exact ih (i+1) (by omega) (by omega)
  ·rw[if_neg (by omega)]
theorem xc:Zbl.g ws ss ys=some (0,()):=by
 have hlw:=O.lw;have hly:=O.ly;have hls:=O.toOkS.len;unfold Zbl.g;generalize 1000+ws.length+ss.length+ys.length=n;unfold Zbl.f;have w4:IntKind.i64.wrap ((4:Int)*(ws.length:Int))=4*(ws.length:Int):=w64 (by omega);have c52:Zcy.g ss ws ss ys (4*(ws.length:Int))=some (false,ws,ss,ys,4*(ws.length:Int),()):=by
  unfold Zcy.g Zcy.f Zcf.g Zcf.f;have:=KR O (1000+ss.length+ws.length+ss.length+ys.length+(4*(ws.length:Int)).toNat) (1000+ss.length+ws.length+ss.length+ys.length+(4*(ws.length:Int)).toNat) 0 (by omega) (by omega);rw[show((0:Nat):Int)=0 from rfl] at this;rw[this];rfl
 have c3:Zaw.g ws ss ys=some (true,ws,ss,ys,()):=by
  unfold Zaw.g Zaw.f;exact Mm O _ _ 0 (by omega) (by omega)
 have c53:Zcz.g ys (4*(ws.length:Int))=some (false,4*(ws.length:Int),()):=by
  unfold Zcz.g Zcz.f Zcg.g Zcg.f;have:=KS O (1000+ys.length+(4*(ws.length:Int)).toNat) (1000+ys.length+(4*(ws.length:Int)).toNat) 0 (by omega) (by omega);rw[show((0:Nat):Int)=0 from rfl] at this;rw[this];rfl
 simp only[dt,df];rw[if_pos (by omega),if_neg (by omega),CG O.toOkS,ND];dsimp only;rw[if_neg (by decide),w4,c52,ND];dsimp only;rw[if_neg (by decide),c3,ND];dsimp only;rw[if_neg (by decide),c53,ND];rfl
end
def kD(x:Sym):List Int:=fC x.1++leB [x.2.1]
def yR(ws ss:List Int)(ys:List Sym):List Int:=leB [894847314,(ws.length:Int),(aS ws ss).2,(ys.length:Int)]++(leB (aS ws ss).1++ys.flatMap kD)
section
variable{ws ss:List Int}{ys:List Sym}(O:OkO ws ss ys)
include O
theorem AZ{x:Sym}(h:cB x.1=true):(kD x).length<=20:=by
 have:=kK h;unfold kD;rw[NI,rz,iG];simp;omega
theorem Fv(n:Nat):∀(m i:Nat) (a:List Int),i<=ys.length->ys.length-i<m->a.length<=10000+20*i->Zbm.l10 n m a ys (ys.length:Int) (i:Int)=some (a++(ys.drop i).flatMap kD,0,()):=by
 intro m
 induction m with
 |zero=>intro i _ _ h;omega
 |succ m ih=>
  intro i a hi hm ha;have hl:=O.ly;have hlw:=O.lw;rw[Zbm.l10];simp only[dt,NU];by_cases h:i<ys.length
  ·have hn:=O.nm _ (sM h);have hs:=O.sat_ _ (sM h);have hb:=AZ O hn;rw[Ff h,Oc];generalize ys.getD i zSy=x at hn hs hb;have hnl:=rz x.1;have hnk:=kK hn;have hwr:IntKind.u32.wrap x.2.1=x.2.1:=by rw[IntKind.wrap_u32];omega
   have hp:Zbc.g [x.2.1]=some (leB [x.2.1],()):=uF _ (by simp) (by intro y hy;obtain rfl:=NZ.1 hy;omega);have hl4:(leB [x.2.1]).length=4:=rfl;rw[if_pos (by omega),if_pos (by omega),Ep hn,ND];dsimp only;rw[if_neg (by simp),if_pos (by omega),hwr,hp,ND];dsimp only;rw[if_pos (by rw[NI];omega),w64 (by omega),show(i:Int)+1=((i+1:Nat):Int) by omega];have:=ih (i+1) (a++fC x.1++leB [x.2.1]) (by omega) (by omega) (by rw[NI,NI];omega);rw[this];unfold kD;simp only[NV]
  ·obtain rfl:i=ys.length:=by omega
   rw[if_neg (by omega),if_pos (by simp),Ol];simp
theorem Af:(aS ws ss).1.length=ws.length:=by
 have:=(lK O.toOkS ss.length (NM _)).1
 rwa [lc] at this
theorem o9:(∀x∈(aS ws ss).1,0<=x/\x<=4294967295)/\0<=(aS ws ss).2/\(aS ws ss).2<=1024:=by
 obtain⟨_,_,h3,h4,_,h6⟩:=lK O.toOkS ss.length (NM _);rw[lc] at h3 h4 h6;exact⟨h6,h3,h4⟩
theorem zJ:∀x∈([894847314,(ws.length:Int),(aS ws ss).2,(ys.length:Int)]:List Int),0<=x/\x<=4294967295:=by
 have hlw:=O.lw;have hly:=O.ly;have hp:=(o9 O).2;intro x hx;simp only[NS,List.not_mem_nil,or_false] at hx;rcases hx with rfl|rfl|rfl|rfl<;>omega
theorem Kr:Zbm.g ws ss ys=some (yR ws ss ys,0,()):=by
 have hlw:=O.lw;have hly:=O.ly;have hpl:=Af O;obtain⟨hp1,hp2,hp3⟩:=o9 O;unfold Zbm.g;generalize hn:1000+ws.length+ss.length+ys.length=n;unfold Zbm.f;have e1:IntKind.u32.wrap ((aS ws ss).1.length:Int)=(ws.length:Int):=by rw[hpl,IntKind.wrap_u32];omega
 have e2:IntKind.u32.wrap (aS ws ss).2=(aS ws ss).2:=by rw[IntKind.wrap_u32];omega
 have e3:IntKind.u32.wrap (ys.length:Int)=(ys.length:Int):=by rw[IntKind.wrap_u32];omega
 rw[xc O,ND];dsimp only;simp only[dt];rw[if_neg (by simp),CG O.toOkS,ND];dsimp only;rw[if_neg (by simp),e1,e2,e3,uF _ (by simp) (zJ O),ND,uF _ (by omega) hp1,ND];dsimp only;have hl1:(leB [894847314,(ws.length:Int),(aS ws ss).2,(ys.length:Int)]).length=16:=rfl;have hl2:=iG (aS ws ss).1;rw[if_pos (by omega)];have:=Fv O n n 0 (leB [894847314,(ws.length:Int),(aS ws ss).2,(ys.length:Int)]++leB (aS ws ss).1) (by omega) (by omega) (by rw[NI];omega);rw[show((0:Nat):Int)=0 from rfl] at this;rw[this,Oi,NV];rfl
theorem mQ:∀(l:List Sym),(∀x∈l,cB x.1=true)->(l.flatMap kD).length<=20*l.length
 |[],_=>NM _
 |x::l,h=>by
  rw[Oc,NI,N9];have:=AZ O (h x (Ot ..));have:=mQ l fun y hy=>h y (NR _ hy)
  omega
theorem DU(n:Nat)(b:List Int)(hb2:b.length=4)(hb:b.getD 2 0=(aS ws ss).2):∀(m i:Nat),i<=ys.length->ys.length-i<m ->
  Zbn.l13 n m ((ys.drop i).flatMap kD) b (aS ws ss).1 (ys.length:Int) (i:Int) [] [] [] [] [] (ys.take i)=some (ws,ss,ys,0,()):=by
 intro m
 induction m with
 |zero=>intro i _ h;omega
 |succ m ih=>
  intro i hi hm;have hl:=O.ly;have hlw:=O.lw;rw[Zbn.l13];simp only[dt];by_cases h:i<ys.length
  ·have hn:=O.nm _ (sM h);have hs:=O.sat_ _ (sM h);have htk:ys.take (i+1)=ys.take i++[ys.getD i zSy]:=by
    rw[List.take_succ,NH,NL h];rfl
   have ih:=ih (i+1) (by omega) (by omega);rw[htk] at ih;rw[Ff h,Oc];have hfl:=mQ O (ys.drop (i+1)) fun y hy=>O.nm y (List.mem_of_mem_drop hy)
   rw[Oh] at hfl;generalize (ys.drop (i+1)).flatMap kD=rest at hfl ih⊢;generalize ys.getD i zSy=x at hn hs ih⊢;have hl4:(leB [x.2.1]).length=4:=rfl;unfold kD;rw[NV,if_pos (by omega),BP hn _ (by rw[NI];omega),ND];dsimp only;have hfw:=qM [x.2.1] rest (by simp) (by omega) (by intro y hy;obtain rfl:=NZ.1 hy;omega);have hfw:Zbw.g (leB [x.2.1]++rest) 1=some ([x.2.1],rest,0,()):=hfw;rw[if_neg (by simp),if_pos (by rw[NI];omega),NU,NU,List.take_length,List.drop_left,hfw,ND];dsimp only;have g0:([x.2.1]:List Int).getD (0:Int).toNat 0=x.2.1:=rfl;rw[if_neg (by simp),if_pos (by simp),g0,if_pos (by rw[Oa];simp;omega),w64 (by omega),IntKind.wrap_u32,show((i:Int)+1) % 4294967296=((i+1:Nat):Int) by omega];exact ih
  ·obtain rfl:i=ys.length:=by omega
   have g2:b.getD (2:Int).toNat 0=(aS ws ss).2:=hb;have hp:=(o9 O).2;rw[if_neg (by omega),Ol,List.flatMap_nil,if_neg (by simp),if_pos (by omega),g2,w64 (by omega),GG O.toOkS,ND];dsimp only;rw[if_neg (by simp),List.take_length,xc O,ND];dsimp only;rw[if_neg (by simp)]
theorem Ij:Zbn.g (yR ws ss ys)=some (ws,ss,ys,0,()):=by
 have hlw:=O.lw;have hly:=O.ly;have hpl:=Af O;obtain⟨hp1,hp2,hp3⟩:=o9 O;have hfl:=mQ O ys O.nm;have hl2:=iG (aS ws ss).1;unfold Zbn.g;generalize hn:1000+(yR ws ss ys).length=n;have hnn:1000<=n:=by omega
 unfold Zbn.f yR;have hw:=qM [894847314,(ws.length:Int),(aS ws ss).2,(ys.length:Int)] (leB (aS ws ss).1++ys.flatMap kD) (by simp) (by rw[NI];omega) (zJ O);have hw:Zbw.g (leB [894847314,(ws.length:Int),(aS ws ss).2,(ys.length:Int)]++(leB (aS ws ss).1++ys.flatMap kD)) 4=_:=hw;have hw2:=qM (aS ws ss).1 (ys.flatMap kD) (by omega) (by omega) hp1;rw[hpl] at hw2;rw[hw,ND];dsimp only;have g0:([894847314,(ws.length:Int),(aS ws ss).2,(ys.length:Int)]:List Int).getD (0:Int).toNat 0=894847314:=rfl;have g1:([894847314,(ws.length:Int),(aS ws ss).2,(ys.length:Int)]:List Int).getD (1:Int).toNat 0=(ws.length:Int):=rfl;have g3:([894847314,(ws.length:Int),(aS ws ss).2,(ys.length:Int)]:List Int).getD (3:Int).toNat 0=(ys.length:Int):=rfl;have hb4:(([894847314,(ws.length:Int),(aS ws ss).2,(ys.length:Int)]:List Int).length:Int)=4:=rfl;simp only[dt,df];rw[if_neg (by simp),hb4,if_pos (by decide),g0,if_neg (by decide),if_pos (by decide),g1,if_pos (by omega),if_pos (by decide),g3,if_neg (by omega),if_pos (by decide),w64 (by omega),hw2,ND];dsimp only;rw[if_neg (by simp),if_pos (by decide)];exact DU O n _ rfl rfl n 0 (by omega) (by omega)
end
end Rv
namespace Rv
open Go
def zZ(a b low high:Int):Int×Int×Unit:=if low<=a/\a<=high then(a,0,()) else if low<=b/\b<=high then(b,0,()) else(0,28,())
theorem IV(n m:Nat)(a b low high:Int):Zam.l7 n (m+3) low high a b 0=some (zZ a b low high):=by
 have e2:Zam.l7 n (m+1) low high a b 2=some (0,28,()):=by
  simp only[Zam.l7,dt];rw[if_neg (by decide)]
 have e1:Zam.l7 n (m+2) low high a b 1=some (if low<=b/\b<=high then(b,0,()) else(0,28,())):=by
  rw[Zam.l7];simp only[dt,Zam.j11];rw[if_pos (by decide),if_pos (by decide),show([a,b].getD (1:Int).toNat 0)=b from rfl,show IntKind.i64.wrap (1+1)=2 by decide,e2];by_cases h1:low<=b
  ·by_cases h2:b<=high
   ·rw[if_pos h1,if_pos h2,if_pos ⟨h1,h2⟩]
   ·rw[if_pos h1,if_neg h2,if_neg (fun h=>h2 h.2)]
  ·rw[if_neg h1,if_neg (fun h=>h1 h.1)]
 rw[Zam.l7];simp only[dt,Zam.j11];rw[if_pos (by decide),if_pos (by decide),show([a,b].getD (0:Int).toNat 0)=a from rfl,show IntKind.i64.wrap (0+1)=1 by decide,e1];unfold zZ;by_cases h1:low<=a
 ·by_cases h2:a<=high
  ·rw[if_pos h1,if_pos h2,if_pos ⟨h1,h2⟩]
  ·rw[if_pos h1,if_neg h2,if_neg (show ¬(low<=a/\a<=high) from fun h=>h2 h.2)]
 ·rw[if_neg h1,if_neg (show ¬(low<=a/\a<=high) from fun h=>h1 h.1)]
theorem EK(e:List Item)(labels:List Sym)(low high v1 v2 x:Int)(h:Zad.g e labels=some (v1,v2,x,())) :
  Zam.g e labels low high=some (if x≠0 then(0,x,()) else if v2≠0 then(0,27,()) else zZ (IntKind.i64.wrap (IntKind.i32.wrap v1)) (IntKind.i64.wrap v1) low high):=by
 unfold Zam.g Zam.f;rw[h,ND];simp only[dt];have z:¬((0:Int)≠0):=by decide
 by_cases h1:x=0
 ·subst h1;rw[if_neg z,if_neg z];by_cases h2:v2=0
  ·subst h2;rw[if_neg z,if_neg z];have:∀k,3<=k->Zam.l7 k k low high (IntKind.i64.wrap (IntKind.i32.wrap v1)) (IntKind.i64.wrap v1) 0=some (zZ (IntKind.i64.wrap (IntKind.i32.wrap v1)) (IntKind.i64.wrap v1) low high):=fun k hk=>by
    obtain⟨m,rfl⟩:∃m,k=m+3:=⟨k-3,by omega⟩
    exact IV _ m _ _ _ _
   exact this _ (by omega)
  ·rw[if_pos (show v2≠0 from h2),if_pos (show v2≠0 from h2)]
 ·rw[if_pos (show x≠0 from h1),if_pos (show x≠0 from h1)]
end Rv
namespace Rv
open Go
def jF:W32->List (Nat×Nat×Int)->W32
 |W,[]=>W
 |W,(a,n,x)::r=>jF (fB W (BitVec.ofInt 32 x) a n) r
abbrev fld(f:Nat×Nat×Int):Int×Int×Int×Unit:=((f.1:Int),(f.2.1:Int),f.2.2,())
abbrev Nl:Int×Int×Int×Unit:=((0:Int),((0:Int),((0:Int),())))
theorem IB(n:Nat)(fs:List (Nat×Nat×Int))(hf:∀f∈fs,1<=f.2.1/\f.1+f.2.1<=32)(hl:fs.length<=1000):∀(m i:Nat) (W:W32),i<=fs.length->fs.length-i<m ->
  Zan.l3 n m (W.toNat:Int) (fs.map fld) ((fs.map fld).length:Int) (i:Int)=some (((jF W (fs.drop i)).toNat:Int),()):=by
 intro m
 induction m with
 |zero=>intro i _ _ h;omega
 |succ m ih=>
  intro i W hi hm;rw[Zan.l3];simp only[dt,Oy];by_cases h:i<fs.length
  ·have hd:fs.drop i=fs[i]::fs.drop (i+1):=Og h;have hg:(fs.map fld).getD ((i:Int)).toNat Nl=fld fs[i]:=by
    rw[NU,NH,NL (by simpa using h)];simp
   obtain⟨h1,h2⟩:=hf fs[i] (Ou h);rw[if_pos (by omega),if_pos (by omega),if_pos (by decide),if_pos (by decide),if_pos (by decide),hg];have q1:∀x y z:Int,([x,y,z]:List Int).getD ((0:Int)).toNat 0=x:=fun _ _ _=>rfl
   have q2:∀x y z:Int,([x,y,z]:List Int).getD ((1:Int)).toNat 0=y:=fun _ _ _=>rfl
   have q3:∀x y z:Int,([x,y,z]:List Int).getD ((2:Int)).toNat 0=z:=fun _ _ _=>rfl
   rw[q1,q2,q3];dsimp only[fld];rw[MR,MJ _ _ h1 h2,ND];dsimp only;rw[w64 (by omega),show(i:Int)+1=((i+1:Nat):Int) by omega,hd];have:=ih (i+1) (fB W (BitVec.ofInt 32 fs[i].2.2) fs[i].1 fs[i].2.1) (by omega) (by omega);rw[Oy] at this;exact this
  ·rw[if_neg (by omega),List.drop_eq_nil_of_le (by omega)];rfl
theorem Mh(fs:List (Nat×Nat×Int))(hf:∀f∈fs,1<=f.2.1/\f.1+f.2.1<=32)(hl:fs.length<=1000)(l:List (Int×Int×Int×Unit))(e:l=fs.map fld):Zan.g l=some (((jF 0 fs).toNat:Int),()):=by
 subst e;unfold Zan.g Zan.f;have:=IB (1000+(fs.map fld).length) fs hf hl (1000+(fs.map fld).length) 0 0 (by omega) (by rw[Oy];omega);rw[Oi] at this;exact this
def hdN(f:Nat)(u v:Bool):Nat:=f*4+(if u then 2 else 0)+(if v then 1 else 0)
theorem jD(f:Nat)(hf:f<4)(u v:Bool):Zay.g (f:Int) u v=some (28,4,(hdN f u v:Int),()):=by
 have:∀f:Nat,f<4->∀u v:Bool,Zay.g (f:Int) u v=some (28,4,(hdN f u v:Int),()):=by decide +kernel
 exact this f hf u v
def fo(k o a b c i:Int)(u:Bool):List (Nat×Nat×Int):=
 if k=1 then[(28,4,(hdN 0 u false:Int)),(24,4,a),(20,4,b),(16,4,o),(0,4,c)] else
 if k=3\/k=4 then[(28,4,(hdN 0 true (decide (k=4)):Int)),(24,4,a)] else
 if k=2 then[(28,4,(hdN 1 u (decide (i<0)):Int)),(24,4,a),(20,4,b),(16,4,o),(0,16,i)] else
 if k=5 then[(28,4,(hdN 2 (decide (2<=o)) (decide (Int.tmod o 2=1)):Int)),(24,4,a),(20,4,b),(0,20,i)] else
 if k=6 then[(28,4,(hdN 3 false u:Int)),(24,4,o),(0,4,c)] else
 [(28,4,(hdN 3 true u:Int)),(24,4,o),(0,24,i)]
theorem Ci(k o a b c i:Int)(u:Bool):(∀f∈fo k o a b c i u,1<=f.2.1/\f.1+f.2.1<=32)/\(fo k o a b c i u).length<=1000:=by
 unfold fo;split;·exact⟨by simp,by simp⟩
 ·split
  ·exact⟨by simp,by simp⟩
  ·split
   ·exact⟨by simp,by simp⟩
   ·split
    ·exact⟨by simp,by simp⟩
    ·split
     ·exact⟨by simp,by simp⟩
     ·exact⟨by simp,by simp⟩
def aN(k o a b c i:Int)(u:Bool):W32:=jF 0 (fo k o a b c i u)
theorem lD(k o a b c i:Int)(u:Bool)(l:List (Int×Int×Int×Unit))(e:l=(fo k o a b c i u).map fld):Zan.g l=some (((aN k o a b c i u).toNat:Int),()):=
 Mh _ (Ci k o a b c i u).1 (Ci k o a b c i u).2 l e
theorem oO(k o a b c i:Int)(u:Bool):Zbh.g k o a b c i u=some (((aN k o a b c i u).toNat:Int),()):=by
 have J:∀n,k≠1->k≠2->k≠3->k≠4->k≠5->k≠6->Zbh.j14 n k o a b c i u 24 4 o=some (((aN k o a b c i u).toNat:Int),()):=fun n h1 h2 h3 h4 h5 h6=>by
  unfold Zbh.j14;rw[show(3:Int)=((3:Nat):Int) from rfl,jD 3 (by decide),ND,lD k o a b c i u _ (by unfold fo;simp[h1,h2,h3,h4,h5,h6]),ND]
 unfold Zbh.g;generalize 1000+k.toNat+o.toNat+a.toNat+b.toNat+c.toNat+i.toNat=n;unfold Zbh.f;simp only[dt];have e0:(0:Int)=((0:Nat):Int):=rfl;by_cases h1:k=1;·rw[if_pos h1];have:=jD 0 (by decide) u false;rw[show((0:Nat):Int)=0 from rfl] at this;rw[this,ND,lD k o a b c i u _ (by unfold fo;simp[h1]),ND]
 ·rw[if_neg h1];have h0:=jD 0 (by decide) true (decide (k=4));rw[show((0:Nat):Int)=0 from rfl] at h0;have g2:=jD 1 (by decide) u (decide (i<0));rw[show((1:Nat):Int)=1 from rfl] at g2;have g5:=jD 2 (by decide) (decide (2<=o)) (decide (Int.tmod o 2=1));rw[show((2:Nat):Int)=2 from rfl] at g5;have g6:=jD 3 (by decide) false u;rw[show((3:Nat):Int)=3 from rfl] at g6;rw[h0,g2,g5,g6];simp only[ND];by_cases h3:k=3
  ·rw[if_pos h3,if_pos h3,lD k o a b c i u _ (by unfold fo;simp[h3]),ND]
  ·rw[if_neg h3];by_cases h4:k=4
   ·rw[if_pos h4,lD k o a b c i u _ (by unfold fo;simp[h4]),ND]
   ·rw[if_neg h4];by_cases h2:k=2
    ·rw[if_pos h2,lD k o a b c i u _ (by unfold fo;simp[h2]),ND]
    ·rw[if_neg h2];by_cases h5:k=5
     ·rw[if_pos h5,lD k o a b c i u _ (by unfold fo;simp[h5]),ND]
     ·rw[if_neg h5];by_cases h6:k=6
      ·rw[if_pos h6,lD k o a b c i u _ (by unfold fo;simp[h6]),ND]
      ·rw[if_neg h6];exact J n h1 h2 h3 h4 h5 h6
abbrev Gn(W:W32)(a n:Nat):Int:=((eP W a n).toNat:Int)
theorem fu(W:W32)(a:Nat){n:Nat}(hn:n<=32):0<=Gn W a n/\Gn W a n<2 ^ n:=by
 have:=Mc W a hn;refine⟨Int.natCast_nonneg _,?_⟩;have h2:((2 ^ n:Nat):Int)=2 ^ n:=by rw[Int.natCast_pow];rfl
 rw[<- h2];exact Int.ofNat_lt.2 this
theorem iq(W:W32)(a n:Nat)(hn:1<=n)(h:a+n<=32):Zap.g (a:Int) (n:Int) (W.toNat:Int)=some (Gn W a n,()):=by
 unfold Zap.g Zap.f;rw[Ma W hn h,ND];dsimp only;have:=fu W a (n:=n) (by omega);have h32:(eP W a n).toNat<2 ^ 32:=(eP W a n).isLt;rw[w64 (by omega)]
def sgV(W:W32)(n:Nat):Int:=IntKind.i64.wrap ((IntKind.i32.wrap ((W <<< (32-n)).toNat:Int)).fdiv (2 ^ (32-n)))
theorem yl(W:W32)(n:Nat)(h:1<=n)(h2:n<=32):Zcu.g (W.toNat:Int) (n:Int)=some (sgV W n,()):=by
 unfold Zcu.g Zcu.f Zdu.g Zdu.f;have hk:mn (mx (n:Int) 1) 32=(n:Int):=by unfold mn mx;split<;>split<;>omega
 rw[hk,ND];dsimp only;rw[w64 (by omega),show(32:Int)-(n:Int)=((32-n:Nat):Int) by omega,if_neg (by omega),if_neg (by omega),yV W (32-n) (by omega)];have e:min (((32-n:Nat):Int)).toNat IntKind.i32.bits=32-n:=by show min (((32-n:Nat):Int)).toNat 32=_;omega
 rw[e];rfl
theorem CX{W:W32}{n:Nat}(h:n<=32)(h0:eP W 0 n=0):sgV W n=0:=by
 have:W <<< (32-n)=0:=mY fun j hj=>by
  rw[BitVec.getLsbD_shiftLeft];by_cases e:j<32-n;·simp[e]
  ·have:=congrArg (fun V:W32=>V.getLsbD (j-(32-n))) h0;simp only[fq W h (show j-(32-n)<32 by omega)] at this;rw[Nat.zero_add] at this;have h3:j-(32-n)<n:=by omega
   simp[h3] at this;simp[e,hj,this]
 unfold sgV;rw[this];show IntKind.i64.wrap ((IntKind.i32.wrap 0).fdiv (2 ^ (32-n)))=0;rw[show IntKind.i32.wrap 0=0 from rfl,Int.zero_fdiv];rfl
def bG(W:W32):Int×Int×Int×Int×Int×Int×Bool×Unit:=
 if Gn W 30 2=0 then
  (if Gn W 29 1=1/\Gn W 16 4=0 then(3+Gn W 28 1,0,Gn W 24 4,0,0,0,false,()) else(1,Gn W 16 4,Gn W 24 4,Gn W 20 4,Gn W 0 4,0,decide (Gn W 29 1=1),()))
 else if Gn W 30 2=1 then(2,Gn W 16 4,Gn W 24 4,Gn W 20 4,0,Gn W 0 16-Gn W 28 1*65536,decide (Gn W 29 1=1),())
 else if Gn W 30 2=2 then(5,Gn W 29 1*2+Gn W 28 1,Gn W 24 4,Gn W 20 4,0,sgV W 20,false,())
 else if Gn W 29 1=1 then(7,Gn W 24 4,0,0,0,sgV W 24,decide (Gn W 28 1=1),())
 else(6,Gn W 24 4,0,0,Gn W 0 4,0,decide (Gn W 28 1=1),())
theorem uC(W:W32):Zaz.g (W.toNat:Int)=some (bG W):=by
 unfold Zaz.g Zaz.f;have r1:=iq W 29 1 (by decide) (by decide);have r2:=iq W 28 1 (by decide) (by decide);have r3:=iq W 24 4 (by decide) (by decide);have r4:=iq W 20 4 (by decide) (by decide);have r5:=iq W 16 4 (by decide) (by decide);have r6:=iq W 30 2 (by decide) (by decide);have r7:=iq W 0 4 (by decide) (by decide);have r8:=iq W 0 16 (by decide) (by decide);have s1:=yl W 20 (by decide) (by decide);have s2:=yl W 24 (by decide) (by decide);have b1:=fu W 29 (n:=1) (by decide);have b2:=fu W 28 (n:=1) (by decide);have b8:=fu W 0 (n:=16) (by decide);have p16:IntKind.i64.wrap (Gn W 28 1*2 ^ (min (16:Int).toNat IntKind.i64.bits))=Gn W 28 1*65536:=by
  show IntKind.i64.wrap (Gn W 28 1*65536)=_;rw[w64 (by omega)]
 simp only[Int.cast_ofNat_Int] at r1 r2 r3 r4 r5 r6 r7 r8 s1 s2;simp only[r1,r2,r3,r4,r5,r6,r7,r8,s1,s2,ND,dt,Zaz.j16,p16];unfold bG;by_cases h1:Gn W 30 2=0
 ·rw[if_pos h1,if_pos h1];by_cases h2:Gn W 29 1=1
  ·rw[if_pos h2];by_cases h3:Gn W 16 4=0
   ·rw[if_pos h3,if_pos ⟨h2,h3⟩,w64 (by omega)]
   ·rw[if_neg h3,if_neg (fun h=>h3 h.2)]
  ·rw[if_neg h2,if_neg (fun h=>h2 h.1)]
 ·rw[if_neg h1,if_neg h1];by_cases h2:Gn W 30 2=1
  ·rw[if_pos h2,if_pos h2,w64 (by omega)]
  ·rw[if_neg h2,if_neg h2];by_cases h3:Gn W 30 2=2
   ·rw[if_pos h3,if_pos h3,w64 (x:=Gn W 29 1*2) (by omega),w64 (by omega)]
   ·rw[if_neg h3,if_neg h3];by_cases h4:Gn W 29 1=1
    ·rw[if_pos h4,if_pos h4]
    ·rw[if_neg h4,if_neg h4]
theorem ah(W X:W32){a n b m:Nat}(h:a+n<=32)(hb:b+m<=32)(h1:b+m<=a\/a+n<=b):Gn (fB W X a n) b m=Gn W b m:=by unfold Gn;rw[Kv W X h hb h1]
theorem yS(W:W32){x:Int}{a n:Nat}(h:a+n<=32)(hx:0<=x/\x<2 ^ n):Gn (fB W (BitVec.ofInt 32 x) a n) a n=x:=by
 have h1:(2:Int) ^ n=((2 ^ n:Nat):Int):=by rw[Int.natCast_pow];rfl
 have h2:2 ^ n<=2 ^ 32:=Nat.pow_le_pow_right (by decide) (by omega);have h3:(BitVec.ofInt 32 x).toNat=x.toNat:=by
  rw[BitVec.toNat_ofInt];rw[h1] at hx;generalize 2 ^ n=q at *;omega
 unfold Gn;rw[zC W _ h (NM _) (NM _),Nat.sub_self,Ku (by omega) (by rw[h3];rw[h1] at hx;omega),h3];omega
theorem gz(W:W32){x:Int}{a:Nat}(h:a+4<=32)(hx:0<=x/\x<16):Gn (fB W (BitVec.ofInt 32 x) a 4) a 4=x:=yS W h hx
theorem bv(W X:W32){a n b m:Nat}(h:a+n<=32)(h1:a<=b)(h2:b+m<=a+n):Gn (fB W X a n) b m=Gn X (b-a) m:=by unfold Gn;rw[zC W X h h1 h2]
theorem Kw(b m:Nat)(hm:m<=32):Gn 0 b m=0:=by unfold Gn;rw[Il b m hm];rfl
theorem kH:∀f:Nat,f<4->∀u v:Bool,Gn (BitVec.ofInt 32 (hdN f u v:Int)) 2 2=f/\Gn (BitVec.ofInt 32 (hdN f u v:Int)) 1 1=(if u then 1 else 0)/\Gn (BitVec.ofInt 32 (hdN f u v:Int)) 0 1=(if v then 1 else 0):=by decide +kernel
def rg(x:Int):Prop:=0<=x/\x<16
inductive cu:Int->Int->Int->Int->Int->Bool->Prop
 |reg {o a b c:Int} {u:Bool}:0<o->o<12->rg a->rg b->rg c->(u=true->8<=o/\o<=10)->cu 1 o a b c u
 |mov {a c:Int}:rg a->rg c->cu 1 0 a 0 c false
 |imm {o a b:Int} {u:Bool}:0<o->o<12->rg a->rg b->(u=true->8<=o/\o<=10)->cu 2 o a b 0 u
 |movi {a:Int} {u:Bool}:rg a->cu 2 0 a 0 0 u
 |hi {a:Int}:rg a->cu 3 0 a 0 0 false
 |fl {a:Int}:rg a->cu 4 0 a 0 0 false
 |mem {o a b:Int}:0<=o->o<4->rg a->rg b->cu 5 o a b 0 false
 |br {o c:Int} {u:Bool}:rg o->rg c->cu 6 o 0 0 c u
 |jmp {o:Int} {u:Bool}:rg o->cu 7 o 0 0 0 u
theorem Ao{o a b c:Int}{u:Bool}(ho:rg o)(ha:rg a)(hb:rg b)(hc:rg c)(hu:u=true->o≠0):bG (aN 1 o a b c 0 u)=(1,o,a,b,c,0,u,()):=by
 obtain⟨h1,h2,h3⟩:=kH 0 (by decide) u false;generalize hW:aN 1 o a b c 0 u=W;unfold aN fo at hW;rw[if_pos rfl] at hW;simp only[jF] at hW;have w1:Gn W 30 2=0:=by rw[<- hW,ah _ _ (by decide) (by decide) (by decide),ah _ _ (by decide) (by decide) (by decide),ah _ _ (by decide) (by decide) (by decide),ah _ _ (by decide) (by decide) (by decide),bv _ _ (by decide) (by decide) (by decide)];exact h1
 have w2:Gn W 29 1=if u then 1 else 0:=by rw[<- hW,ah _ _ (by decide) (by decide) (by decide),ah _ _ (by decide) (by decide) (by decide),ah _ _ (by decide) (by decide) (by decide),ah _ _ (by decide) (by decide) (by decide),bv _ _ (by decide) (by decide) (by decide)];exact h2
 have w3:Gn W 24 4=a:=by rw[<- hW,ah _ _ (by decide) (by decide) (by decide),ah _ _ (by decide) (by decide) (by decide),ah _ _ (by decide) (by decide) (by decide),gz _ (by decide) ha]
 have w4:Gn W 20 4=b:=by rw[<- hW,ah _ _ (by decide) (by decide) (by decide),ah _ _ (by decide) (by decide) (by decide),gz _ (by decide) hb]
 have w5:Gn W 16 4=o:=by rw[<- hW,ah _ _ (by decide) (by decide) (by decide),gz _ (by decide) ho]
 have w6:Gn W 0 4=c:=by rw[<- hW,gz _ (by decide) hc]
 unfold bG;rw[w1,w2,w3,w4,w5,w6,if_pos rfl];cases u with
 |false=>simp
 |true=>simp[hu rfl]
theorem Am{o a b:Int}{u:Bool}(ho:rg o)(ha:rg a)(hb:rg b):bG (aN 2 o a b 0 0 u)=(2,o,a,b,0,0,u,()):=by
 obtain⟨h1,h2,h3⟩:=kH 1 (by decide) u false;generalize hW:aN 2 o a b 0 0 u=W;unfold aN fo at hW;rw[if_neg (by decide),if_neg (by decide),if_pos rfl] at hW;simp only[jF] at hW;rw[show decide ((0:Int)<0)=false from rfl] at hW;have w1:Gn W 30 2=1:=by rw[<- hW,ah _ _ (by decide) (by decide) (by decide),ah _ _ (by decide) (by decide) (by decide),ah _ _ (by decide) (by decide) (by decide),ah _ _ (by decide) (by decide) (by decide),bv _ _ (by decide) (by decide) (by decide)];exact h1
 have w2:Gn W 29 1=if u then 1 else 0:=by rw[<- hW,ah _ _ (by decide) (by decide) (by decide),ah _ _ (by decide) (by decide) (by decide),ah _ _ (by decide) (by decide) (by decide),ah _ _ (by decide) (by decide) (by decide),bv _ _ (by decide) (by decide) (by decide)];exact h2
 have w7:Gn W 28 1=0:=by rw[<- hW,ah _ _ (by decide) (by decide) (by decide),ah _ _ (by decide) (by decide) (by decide),ah _ _ (by decide) (by decide) (by decide),ah _ _ (by decide) (by decide) (by decide),bv _ _ (by decide) (by decide) (by decide)];exact h3
 have w3:Gn W 24 4=a:=by rw[<- hW,ah _ _ (by decide) (by decide) (by decide),ah _ _ (by decide) (by decide) (by decide),ah _ _ (by decide) (by decide) (by decide),gz _ (by decide) ha]
 have w4:Gn W 20 4=b:=by rw[<- hW,ah _ _ (by decide) (by decide) (by decide),ah _ _ (by decide) (by decide) (by decide),gz _ (by decide) hb]
 have w5:Gn W 16 4=o:=by rw[<- hW,ah _ _ (by decide) (by decide) (by decide),gz _ (by decide) ho]
 have w6:Gn W 0 16=0:=by rw[<- hW,yS _ (by decide) (by decide)]
 unfold bG;rw[w1,w2,w3,w4,w5,w6,w7,if_neg (by decide),if_pos rfl];cases u<;>simp
theorem CR{k a:Int}(hk:k=3\/k=4)(ha:rg a):bG (aN k 0 a 0 0 0 false)=(k,0,a,0,0,0,false,()):=by
 obtain⟨h1,h2,h3⟩:=kH 0 (by decide) true (decide (k=4));generalize hW:aN k 0 a 0 0 0 false=W;unfold aN fo at hW;rw[if_neg (by omega),if_pos hk] at hW;simp only[jF] at hW;have w1:Gn W 30 2=0:=by rw[<- hW,ah _ _ (by decide) (by decide) (by decide),bv _ _ (by decide) (by decide) (by decide)];exact h1
 have w2:Gn W 29 1=1:=by rw[<- hW,ah _ _ (by decide) (by decide) (by decide),bv _ _ (by decide) (by decide) (by decide)];exact h2
 have w7:Gn W 28 1=if decide (k=4) then 1 else 0:=by rw[<- hW,ah _ _ (by decide) (by decide) (by decide),bv _ _ (by decide) (by decide) (by decide)];exact h3
 have w3:Gn W 24 4=a:=by rw[<- hW,gz _ (by decide) ha]
 have w5:Gn W 16 4=0:=by rw[<- hW,ah _ _ (by decide) (by decide) (by decide),ah _ _ (by decide) (by decide) (by decide),Kw _ _ (by decide)]
 unfold bG;rw[w1,w2,w3,w5,w7,if_pos rfl,if_pos ⟨rfl,rfl⟩];rcases hk with rfl|rfl<;>simp
theorem Je{o a b:Int}(ho:0<=o/\o<4)(ha:rg a)(hb:rg b):bG (aN 5 o a b 0 0 false)=(5,o,a,b,0,0,false,()):=by
 obtain⟨h1,h2,h3⟩:=kH 2 (by decide) (decide (2<=o)) (decide (Int.tmod o 2=1));generalize hW:aN 5 o a b 0 0 false=W;unfold aN fo at hW;rw[if_neg (by decide),if_neg (by decide),if_neg (by decide),if_pos rfl] at hW;simp only[jF] at hW;have w1:Gn W 30 2=2:=by rw[<- hW,ah _ _ (by decide) (by decide) (by decide),ah _ _ (by decide) (by decide) (by decide),ah _ _ (by decide) (by decide) (by decide),bv _ _ (by decide) (by decide) (by decide)];exact h1
 have w2:Gn W 29 1=if decide (2<=o) then 1 else 0:=by rw[<- hW,ah _ _ (by decide) (by decide) (by decide),ah _ _ (by decide) (by decide) (by decide),ah _ _ (by decide) (by decide) (by decide),bv _ _ (by decide) (by decide) (by decide)];exact h2
 have w7:Gn W 28 1=if decide (Int.tmod o 2=1) then 1 else 0:=by rw[<- hW,ah _ _ (by decide) (by decide) (by decide),ah _ _ (by decide) (by decide) (by decide),ah _ _ (by decide) (by decide) (by decide),bv _ _ (by decide) (by decide) (by decide)];exact h3
 have w3:Gn W 24 4=a:=by rw[<- hW,ah _ _ (by decide) (by decide) (by decide),ah _ _ (by decide) (by decide) (by decide),gz _ (by decide) ha]
 have w4:Gn W 20 4=b:=by rw[<- hW,ah _ _ (by decide) (by decide) (by decide),gz _ (by decide) hb]
 have w6:sgV W 20=0:=CX (by decide) (by
  rw[<- hW];have:=yS (x:=0) (a:=0) (n:=20) (fB (fB (fB 0 (BitVec.ofInt 32 ((hdN 2 (decide (2<=o)) (decide (Int.tmod o 2=1)):Nat):Int)) 28 4) (BitVec.ofInt 32 a) 24 4) (BitVec.ofInt 32 b) 20 4) (by decide) (by decide);exact BitVec.eq_of_toNat_eq (by unfold Gn at this;simpa using this))
 have:o=0\/o=1\/o=2\/o=3:=by omega
 unfold bG;rw[w1,w2,w3,w4,w6,w7,if_neg (by decide),if_neg (by decide),if_pos rfl];rcases this with rfl|rfl|rfl|rfl<;>rfl
theorem Lg{o c:Int}{u:Bool}(ho:rg o)(hc:rg c):bG (aN 6 o 0 0 c 0 u)=(6,o,0,0,c,0,u,()):=by
 obtain⟨h1,h2,h3⟩:=kH 3 (by decide) false u;generalize hW:aN 6 o 0 0 c 0 u=W;unfold aN fo at hW;rw[if_neg (by decide),if_neg (by decide),if_neg (by decide),if_neg (by decide),if_pos rfl] at hW;simp only[jF] at hW;have w1:Gn W 30 2=3:=by rw[<- hW,ah _ _ (by decide) (by decide) (by decide),ah _ _ (by decide) (by decide) (by decide),bv _ _ (by decide) (by decide) (by decide)];exact h1
 have w2:Gn W 29 1=0:=by rw[<- hW,ah _ _ (by decide) (by decide) (by decide),ah _ _ (by decide) (by decide) (by decide),bv _ _ (by decide) (by decide) (by decide)];exact h2
 have w7:Gn W 28 1=if u then 1 else 0:=by rw[<- hW,ah _ _ (by decide) (by decide) (by decide),ah _ _ (by decide) (by decide) (by decide),bv _ _ (by decide) (by decide) (by decide)];exact h3
 have w3:Gn W 24 4=o:=by rw[<- hW,ah _ _ (by decide) (by decide) (by decide),gz _ (by decide) ho]
 have w6:Gn W 0 4=c:=by rw[<- hW,gz _ (by decide) hc]
 unfold bG;rw[w1,w2,w3,w6,w7,if_neg (by decide),if_neg (by decide),if_neg (by decide),if_neg (by decide)];cases u<;>simp
theorem Jd{o:Int}{u:Bool}(ho:rg o):bG (aN 7 o 0 0 0 0 u)=(7,o,0,0,0,0,u,()):=by
 obtain⟨h1,h2,h3⟩:=kH 3 (by decide) true u;generalize hW:aN 7 o 0 0 0 0 u=W;unfold aN fo at hW;rw[if_neg (by decide),if_neg (by decide),if_neg (by decide),if_neg (by decide),if_neg (by decide)] at hW;simp only[jF] at hW;have w1:Gn W 30 2=3:=by rw[<- hW,ah _ _ (by decide) (by decide) (by decide),ah _ _ (by decide) (by decide) (by decide),bv _ _ (by decide) (by decide) (by decide)];exact h1
 have w2:Gn W 29 1=1:=by rw[<- hW,ah _ _ (by decide) (by decide) (by decide),ah _ _ (by decide) (by decide) (by decide),bv _ _ (by decide) (by decide) (by decide)];exact h2
 have w7:Gn W 28 1=if u then 1 else 0:=by rw[<- hW,ah _ _ (by decide) (by decide) (by decide),ah _ _ (by decide) (by decide) (by decide),bv _ _ (by decide) (by decide) (by decide)];exact h3
 have w3:Gn W 24 4=o:=by rw[<- hW,ah _ _ (by decide) (by decide) (by decide),gz _ (by decide) ho]
 have w6:sgV W 24=0:=CX (by decide) (by
  rw[<- hW];have:=yS (x:=0) (a:=0) (n:=24) (fB (fB 0 (BitVec.ofInt 32 ((hdN 3 true u:Nat):Int)) 28 4) (BitVec.ofInt 32 o) 24 4) (by decide) (by decide);exact BitVec.eq_of_toNat_eq (by unfold Gn at this;simpa using this))
 unfold bG;rw[w1,w2,w3,w6,w7,if_neg (by decide),if_neg (by decide),if_neg (by decide),if_pos rfl];cases u<;>simp
theorem kr{k o a b c:Int}{u:Bool}(h:cu k o a b c u):bG (aN k o a b c 0 u)=(k,o,a,b,c,0,u,()):=by
 have z:rg 0:=⟨by decide,by decide⟩
 cases h with
 |reg h1 h2 ha hb hc hu=>exact Ao ⟨by omega,by omega⟩ ha hb hc (fun _=>by omega)
 |mov ha hc=>exact Ao z ha z hc (fun h=>by cases h)
 |imm h1 h2 ha hb hu=>exact Am ⟨by omega,by omega⟩ ha hb
 |movi ha=>exact Am z ha z
 |hi ha=>exact CR (.inl rfl) ha
 |fl ha=>exact CR (.inr rfl) ha
 |mem h1 h2 ha hb=>exact Je ⟨h1,h2⟩ ha hb
 |br ho hc=>exact Lg ho hc
 |jmp ho=>exact Jd ho
theorem dU(n l h:Int):Zco.g n l h=some (decide (l<=n)&&decide (n<=h),()):=by
 unfold Zco.g Zco.f;by_cases e:l<=n;·rw[if_pos (by simpa using e),decide_eq_true e];rfl
 ·rw[if_neg (by simpa using e),decide_eq_false e];rfl
theorem Im{k o a b c:Int}{u:Bool}(h:cu k o a b c u):1<=k/\k<=7/\0<=o/\o<=15:=by
 cases h<;>refine⟨by decide,by decide,?_,?_⟩<;>first|decide|omega|(rename_i h _;exact h.1)|(rename_i h _;have:=h.2;omega)|(rename_i h;exact h.1)|(rename_i h;have:=h.2;omega)
theorem BM(W:W32):rg (bG W).2.2.1/\rg (bG W).2.2.2.1/\rg (bG W).2.2.2.2.1:=by
 have z:rg 0:=⟨by decide,by decide⟩
 have a:∀p,rg (Gn W p 4):=fun p=>fu W p (n:=4) (by decide)
 unfold bG;split
 ·split
  ·exact⟨a _,z,z⟩
  ·exact⟨a _,a _,a _⟩
 ·split
  ·exact⟨a _,a _,z⟩
  ·split
   ·exact⟨a _,a _,z⟩
   ·split
    ·exact⟨z,z,z⟩
    ·exact⟨z,z,a _⟩
theorem FE(k o a b c i:Int)(u:Bool):∃r,Zas.g k o a b c i u=some (r,())/\(r=true->(1<=k/\k<=7)/\rg a/\rg b/\rg c):=by
 unfold Zas.g;generalize 1000+k.toNat+o.toNat+a.toNat+b.toNat+c.toNat+i.toNat=n;unfold Zas.f;rw[dU,ND];dsimp only;by_cases hk:1<=k/\k<=7
 case neg=>rw[if_neg (by simp;omega)];exact⟨_,rfl,fun h=>by cases h⟩
 rw[if_pos (by simp[hk]),dU,ND];dsimp only;by_cases ho:0<=o/\o<=15
 case neg=>rw[if_neg (by simp;omega)];exact⟨_,rfl,fun h=>by cases h⟩
 rw[if_pos (by simp[ho]),oO,ND];dsimp only;rw[uC,ND];obtain⟨r1,r2,r3⟩:=BM (aN k o a b c i u);generalize bG (aN k o a b c i u)=y at *;split;·exact⟨_,rfl,fun h=>by cases h⟩
 ·rename_i he;simp only[Bool.not_eq_true',Bool.not_eq_false,NJ,NN] at he;have hg:(1<=k/\k<=7)/\rg a/\rg b/\rg c:=⟨hk,he.2.2.1 ▸ r1,he.2.2.2.1 ▸ r2,he.2.2.2.2.1 ▸ r3⟩
  simp only[dt,df,Zas.j10,dU,ND]
  repeat' split
  all_goals exact⟨_,rfl,fun _=>hg⟩
end Rv
namespace Rv
open Go
set_option maxRecDepth 100000
end Rv
namespace Rv
open Go
theorem M0{k o a b c:Int}{u:Bool}(h:cu k o a b c u):rg a/\rg b/\rg c:=by
 have z:rg 0:=⟨by decide,by decide⟩
 cases h<;>refine⟨?_,?_,?_⟩<;>assumption
def I0P(k o a b c:Int)(u:Bool):Prop:=
 (k=1/\0<o/\o<12/\(u=true->8<=o/\o<=10))\/(k=1/\o=0/\b=0/\u=false)\/(k=2/\0<o/\o<12/\c=0/\(u=true->8<=o/\o<=10))\/(k=2/\o=0/\b=0/\c=0) \/
 (k=3/\o=0/\b=0/\c=0/\u=false)\/(k=4/\o=0/\b=0/\c=0/\u=false)\/(k=5/\0<=o/\o<4/\c=0/\u=false)\/(k=6/\0<=o/\o<16/\a=0/\b=0)\/(k=7/\0<=o/\o<16/\a=0/\b=0/\c=0)
instance (k o a b c:Int) (u:Bool):Decidable (I0P k o a b c u):=by unfold I0P;infer_instance
theorem Cm{k o a b c:Int}{u:Bool}(ha:rg a)(hb:rg b)(hc:rg c):cu k o a b c u↔I0P k o a b c u:=by
 constructor
 ·intro h;unfold I0P;cases h with
  |reg h1 h2 _ _ _ h3=>exact .inl ⟨rfl,h1,h2,h3⟩
  |mov _ _=>exact .inr (.inl ⟨rfl,rfl,rfl,rfl⟩)
  |imm h1 h2 _ _ h3=>exact .inr (.inr (.inl ⟨rfl,h1,h2,rfl,h3⟩))
  |movi _=>exact .inr (.inr (.inr (.inl ⟨rfl,rfl,rfl,rfl⟩)))
  |hi _=>exact .inr (.inr (.inr (.inr (.inl ⟨rfl,rfl,rfl,rfl,rfl⟩))))
  |fl _=>exact .inr (.inr (.inr (.inr (.inr (.inl ⟨rfl,rfl,rfl,rfl,rfl⟩)))))
  |mem h1 h2 _ _=>exact .inr (.inr (.inr (.inr (.inr (.inr (.inl ⟨rfl,h1,h2,rfl,rfl⟩))))))
  |br h _=>exact .inr (.inr (.inr (.inr (.inr (.inr (.inr (.inl ⟨rfl,h.1,h.2,rfl,rfl⟩)))))))
  |jmp h=>exact .inr (.inr (.inr (.inr (.inr (.inr (.inr (.inr ⟨rfl,h.1,h.2,rfl,rfl,rfl⟩)))))))
 ·intro h;unfold I0P at h;rcases h with⟨rfl,h1,h2,h3⟩|⟨rfl,rfl,rfl,rfl⟩|⟨rfl,h1,h2,rfl,h3⟩|⟨rfl,rfl,rfl,rfl⟩|⟨rfl,rfl,rfl,rfl,rfl⟩|⟨rfl,rfl,rfl,rfl,rfl⟩|⟨rfl,h1,h2,rfl,rfl⟩|⟨rfl,h1,h2,rfl,rfl⟩|⟨rfl,h1,h2,rfl,rfl,rfl⟩
  ·exact .reg h1 h2 ha hb hc h3
  ·exact .mov ha hc
  ·exact .imm h1 h2 ha hb h3
  ·exact .movi ha
  ·exact .hi ha
  ·exact .fl ha
  ·exact .mem h1 h2 ha hb
  ·exact .br ⟨h1,h2⟩ hc
  ·exact .jmp ⟨h1,h2⟩
end Rv
namespace Rv
open Go
def kw(k o i:Int)(u:Bool):Prop:=
 (k=2/\-65536<=i/\i<=65535/\(o=0->u=true->0<=i))\/(k=5/\-524288<=i/\i<=524287)\/(k=7/\-8388608<=i/\i<=8388607)\/(k≠2/\k≠5/\k≠7/\i=0)
instance (k o i:Int) (u:Bool):Decidable (kw k o i u):=by unfold kw;infer_instance
theorem wT(W:W32){n:Nat}(hn:n<=32):(eP W 0 n).toNat=W.toNat % 2 ^ n:=by
 refine Nat.eq_of_testBit_eq fun j=>?_
 rw[Nat.testBit_mod_two_pow];by_cases hj:j<32;·have:=fq W (a:=0) hn hj;rw[Nat.zero_add] at this;exact this
 ·have h1:(eP W 0 n).toNat.testBit j=false:=BitVec.getLsbD_of_ge _ _ (by omega);rw[h1,decide_eq_false (by omega),Bool.false_and]
theorem zD(W:W32)(i:Int){n:Nat}(hn:n<=32):Gn (fB W (BitVec.ofInt 32 i) 0 n) 0 n=i % 2 ^ n:=by
 unfold Gn;rw[zC W _ (by omega) (NM _) (NM _),Nat.sub_self,wT _ hn,BitVec.toNat_ofInt];have e:((2 ^ n:Nat):Int)=2 ^ n:=by rw[Int.natCast_pow];rfl
 have e2:((2 ^ 32:Nat):Int)=2 ^ 32:=rfl;rw[Int.natCast_emod,Int.toNat_of_nonneg (Int.emod_nonneg _ (by decide)),e];refine Int.emod_emod_of_dvd i ?_;obtain⟨d,hd⟩:=Nat.exists_eq_add_of_le hn;refine⟨2 ^ d,?_⟩;rw[e2,<- Int.pow_add,<- hd]
theorem MK(W:W32):sgV W 20=if Gn W 0 20<524288 then Gn W 0 20 else Gn W 0 20-1048576:=by
 unfold sgV Gn;rw[wT W (by decide),BitVec.toNat_shiftLeft,Nat.shiftLeft_eq,Int.fdiv_eq_ediv_of_nonneg _ (by decide),IntKind.wrap_i32,IntKind.wrap_i64];have:=W.isLt;generalize W.toNat=q at *;show _=if((q % 1048576:Nat):Int)<524288 then((q % 1048576:Nat):Int) else((q % 1048576:Nat):Int)-1048576
 simp only[Nat.reducePow,Nat.reduceSub,Int.reducePow];split<;>omega
theorem ML(W:W32):sgV W 24=if Gn W 0 24<8388608 then Gn W 0 24 else Gn W 0 24-16777216:=by
 unfold sgV Gn;rw[wT W (by decide),BitVec.toNat_shiftLeft,Nat.shiftLeft_eq,Int.fdiv_eq_ediv_of_nonneg _ (by decide),IntKind.wrap_i32,IntKind.wrap_i64];have:=W.isLt;generalize W.toNat=q at *;show _=if((q % 16777216:Nat):Int)<8388608 then((q % 16777216:Nat):Int) else((q % 16777216:Nat):Int)-16777216
 simp only[Nat.reducePow,Nat.reduceSub,Int.reducePow];split<;>omega
theorem x9{o a b i:Int}{u:Bool}(ho:rg o)(ha:rg a)(hb:rg b)(hi:-65536<=i/\i<=65535):bG (aN 2 o a b 0 i u)=(2,o,a,b,0,i,u,()):=by
 obtain⟨h1,h2,h3⟩:=kH 1 (by decide) u (decide (i<0));generalize hW:aN 2 o a b 0 i u=W;unfold aN fo at hW;rw[if_neg (by decide),if_neg (by decide),if_pos rfl] at hW;simp only[jF] at hW;have w1:Gn W 30 2=1:=by rw[<- hW,ah _ _ (by decide) (by decide) (by decide),ah _ _ (by decide) (by decide) (by decide),ah _ _ (by decide) (by decide) (by decide),ah _ _ (by decide) (by decide) (by decide),bv _ _ (by decide) (by decide) (by decide)];exact h1
 have w2:Gn W 29 1=if u then 1 else 0:=by rw[<- hW,ah _ _ (by decide) (by decide) (by decide),ah _ _ (by decide) (by decide) (by decide),ah _ _ (by decide) (by decide) (by decide),ah _ _ (by decide) (by decide) (by decide),bv _ _ (by decide) (by decide) (by decide)];exact h2
 have w7:Gn W 28 1=if decide (i<0) then 1 else 0:=by rw[<- hW,ah _ _ (by decide) (by decide) (by decide),ah _ _ (by decide) (by decide) (by decide),ah _ _ (by decide) (by decide) (by decide),ah _ _ (by decide) (by decide) (by decide),bv _ _ (by decide) (by decide) (by decide)];exact h3
 have w3:Gn W 24 4=a:=by rw[<- hW,ah _ _ (by decide) (by decide) (by decide),ah _ _ (by decide) (by decide) (by decide),ah _ _ (by decide) (by decide) (by decide),gz _ (by decide) ha]
 have w4:Gn W 20 4=b:=by rw[<- hW,ah _ _ (by decide) (by decide) (by decide),ah _ _ (by decide) (by decide) (by decide),gz _ (by decide) hb]
 have w5:Gn W 16 4=o:=by rw[<- hW,ah _ _ (by decide) (by decide) (by decide),gz _ (by decide) ho]
 have w6:Gn W 0 16=i % 65536:=by rw[<- hW];exact zD _ i (by decide)
 unfold bG;rw[w1,w2,w3,w4,w5,w6,w7,if_neg (by decide),if_pos rfl];have e:i % 65536-(if decide (i<0) then 1 else 0)*65536=i:=by
  by_cases h:i<0;·rw[decide_eq_true h,if_pos rfl];omega
  ·rw[decide_eq_false h,if_neg (by decide)];omega
 rw[e];cases u<;>simp
theorem Gc{o a b i:Int}(ho:0<=o/\o<4)(ha:rg a)(hb:rg b)(hi:-524288<=i/\i<=524287):bG (aN 5 o a b 0 i false)=(5,o,a,b,0,i,false,()):=by
 obtain⟨h1,h2,h3⟩:=kH 2 (by decide) (decide (2<=o)) (decide (Int.tmod o 2=1));generalize hW:aN 5 o a b 0 i false=W;unfold aN fo at hW;rw[if_neg (by decide),if_neg (by decide),if_neg (by decide),if_pos rfl] at hW;simp only[jF] at hW;have w1:Gn W 30 2=2:=by rw[<- hW,ah _ _ (by decide) (by decide) (by decide),ah _ _ (by decide) (by decide) (by decide),ah _ _ (by decide) (by decide) (by decide),bv _ _ (by decide) (by decide) (by decide)];exact h1
 have w2:Gn W 29 1=if decide (2<=o) then 1 else 0:=by rw[<- hW,ah _ _ (by decide) (by decide) (by decide),ah _ _ (by decide) (by decide) (by decide),ah _ _ (by decide) (by decide) (by decide),bv _ _ (by decide) (by decide) (by decide)];exact h2
 have w7:Gn W 28 1=if decide (Int.tmod o 2=1) then 1 else 0:=by rw[<- hW,ah _ _ (by decide) (by decide) (by decide),ah _ _ (by decide) (by decide) (by decide),ah _ _ (by decide) (by decide) (by decide),bv _ _ (by decide) (by decide) (by decide)];exact h3
 have w3:Gn W 24 4=a:=by rw[<- hW,ah _ _ (by decide) (by decide) (by decide),ah _ _ (by decide) (by decide) (by decide),gz _ (by decide) ha]
 have w4:Gn W 20 4=b:=by rw[<- hW,ah _ _ (by decide) (by decide) (by decide),gz _ (by decide) hb]
 have w6:sgV W 20=i:=by
  have e:Gn W 0 20=i % 1048576:=by rw[<- hW];exact zD _ i (by decide)
  rw[MK,e];split<;>omega
 have:o=0\/o=1\/o=2\/o=3:=by omega
 unfold bG;rw[w1,w2,w3,w4,w6,w7,if_neg (by decide),if_neg (by decide),if_pos rfl];rcases this with rfl|rfl|rfl|rfl<;>rfl
theorem Gb{o i:Int}{u:Bool}(ho:rg o)(hi:-8388608<=i/\i<=8388607):bG (aN 7 o 0 0 0 i u)=(7,o,0,0,0,i,u,()):=by
 obtain⟨h1,h2,h3⟩:=kH 3 (by decide) true u;generalize hW:aN 7 o 0 0 0 i u=W;unfold aN fo at hW;rw[if_neg (by decide),if_neg (by decide),if_neg (by decide),if_neg (by decide),if_neg (by decide)] at hW;simp only[jF] at hW;have w1:Gn W 30 2=3:=by rw[<- hW,ah _ _ (by decide) (by decide) (by decide),ah _ _ (by decide) (by decide) (by decide),bv _ _ (by decide) (by decide) (by decide)];exact h1
 have w2:Gn W 29 1=1:=by rw[<- hW,ah _ _ (by decide) (by decide) (by decide),ah _ _ (by decide) (by decide) (by decide),bv _ _ (by decide) (by decide) (by decide)];exact h2
 have w7:Gn W 28 1=if u then 1 else 0:=by rw[<- hW,ah _ _ (by decide) (by decide) (by decide),ah _ _ (by decide) (by decide) (by decide),bv _ _ (by decide) (by decide) (by decide)];exact h3
 have w3:Gn W 24 4=o:=by rw[<- hW,ah _ _ (by decide) (by decide) (by decide),gz _ (by decide) ho]
 have w6:sgV W 24=i:=by
  have e:Gn W 0 24=i % 16777216:=by rw[<- hW];exact zD _ i (by decide)
  rw[ML,e];split<;>omega
 unfold bG;rw[w1,w2,w3,w6,w7,if_neg (by decide),if_neg (by decide),if_neg (by decide),if_pos rfl];cases u<;>simp
theorem Es{k o a b c i:Int}{u:Bool}(h:cu k o a b c u)(hi:kw k o i u):bG (aN k o a b c i u)=(k,o,a,b,c,i,u,()):=by
 have z:rg 0:=⟨by decide,by decide⟩
 unfold kw at hi;have i0:k≠2->k≠5->k≠7->i=0:=fun h2 h5 h7=>by
  rcases hi with⟨h,_⟩|⟨h,_⟩|⟨h,_⟩|⟨_,_,_,h⟩;·exact absurd h h2
  ·exact absurd h h5
  ·exact absurd h h7
  ·exact h
 have hg:=h;cases h with
 |imm h1 h2 ha hb hu=>exact x9 ⟨by omega,by omega⟩ ha hb (by omega)
 |movi ha=>exact x9 z ha z (by omega)
 |mem h1 h2 ha hb=>exact Gc ⟨h1,h2⟩ ha hb (by omega)
 |jmp ho=>exact Gb ho (by omega)
 |reg h1 h2 ha hb hc hu=>rw[i0 (by decide) (by decide) (by decide)];exact kr hg
 |mov ha hc=>rw[i0 (by decide) (by decide) (by decide)];exact kr hg
 |hi ha=>rw[i0 (by decide) (by decide) (by decide)];exact kr hg
 |fl ha=>rw[i0 (by decide) (by decide) (by decide)];exact kr hg
 |br ho hc=>rw[i0 (by decide) (by decide) (by decide)];exact kr hg
theorem FC{k o a b c i:Int}{u:Bool}(h:cu k o a b c u)(hi:kw k o i u):Zas.g k o a b c i u=some (true,()):=by
 have hr:=Es h hi;have hk:=Im h;unfold Zas.g;generalize 1000+k.toNat+o.toNat+a.toNat+b.toNat+c.toNat+i.toNat=n;unfold Zas.f;rw[dU,ND];dsimp only;rw[decide_eq_true hk.1,decide_eq_true hk.2.1,if_pos (by decide),dU,ND];dsimp only;rw[decide_eq_true hk.2.2.1,decide_eq_true hk.2.2.2,if_pos (by decide),oO,ND];dsimp only;rw[uC,ND,hr];dsimp only;rw[if_neg (by simp)];simp only[dt,df,Zas.j10,dU,ND];have i0:k=1->i=0:=fun h1=>by unfold kw at hi;omega
 cases h with
 |reg h1 h2 ha hb hc hu=>
  rw[if_pos rfl,if_pos rfl,if_neg (by omega),if_neg (by omega)];cases u with
  |false=>rfl
  |true=>simp[hu rfl]
 |mov ha hc=>rw[i0 rfl];rfl
 |imm h1 h2 ha hb hu=>
  rw[if_neg (by decide),if_pos rfl,if_neg (by omega),if_neg (by omega)];cases u with
  |false=>rfl
  |true=>simp[hu rfl]
 |movi ha=>
  cases u with
  |false=>rfl
  |true=>
   have:0<=i:=by unfold kw at hi;simp at hi;omega
   show some (decide (0<=i),())=_;rw[decide_eq_true this]
 |hi ha=>rfl
 |fl ha=>rfl
 |mem h1 h2 ha hb=>rfl
 |br ho hc=>rfl
 |jmp ho=>rfl
theorem FD{k o a b c i:Int}{u:Bool}(h:Zas.g k o a b c i u=some (true,())):cu k o a b c u/\kw k o i u:=by
 unfold Zas.g at h;generalize 1000+k.toNat+o.toNat+a.toNat+b.toNat+c.toNat+i.toNat=n at h;unfold Zas.f at h;rw[dU,ND] at h;dsimp only at h;by_cases hk:1<=k/\k<=7
 case neg=>rw[if_neg (by simp;omega)] at h;cases h
 rw[if_pos (by simp[hk]),dU,ND] at h;dsimp only at h;by_cases ho:0<=o/\o<=15
 case neg=>rw[if_neg (by simp;omega)] at h;cases h
 rw[if_pos (by simp[ho]),oO,ND] at h;dsimp only at h;rw[uC,ND] at h;have s20:=MK (aN k o a b c i u);have s24:=ML (aN k o a b c i u);have r20:=fu (aN k o a b c i u) 0 (n:=20) (by decide);have r24:=fu (aN k o a b c i u) 0 (n:=24) (by decide);have r16:=fu (aN k o a b c i u) 0 (n:=16) (by decide);generalize hW:aN k o a b c i u=W at h s20 s24 r20 r24 r16;have g4:∀p,rg (Gn W p 4):=fun p=>fu W p (n:=4) (by decide)
 have g1:∀p,0<=Gn W p 1/\Gn W p 1<2:=fun p=>fu W p (n:=1) (by decide)
 split at h;·cases h
 ·rename_i he;simp only[Bool.not_eq_true',Bool.not_eq_false,NJ,NN,beq_iff_eq,and_true] at he;obtain⟨e1,e2,e3,e4,e5,e6,e7⟩:=he;simp only[dt,df,Zas.j10,dU,ND] at h;unfold bG at e1 e2 e3 e4 e5 e6 e7;split at e1
  ·rename_i f0;rw[if_pos f0] at e2 e3 e4 e5 e6 e7;split at e1
   ·rename_i f1;rw[if_pos f1] at e2 e3 e4 e5 e6 e7;dsimp only at e1 e2 e3 e4 e5 e6 e7;have:=g1 28;subst e2 e4 e5 e7;have hk3:k=3\/k=4:=by omega
    rcases hk3 with rfl|rfl;·exact⟨.hi (e3 ▸ g4 _),.inr (.inr (.inr ⟨by decide,by decide,by decide,e6⟩))⟩
    ·exact⟨.fl (e3 ▸ g4 _),.inr (.inr (.inr ⟨by decide,by decide,by decide,e6⟩))⟩
   ·rename_i f1;rw[if_neg f1] at e2 e3 e4 e5 e6 e7;dsimp only at e1 e2 e3 e4 e5 e6 e7;subst e1;rw[if_pos rfl,if_pos rfl] at h;by_cases ho0:o=0
    ·subst ho0;rw[if_pos rfl] at h;by_cases hb0:b=0
     ·subst hb0;rw[if_pos rfl,if_pos (by decide)] at h;cases u with
      |false=>exact⟨.mov (e3 ▸ g4 _) (e5 ▸ g4 _),.inr (.inr (.inr ⟨by decide,by decide,by decide,e6⟩))⟩
      |true=>rw[if_neg (by decide)] at h;cases h
     ·rw[if_neg hb0] at h;cases h
    ·rw[if_neg ho0] at h;by_cases h11:11<o
     ·rw[if_pos h11] at h;cases h
     ·rw[if_neg h11] at h;refine⟨.reg (by omega) (by omega) (e3 ▸ g4 _) (e4 ▸ g4 _) (e5 ▸ g4 _) fun hu=>?_,.inr (.inr (.inr ⟨by decide,by decide,by decide,e6⟩))⟩;subst hu;simp at h;exact h
  ·rename_i f0;rw[if_neg f0] at e2 e3 e4 e5 e6 e7;split at e1
   ·rename_i f1;rw[if_pos f1] at e2 e3 e4 e5 e6 e7;dsimp only at e1 e2 e3 e4 e5 e6 e7;subst e1 e5;rw[if_neg (by decide),if_pos rfl] at h;by_cases ho0:o=0
    ·subst ho0;rw[if_pos rfl] at h;by_cases hb0:b=0
     ·subst hb0;exact⟨.movi (e3 ▸ g4 _),.inl ⟨rfl,by have:=g1 28;omega,by have:=g1 28;omega,fun _ hu=>by subst hu;simpa using h⟩⟩
     ·rw[if_neg hb0] at h;cases h
    ·rw[if_neg ho0] at h;by_cases h11:11<o
     ·rw[if_pos h11] at h;cases h
     ·rw[if_neg h11] at h;refine⟨.imm (by omega) (by omega) (e3 ▸ g4 _) (e4 ▸ g4 _) fun hu=>?_,.inl ⟨rfl,by have:=g1 28;omega,by have:=g1 28;omega,fun h0=>absurd h0 ho0⟩⟩;subst hu;simp at h;exact h
   ·rename_i f1;rw[if_neg f1] at e2 e3 e4 e5 e6 e7;split at e1
    ·rename_i f2;rw[if_pos f2] at e2 e3 e4 e5 e6 e7;dsimp only at e1 e2 e3 e4 e5 e6 e7;have q1:=g1 29;have q2:=g1 28;subst e1 e5 e7;exact⟨.mem (by omega) (by omega) (e3 ▸ g4 _) (e4 ▸ g4 _),.inr (.inl ⟨rfl,by rw[e6,s20];split<;>omega,by rw[e6,s20];split<;>omega⟩)⟩
    ·rename_i f2;rw[if_neg f2] at e2 e3 e4 e5 e6 e7;split at e1
     ·rename_i f3;rw[if_pos f3] at e2 e3 e4 e5 e6 e7;dsimp only at e1 e2 e3 e4 e5 e6 e7;subst e1 e3 e4 e5;exact⟨.jmp (e2 ▸ g4 _),.inr (.inr (.inl ⟨rfl,by rw[e6,s24];split<;>omega,by rw[e6,s24];split<;>omega⟩))⟩
     ·rename_i f3;rw[if_neg f3] at e2 e3 e4 e5 e6 e7;dsimp only at e1 e2 e3 e4 e5 e6 e7;subst e1 e3 e4;exact⟨.br (e2 ▸ g4 _) (e5 ▸ g4 _),.inr (.inr (.inr ⟨by decide,by decide,by decide,e6⟩))⟩
end Rv
namespace Rv
open Go
end Rv
namespace Rv
open Go
section
variable{W X:W32}
end
def lm(k o a b c i:Int)(u:Bool):Int×Int×Unit:=if I0P k o a b c u/\kw k o i u/\(0<=a/\a<16)/\(0<=b/\b<16)/\(0<=c/\c<16) then(((aN k o a b c i u).toNat:Int),0,()) else(0,1,())
theorem zH(k o a b c i:Int)(u:Bool):(cu k o a b c u/\kw k o i u)↔I0P k o a b c u/\kw k o i u/\(0<=a/\a<16)/\(0<=b/\b<16)/\(0<=c/\c<16):=by
 constructor;·rintro⟨h,hi⟩;obtain⟨ha,hb,hc⟩:=M0 h;exact⟨(Cm ha hb hc).1 h,hi,ha,hb,hc⟩
 ·rintro⟨h,hi,ha,hb,hc⟩;exact⟨(Cm ha hb hc).2 h,hi⟩
theorem KA(k o a b c i:Int)(u:Bool):Zcp.g k o a b c i u=some (lm k o a b c i u):=by
 unfold lm;by_cases h:I0P k o a b c u/\kw k o i u/\(0<=a/\a<16)/\(0<=b/\b<16)/\(0<=c/\c<16)
 ·rw[if_pos h];obtain⟨h1,h2⟩:=(zH k o a b c i u).2 h;unfold Zcp.g Zcp.f;rw[FC h1 h2,ND];dsimp only;rw[if_neg (by decide),oO,ND]
 ·rw[if_neg h];obtain⟨r,hr,_⟩:=FE k o a b c i u;have:r=false:=by
   cases r with
   |false=>rfl
   |true=>exact absurd ((zH k o a b c i u).1 (FD hr)) h
  subst this;unfold Zcp.g Zcp.f;rw[hr,ND];rfl
end Rv
namespace Rv
open Go
def oF(k o a b c i:Int)(u:Bool):Except Int (Int×Bool):=if(lm k o a b c i u).2.1=0 then .ok ((lm k o a b c i u).1,false) else .error (lm k o a b c i u).2.1
def Ee(lb:List Sym)(e:List Item)(low high:Int):Int×Int×Unit:=
 if(vOf lb e).2.2.1≠0 then(0,(vOf lb e).2.2.1,()) else if(vOf lb e).2.1≠0 then(0,27,()) else zZ (IntKind.i64.wrap (IntKind.i32.wrap (vOf lb e).1)) (IntKind.i64.wrap (vOf lb e).1) low high
def wP(v pl:Int):Int:=IntKind.i64.wrap (IntKind.i32.wrap (IntKind.u32.wrap (IntKind.u32.wrap (v-IntKind.u32.wrap pl)-4)))
def Ih(v ad pl:Int):Int×Int×Unit:=
 if ad≠1 then(0,27,()) else if Int.tmod (wP v pl) 4≠0\/IntKind.i64.wrap (Int.tdiv (wP v pl) 4) < -8388608\/8388608<=IntKind.i64.wrap (Int.tdiv (wP v pl) 4) then(0,28,())
 else(IntKind.i64.wrap (Int.tdiv (wP v pl) 4),0,())
def qz(n ad words:Int):Int:=if ad<0\/1<ad then 27 else if ad=1/\IntKind.i64.wrap (4*words)<IntKind.i64.wrap n then 28 else 0
abbrev Snt:=Int×Int×Int×Int×Int×Bool×List Item×Str×Unit
def iX(k o a b c:Int)(r:Int×Int×Unit)(u:Bool):Except Int (Int×Bool):=if r.2.1≠0 then .error r.2.1 else oF k o a b c r.1 u
def mq(lb:List Sym)(q:List Val)(fr wd:Int)(s:Snt)(pl:Int):Except Int (Int×Bool):=
 if s.1=2 then iX s.1 s.2.1 s.2.2.1 s.2.2.2.1 s.2.2.2.2.1 (Ee lb s.2.2.2.2.2.2.1 (if s.2.1=0/\s.2.2.2.2.2.1=true then 0 else -65536) 65535) s.2.2.2.2.2.1
 else if s.1=5 then iX s.1 s.2.1 s.2.2.1 s.2.2.2.1 s.2.2.2.2.1 (Ee lb s.2.2.2.2.2.2.1 (-524288) 524287) s.2.2.2.2.2.1
 else if s.1=7 then
  (if(vOf lb s.2.2.2.2.2.2.1).2.2.1≠0 then .error (vOf lb s.2.2.2.2.2.2.1).2.2.1 else iX s.1 s.2.1 s.2.2.1 s.2.2.2.1 s.2.2.2.2.1 (Ih (vOf lb s.2.2.2.2.2.2.1).1 (vOf lb s.2.2.2.2.2.2.1).2.1 pl) s.2.2.2.2.2.1)
 else if s.1=8 then
  (if(vOf lb s.2.2.2.2.2.2.1).2.2.1≠0 then .error (vOf lb s.2.2.2.2.2.2.1).2.2.1
  else iX 5 0 s.2.2.1 13 0 (IntKind.i64.wrap (fr+IntKind.i64.wrap (4*(uM ((vOf lb s.2.2.2.2.2.2.1).1,(vOf lb s.2.2.2.2.2.2.1).2.1,()) q:Int))),qz (vOf lb s.2.2.2.2.2.2.1).1 (vOf lb s.2.2.2.2.2.2.1).2.1 wd,()) false)
 else if s.1=9 then
  (if(vOf lb s.2.2.2.2.2.2.1).2.2.1≠0 then .error (vOf lb s.2.2.2.2.2.2.1).2.2.1
  else if qz (vOf lb s.2.2.2.2.2.2.1).1 (vOf lb s.2.2.2.2.2.2.1).2.1 wd≠0 then .error (qz (vOf lb s.2.2.2.2.2.2.1).1 (vOf lb s.2.2.2.2.2.2.1).2.1 wd)
  else .ok ((vOf lb s.2.2.2.2.2.2.1).1,decide ((vOf lb s.2.2.2.2.2.2.1).2.1=1)))
 else oF s.1 s.2.1 s.2.2.1 s.2.2.2.1 s.2.2.2.2.1 0 s.2.2.2.2.2.1
abbrev WrT:=List Int×List Int×List Sym
def fA(r:WrT)(w:Int)(st:Bool):WrT:=(r.1++[w],if st=true then r.2.1++[(r.1.length:Int)] else r.2.1,r.2.2)
def jA(lb:List Sym)(nm:Str)(y:List Sym):Except Int (List Sym):=
 if cB nm=false then .error 9 else if(bB nm lb).isSome=false then .error 25 else if oN y nm=true then .error 26 else .ok (jE y (nm,(bB nm lb).getD 0,()))
def jP(lb:List Sym)(q:List Val)(fr wd:Int)(s:Snt)(pl:Int)(r:WrT):Except Int WrT:=
 if s.1=0 then .ok r
 else if s.1=10 then(match jA lb s.2.2.2.2.2.2.2.1 r.2.2 with | .error x=>.error x | .ok y=>.ok (r.1,r.2.1,y))
 else match mq lb q fr wd s pl with | .error x=>.error x | .ok w=>.ok (fA r w.1 w.2)
abbrev Nh:=Int×List Int×List Sym×List Val×Int×Int×List Int×List Int×List Sym×Unit
def uK(t:List Int)(lb:List Sym)(q:List Val)(fr wd:Int)(r:WrT):Except Int WrT->Nh
 | .error x=>(x,t,lb,q,fr,wd,r.1,r.2.1,r.2.2,())
 | .ok r'=>(0,t,lb,q,fr,wd,r'.1,r'.2.1,r'.2.2,())
theorem Cf(k o a b c i:Int)(u:Bool){x:Int}(h:oF k o a b c i u=.error x):x≠0:=by
 unfold oF at h;split at h;·cases h
 ·rename_i h1;cases h;exact h1
section
variable(t:List Int)(lb:List Sym)(q:List Val)(fr wd:Int)(r:WrT)
theorem um(h1:r.1.length<=1000000)(h2:r.2.1.length<=1000000)(v ad:Int) :
  Zbd.g v ad t lb q fr wd r.1 r.2.1 r.2.2=some (t,lb,q,fr,wd,(fA r v (decide (ad=1))).1,(fA r v (decide (ad=1))).2.1,(fA r v (decide (ad=1))).2.2,()):=by
 unfold Zbd.g Zbd.f Zbd.j3 fA;simp only[dt];by_cases h:ad=1;·rw[if_pos h,if_pos (by simp;omega),if_pos (by simp;omega),if_pos h]
 ·rw[if_neg h,if_pos (by simp;omega),if_neg h]
theorem EQ(h1:r.1.length<=1000000)(h2:r.2.1.length<=1000000)(k o a b c i:Int)(u:Bool) :
  Zdm.g k o a b c i u t lb q fr wd r.1 r.2.1 r.2.2=some (uK t lb q fr wd r (match oF k o a b c i u with | .error x=>.error x | .ok w=>.ok (fA r w.1 w.2))):=by
 unfold Zdm.g Zdm.f oF;rw[KA,ND];simp only[dt];by_cases h:(lm k o a b c i u).2.1=0;·rw[if_pos h,if_pos h,um t lb q fr wd r h1 h2,ND];dsimp only[uK];rw[h];rfl
 ·rw[if_neg h,if_neg h];rfl
theorem BR(v ad:Int):Zcv.g v ad t lb q fr wd r.1 r.2.1 r.2.2=some (qz v ad wd,t,lb,q,fr,wd,r.1,r.2.1,r.2.2,()):=by
 unfold Zcv.g Zcv.f qz;simp only[dt,df];by_cases h1:ad<0;·rw[if_neg (by omega),if_pos (.inl h1)]
 ·rw[if_pos (by omega)];by_cases h2:1<ad
  ·rw[if_pos h2,if_pos (.inr h2)]
  ·rw[if_neg h2,if_neg (show ¬(ad<0\/1<ad) by omega)];by_cases h3:ad=1
   ·rw[if_pos h3];by_cases h4:IntKind.i64.wrap (4*wd)<IntKind.i64.wrap v
    ·rw[if_pos h4,if_pos ⟨h3,h4⟩]
    ·rw[if_neg h4,if_neg (fun h=>h4 h.2)]
   ·rw[if_neg h3,if_neg (fun h=>h3 h.1)]
theorem JX(v ad pl:Int):Zdn.g v ad pl=some (Ih v ad pl):=by
 unfold Zdn.g Zdn.f Ih;simp only[dt,df];rw[show IntKind.i64.wrap (IntKind.i32.wrap (IntKind.u32.wrap (IntKind.u32.wrap (v-IntKind.u32.wrap pl)-4)))=wP v pl from rfl];generalize wP v pl=d;generalize IntKind.i64.wrap (Int.tdiv d 4)=n;by_cases h1:ad=1
 ·by_cases h2:Int.tmod d 4=0
  ·by_cases h3:n < -8388608
   ·simp[h1,h2,h3]
   ·by_cases h4:8388608<=n
    ·simp[h1,h2,h3,h4]
    ·simp[h1,h2,h3,h4]
  ·simp[h1,h2]
 ·simp[h1]
theorem Dp(hy:eu r.2.2)(hl:r.2.2.length<=1000000)(hlb:lb.length<=1000000)(nm:Str) :
  Zdl.g nm t lb q fr wd r.1 r.2.1 r.2.2=some (uK t lb q fr wd r (match jA lb nm r.2.2 with | .error x=>.error x | .ok y=>.ok (r.1,r.2.1,y))):=by
 unfold Zdl.g Zdl.f jA;rw[wQ lb nm (by omega),ND,MU r.2.2 nm hy hl,ND,jY,ND];dsimp only;cases cB nm with
 |false=>rfl
 |true=>
  cases(bB nm lb).isSome with
  |false=>rfl
  |true=>
   cases hi:oN r.2.2 nm with
   |true=>rfl
   |false=>
    have hk:=DZ r.2.2 nm;have e:L.insertO r.2.2 (kS r.2.2 nm:Int) [(nm,(bB nm lb).getD 0,())]=some (jE r.2.2 (nm,(bB nm lb).getD 0,()),()):=by
     unfold L.insertO;rw[if_pos ⟨by omega,by omega,rfl,by omega⟩];rfl
    simp only[Bool.not_true,Bool.false_eq_true,if_false];rw[e];rfl
theorem JZ(hlb:lb.length<=1000000)(e:List Item)(he:e.length<=4611686018427387904)(low high:Int):Zam.g e lb low high=some (Ee lb e low high):=by
 obtain⟨v1,v2,x,h⟩:=Cy lb e;rw[EK e lb low high v1 v2 x (by rw[Ef lb (by omega) e he,h])];unfold Ee vOf;rw[h];rfl
theorem LY(hlb:lb.length<=1000000)(e:List Item)(he:e.length<=4611686018427387904):Zad.g e lb=some (vOf lb e):=by
 rw[Ef lb (by omega) e he,Cz]
theorem GZ(h1:r.1.length<=1000000)(h2:r.2.1.length<=1000000)(hy:eu r.2.2)(hl:r.2.2.length<=1000000)(hlb:lb.length<=1000000)(hq:q.length<=1000000)(s:Snt)(he:s.2.2.2.2.2.2.1.length<=4611686018427387904)(pl:Int) :
  Zaj.g s.1 s.2.1 s.2.2.1 s.2.2.2.1 s.2.2.2.2.1 s.2.2.2.2.2.1 s.2.2.2.2.2.2.1 s.2.2.2.2.2.2.2.1 pl t lb q fr wd r.1 r.2.1 r.2.2=some (uK t lb q fr wd r (jP lb q fr wd s pl r)):=by
 obtain⟨k,o,a,b,c,u,e,nm,z⟩:=s;dsimp only at he⊢;unfold Zaj.g;generalize 1000+_+_+_+_+_+_+_+_+_+_+_+_+_+_+_+_=n;have J32:∀(x k o a b c i:Int) (u:Bool),Zaj.j32 n t lb q fr wd r.1 r.2.1 r.2.2 x k o a b c i u=some (uK t lb q fr wd r (match iX k o a b c (i,x,()) u with | .error x=>.error x | .ok w=>.ok (fA r w.1 w.2))):=by
  intro x k o a b c i u;unfold Zaj.j32 iX;simp only[dt];by_cases hx:x=0;·rw[if_neg (by simpa using hx),if_neg (by simpa using hx),EQ t lb q fr wd r h1 h2,ND]
  ·rw[if_pos (by simpa using hx),if_pos (by simpa using hx)];rfl
 have hof:=LY lb hlb e he;obtain⟨v1,v2,x,hv⟩:∃v1 v2 x,vOf lb e=(v1,v2,x,()):=⟨(vOf lb e).1,(vOf lb e).2.1,(vOf lb e).2.2.1,rfl⟩
 have J1:Zcs.g k o a b c u e nm 0 t lb q fr wd r.1 r.2.1 r.2.2=some (v1,v2,k,o,a,b,c,u,e,nm,(),x,t,lb,q,fr,wd,r.1,r.2.1,r.2.2,()):=by
  unfold Zcs.g Zcs.f;rw[hof,ND,hv]
 unfold Zaj.f jP mq;simp only[dt,Zaj.j12,JZ lb hlb e he,ND,J1,J32,hv];by_cases k0:k=0;·rw[if_pos k0,if_pos k0];rfl
 rw[if_neg k0,if_neg k0];by_cases k10:k=10;·rw[if_pos k10,if_pos k10,Dp t lb q fr wd r hy hl hlb,ND]
 rw[if_neg k10,if_neg k10];by_cases k2:k=2
 ·rw[if_pos k2,if_pos k2];by_cases o0:o=0
  ·rw[if_pos o0];cases u with
   |true=>rw[if_pos rfl,if_pos ⟨o0,rfl⟩]
   |false=>rw[if_neg (by decide),if_neg (fun h=>by cases h.2)]
  ·rw[if_neg o0,if_neg (fun h=>o0 h.1)]
 rw[if_neg k2,if_neg k2];by_cases k5:k=5;·rw[if_pos k5,if_pos k5]
 rw[if_neg k5,if_neg k5];by_cases k7:k=7
 ·rw[if_pos k7,if_pos k7];by_cases hx:x=0
  ·rw[if_pos hx,if_neg (by simpa using hx),JX,ND]
  ·rw[if_neg hx,if_pos (by simpa using hx)];unfold iX;dsimp only;rw[if_pos (by simpa using hx)]
 rw[if_neg k7,if_neg k7];by_cases k8:k=8
 ·rw[if_pos k8,if_pos k8];by_cases hx:x=0
  ·rw[if_pos hx,if_neg (by simpa using hx),CK q v1 v2 hq,ND,BR t lb q fr wd r,ND,J32]
  ·rw[if_neg hx,if_pos (by simpa using hx)];unfold iX;dsimp only;rw[if_pos (by simpa using hx)]
 rw[if_neg k8,if_neg k8];by_cases k9:k=9
 ·rw[if_pos k9,if_pos k9];unfold Zaj.j29 Zaj.j31;simp only[dt];by_cases hx:x=0
  ·rw[if_pos hx,if_neg (by simpa using hx),BR t lb q fr wd r,ND];dsimp only;by_cases ha:qz v1 v2 wd=0
   ·rw[if_pos ha,if_neg (by simpa using ha),um t lb q fr wd r h1 h2,ND,ha];rfl
   ·rw[if_neg ha,if_pos (by simpa using ha)];rfl
  ·rw[if_neg hx,if_neg hx,if_pos (by simpa using hx)];rfl
 rw[if_neg k9,if_neg k9];unfold iX;dsimp only;rw[if_neg (by decide)]
end
end Rv
namespace Rv
open Go
theorem pE:∀(l:List Ln) (i:Nat) (a:List Int) (lb:List Sym) (c:Nat) {x:Nat×Int},bM l i a lb c=.error x->x.2=26/\i<x.1/\x.1<=i+l.length
 |[],_,_,_,_,_,h=>by(rw[bM] at h;cases h)
 |y::r,i,a,lb,c,x,h=>by
  rw[bM] at h;split at h;·have:=pE r _ _ _ _ h;simp;omega
  ·split at h
   ·cases h;exact⟨rfl,by show i<i+1;omega,by simp⟩
   ·have:=pE r _ _ _ _ h;simp;omega
theorem xU(lb:List Sym):∀(l:List Ln) (i:Nat) (p:List Val) {x:Nat×Int},dn lb l i p=.error x->x.2≠0/\i<x.1/\x.1<=i+l.length/\(l.getD (x.1-1-i) zL).2.1.1=8/\(x.2=27\/x.2=(vOf lb (eL (l.getD (x.1-1-i) zL))).2.2.1)
 |[],_,_,_,h=>by(rw[dn] at h;cases h)
 |y::r,i,p,x,h=>by
  have step:∀{q},dn lb r (i+1) q=.error x->x.2≠0/\i<x.1/\x.1<=i+(y::r).length/\((y::r).getD (x.1-1-i) zL).2.1.1=8/\(x.2=27\/x.2=(vOf lb (eL ((y::r).getD (x.1-1-i) zL))).2.2.1):=fun {q} hq=>by
   obtain⟨h1,h2,h3,h4,h5⟩:=xU lb r (i+1) q hq;have e:x.1-1-i=(x.1-1-(i+1))+1:=by omega
   rw[e,List.getD_cons_succ];exact⟨h1,by omega,by simp;omega,h4,h5⟩
  rw[dn] at h;split at h
  ·rename_i h8;split at h
   ·rename_i hne;cases h;have e:i+1-1-i=0:=by omega
    dsimp only;rw[e,List.getD_cons_zero];exact⟨hne,by omega,by simp,h8,.inr rfl⟩
   ·split at h
    ·cases h;have e:i+1-1-i=0:=by omega
     dsimp only;rw[e,List.getD_cons_zero];exact⟨by decide,by omega,by simp,h8,.inl rfl⟩
    ·exact step h
  ·exact step h
theorem vX(w:List Ln):(∃x:Nat×Int,ay w=rA x.1 x.2/\x.2≠0/\0<x.1/\x.1<=w.length/\((∃y,bM w 0 [] [] 0=.error y)\/∃r,bM w 0 [] [] 0=.ok r/\dn r.2.1 w 0 []=.error x)) \/
  ∃r p,bM w 0 [] [] 0=.ok r/\dn r.2.1 w 0 []=.ok p/\ay w=vV r.1 r.2.1 r.2.2 (.ok p):=by
 unfold ay El;cases hp:bM w 0 [] [] 0 with
 |error x=>
  have:=pE _ _ _ _ _ hp;exact .inl ⟨x,rfl,by omega,by omega,by omega,.inl ⟨x,rfl⟩⟩
 |ok r=>
  dsimp only;cases hq:dn r.2.1 w 0 [] with
  |error x=>
   obtain⟨h1,h2,h3,_⟩:=xU _ _ _ _ hq;exact .inl ⟨x,rfl,h1,by omega,by omega,.inr ⟨r,rfl,hq⟩⟩
  |ok p=>exact .inr ⟨r,p,rfl,hq,rfl⟩
end Rv
namespace Rv
open Go
end Rv
namespace Rv
open Go
end Rv
namespace Rv
open Go
set_option maxRecDepth 100000
def okE(r:Option (Int×Option Int×Unit)):Prop:=∃v e,r=some (v,e,())/\(e=none\/e=some 1\/e=some 2)
theorem uG{v:Int}:okE (some (v,none,())):=⟨_,_,rfl,.inl rfl⟩
theorem nI{v:Int}:okE (some (v,some 1,())):=⟨_,_,rfl,.inr (.inl rfl)⟩
theorem dH{v:Int}:okE (some (v,some 2,())):=⟨_,_,rfl,.inr (.inr rfl)⟩
theorem Ec(c:Int):Zah.g c=some (aQ .or .u8 c 32,()):=rfl
theorem K7(s09:Str)(c mv:Int)(l:List Int)(hl:l.length<=1000000)(n:Nat):∀(m i:Nat),i<=l.length->l.length-i<m->∀v,okE (Zaa.l36 n m 10 false s09 c mv false v l (l.length:Int) (i:Int)):=by
 intro m
 induction m with
 |zero=>intro i _ h;omega
 |succ m ih=>
  intro i hi hm v;unfold Zaa.l36;by_cases hlt:i<l.length
  ·rw[if_pos (by simp;omega),if_pos (by omega)];have w1:IntKind.i64.wrap ((i:Int)+1)=((i+1:Nat):Int):=by rw[w64 (by omega)];omega
   have h46:∀d,okE (Zaa.j46 n (Zaa.l36 n m) 10 false s09 c mv false v d l (l.length:Int) (i:Int)):=by
    intro d;unfold Zaa.j46;split;·exact dH
    ·split
     ·exact nI
     ·split
      ·split
       ·exact nI
       ·unfold Zaa.j55;rw[w1];exact ih (i+1) (by omega) (by omega) _
      ·exact nI
   simp only[Ec,ND,Bool.false_eq_true,if_false];generalize hb:l.getD (i:Int).toNat 0=b;by_cases e1:b=95
   ·rw[if_pos (by simp[e1])];split
    ·split
     ·exact h46 _
     ·split
      ·split
       ·exact h46 _
       ·exact dH
      ·exact dH
    ·split
     ·split
      ·exact h46 _
      ·exact dH
     ·exact dH
   ·rw[if_neg (by simp[e1])];split
    ·split
     ·exact h46 _
     ·split
      ·split
       ·exact h46 _
       ·exact dH
      ·exact dH
    ·split
     ·split
      ·exact h46 _
      ·exact dH
     ·exact dH
  ·rw[if_neg (by simp;omega)];simp only[Bool.false_eq_true,if_false];exact uG
theorem M9(s:Str)(hs:s.length<=1000000):okE (Zaa.g s 10 0):=by
 unfold Zaa.g Zaa.f;by_cases h0:s=[]
 ·rw[if_pos (by simp[h0])];exact dH
 ·rw[if_neg (by simp[h0]),if_pos (by decide),if_pos (by decide)];unfold Zaa.j21;rw[if_pos (by decide)];unfold Zaa.j25;rw[if_pos (by decide)];unfold Zaa.j32;rw[if_neg (by decide)];have hd:decide ((10:Int)=0)=false:=by decide
  rw[hd];have hz:(0:Int)=((0:Nat):Int):=rfl;have:=K7 s 1844674407370955162 (IntKind.u64.wrap ((IntKind.u64.wrap ((1:Int)*2 ^ (min (IntKind.u64.wrap 64).toNat IntKind.u64.bits)))-(1:Int))) (s.map fun b=>(b.toNat:Int)) (by simpa using hs) (1000+s.length+(10:Int).toNat+(0:Int).toNat) (1000+s.length+(10:Int).toNat+(0:Int).toNat) 0 (by simp) (by simp;omega) 0;exact this
theorem Mw(n:Nat)(g:Bool)(v:Int):okE (Zaf.j21 n g v):=by
 unfold Zaf.j21;split<;>exact uG
theorem Mv(n:Nat)(g:Bool)(v c:Int):okE (Zaf.j19 n g v c):=by
 unfold Zaf.j19;split
 ·split
  ·exact nI
  ·exact Mw _ _ _
 ·exact Mw _ _ _
theorem Nv(n:Nat)(g:Bool)(v:Int):okE (Zaf.j16 n 64 g v):=by
 unfold Zaf.j16;have h:¬IntKind.u64.wrap (IntKind.i64.wrap (64-1))<0:=by rw[w64 (by omega),xq (by omega)];omega
 rw[if_neg h];generalize IntKind.u64.wrap ((1:Int)*2 ^ (min (IntKind.u64.wrap (IntKind.i64.wrap (64-1))).toNat IntKind.u64.bits))=c;split
 ·split
  ·exact nI
  ·exact Mv _ _ _ _
 ·exact Mv _ _ _ _
theorem Mt(n:Nat)(g:Bool)(v:Int):okE (Zaf.j14 n 0 g v):=by
 unfold Zaf.j14;rw[if_pos (by decide)];exact Nv _ _ _
theorem M8(s:Str)(hs:s.length<=1000000):okE (Zaf.g s 10 0):=by
 unfold Zaf.g Zaf.f;generalize 1000+s.length+(10:Int).toNat+(0:Int).toNat=n;have h10:∀(t:Str) g,t.length<=1000000->okE (Zaf.j10 n t 10 0 g):=fun t g ht=>by
  unfold Zaf.j10;obtain⟨v,e,he,h⟩:=M9 t ht;rw[he,ND];dsimp only;rcases h with rfl|rfl|rfl;·rw[if_neg (by decide)];exact Mt _ _ _
  ·rw[if_pos (by decide),if_neg (by simp)];exact Mt _ _ _
  ·rw[if_pos (by decide),if_pos (by simp)];exact dH
 by_cases h0:s=[]
 ·rw[if_pos (by simp[h0])];exact dH
 ·rw[if_neg (by simp[h0])];have hlen:0<s.length:=List.length_pos_iff.2 h0;have ht:((s.take ((s.length:Int)).toNat).drop ((1:Int)).toNat).length<=1000000:=by simp;omega
  rw[if_pos (by omega)];split;·rw[if_pos (by omega)];exact h10 _ _ ht
  ·split
   ·rw[if_pos (by omega)];exact h10 _ _ ht
   ·exact h10 _ _ hs
theorem at_loop(s05:Str)(h5:s05≠[])(l:List Int)(hl:l.length<=1000000)(n:Nat):∀(m i:Nat),i<=l.length->l.length-i<m->∀v,okE (Zal.l10 n m s05 v l (l.length:Int) (i:Int)):=by
 intro m
 induction m with
 |zero=>intro i _ h;omega
 |succ m ih=>
  intro i hi hm v;unfold Zal.l10;by_cases hlt:i<l.length
  ·rw[if_pos (by simp;omega),if_pos (by omega)];have w1:IntKind.i64.wrap ((i:Int)+1)=((i+1:Nat):Int):=by rw[w64 (by omega)];omega
   split;·exact dH
   ·rw[w1];exact ih (i+1) (by omega) (by omega) _
  ·rw[if_neg (by simp;omega)];have hlen:0<s05.length:=List.length_pos_iff.2 h5;rw[if_pos (by omega)];split<;>exact uG
theorem M3(s:Str)(hs:s.length<=1000000):okE (Zal.g s):=by
 unfold Zal.g Zal.f;obtain⟨n,hn⟩:∃n,1000+s.length=n:=⟨_,rfl⟩
 rw[hn];have h8:∀t:Str,t.length<=s.length->s≠[]->okE (Zal.j8 n t s):=fun t ht h0=>by
  unfold Zal.j8;have:=at_loop s h0 (t.map fun b=>(b.toNat:Int)) (by simp;omega) n n 0 (by simp) (by simp;omega) 0;exact this
 have h20:okE (Zal.j20 n s):=by
  unfold Zal.j20;obtain⟨v,e,he,h⟩:=M8 s hs;rw[he,ND];exact⟨v,e,rfl,h⟩
 by_cases h0:s=[]
 ·rw[if_neg (by simp[h0])];exact h20
 ·have hlen:0<s.length:=List.length_pos_iff.2 h0;have ht:((s.take ((s.length:Int)).toNat).drop ((1:Int)).toNat).length<=s.length:=by simp
  have h6:okE (Zal.j6 n ((s.take ((s.length:Int)).toNat).drop ((1:Int)).toNat) s):=by
   unfold Zal.j6;split;·exact dH
   ·exact h8 _ ht h0
  rw[if_pos (by simp;omega)];split
  ·rw[if_pos (by omega)];split
   ·rw[if_pos (by omega)];split
    ·rw[if_pos (by omega)];exact h6
    ·exact h8 _ (NM _) h0
   ·rw[if_pos (by omega)];exact h6
  ·exact h20
theorem ET(s:Str)(hs:s.length<=1000000):∃v b,Zcx.g s=some (v,b,()):=by
 unfold Zcx.g Zcx.f;obtain⟨v,e,he,h⟩:=M3 s hs;rw[he,ND];dsimp only;rcases h with rfl|rfl|rfl;·exact⟨_,_,rfl⟩
 ·have:L.toErrorO ([65,116,111,105]:Str) s 0 0 (some 1)=some (false,()):=by unfold L.toErrorO;rw[if_pos ⟨by omega,Or.inl rfl⟩]
  rw[if_pos (by decide),this];exact⟨_,_,rfl⟩
 ·have:L.toErrorO ([65,116,111,105]:Str) s 0 0 (some 2)=some (false,()):=by unfold L.toErrorO;rw[if_pos ⟨by omega,Or.inr rfl⟩]
  rw[if_pos (by decide),this];exact⟨_,_,rfl⟩
end Rv
namespace Rv
open Go
def kC(k:Nat):Str:=if k<10 then[82,UInt8.ofNat (48+k)] else[82,49,UInt8.ofNat (38+k)]
def gD(s:Str):Int×Bool:=match (List.range 16).find? (fun k=>kC k == s) with|some k=>((k:Int),true)|none=>(0,false)
theorem Gf:((List.range 16).all fun k=>decide (Zcd.g (k:Int)=some (kC k,()))&&decide (Zbp.g (kC k)=some ((k:Int),true,())))=true:=by decide +kernel
theorem Ap(k:Nat)(hk:k<16):Zcd.g (k:Int)=some (kC k,())/\Zbp.g (kC k)=some ((k:Int),true,()):=by
 have:=Oe.1 Gf k (List.mem_range.2 hk);simpa[and_assoc] using this
theorem BN{v:Int}(h:v<0\/16<=v):Zcd.g v=some ([],()):=by
 unfold Zcd.g Zcd.f;by_cases h0:v<0;·rw[if_neg (by simp;omega)]
 ·rw[if_pos (by simp;omega),if_pos (by simp;omega)]
theorem yJ(v:Int):∃s,Zcd.g v=some (s,())/\(s≠[]->∃k:Nat,k<16/\v=(k:Int)/\s=kC k):=by
 by_cases h:v<0\/16<=v;·exact⟨[],BN h,fun e=>absurd rfl e⟩
 ·obtain⟨k,rfl⟩:∃k:Nat,v=(k:Int):=⟨v.toNat,by omega⟩
  have hk:k<16:=by omega
  exact⟨kC k,(Ap k hk).1,fun _=>⟨k,hk,rfl,rfl⟩⟩
theorem Ki{s p:Str}(h:L.cutIs s p=true)(hp:p≠[]):s≠[]:=by
 rintro rfl;cases p with
 |nil=>exact hp rfl
 |cons a l=>simp[L.cutIs,Lib.hasPrefix] at h
theorem ww{s:Str}{k:Nat}(h:(List.range 16).find? (fun k=>kC k == s)=some k):k<16/\kC k=s:=by
 have h1:=List.mem_of_find?_eq_some h;have h2:=List.find?_some h;exact⟨List.mem_range.1 h1,by simpa using h2⟩
theorem Gd(s:Str)(hs:s.length<=1000000):Zbp.g s=some ((gD s).1,(gD s).2,()):=by
 unfold gD;cases hf:(List.range 16).find? (fun k=>kC k == s) with
 |some k=>
  obtain⟨h1,h2⟩:=ww hf;have:=(Ap k h1).2;rw[h2] at this;exact this
 |none=>
  have hno:∀k,k<16->kC k≠s:=fun k hk e=>by
   have:=List.find?_eq_none.1 hf k (List.mem_range.2 hk);simp[e] at this
  unfold Zbp.g Zbp.f;obtain⟨v,b,hvb⟩:=ET (L.cutRest s [82]) (by
   unfold L.cutRest Lib.trimPrefix;split;·rw[Oh];omega
   ·omega)
  rw[hvb,ND];dsimp only;cases hc:L.cutIs s [82] with
  |false=>rfl
  |true=>
   rw[if_pos (by decide)];cases b with
   |false=>rfl
   |true=>
    rw[if_pos (by decide)];obtain⟨t,ht,hk⟩:=yJ v;rw[ht,ND];dsimp only;by_cases e:t=s;·have hne:=Ki hc (by decide);obtain⟨k,hk1,_,hk2⟩:=hk (by rw[e];exact hne);exact absurd (hk2.symm.trans e) (hno k hk1)
    ·rw[if_pos (by simp[e])]
end Rv
namespace Rv
open Go
abbrev aD:=Int×Int×Str×Int×Unit
end Rv
namespace Rv
open Go
inductive Opr
 |add|sub|mul
def Opr.kind:Opr->Int
 | .add=>4 | .sub=>5 | .mul=>6
def Opr.byte:Opr->UInt8
 | .add=>43 | .sub=>45 | .mul=>42
def Opr.tight:Opr->Nat
 | .mul=>1|_=>0
inductive Tr
 |num (n:Int)|nam (s:Str)|neg (x:Tr)|bin (o:Opr) (a b:Tr)|br (x:Tr)
namespace Tr
def post:Tr->List Item
 | .num n=>[(1,n,[],())]
 | .nam s=>[(2,0,s,())]
 | .neg x=>x.post++[(3,0,[],())]
 | .bin o a b=>a.post++b.post++[(o.kind,0,[],())]
 | .br x=>x.post
def ok:Tr->Prop
 | .num n=>0<=n/\n<=4294967295
 | .nam s=>bA s=true
 | .neg x=>x.ok
 | .bin _ a b=>a.ok/\b.ok
 | .br x=>x.ok
def plain:Tr->Prop
 | .neg x=>x.plain
 | .bin _ a b=>a.plain/\b.plain
 | .br _=>False
 |_=>True
def tight:Tr->Nat
 | .bin o _ _=>o.tight
 |_=>2
end Tr
abbrev Bt:=Int×Str×Int
def bare(t:aD):Bt:=(t.1,t.2.2.1,t.2.2.2.1)
def tLp:Bt:=(3,[40],0)
def tRp:Bt:=(3,[41],0)
def tOp(o:Opr):Bt:=(3,[o.byte],0)
def NA:Bt:=(3,[45],0)
def brk(b:Bool)(l:List Bt):List Bt:=if b then tLp::(l++[tRp]) else l
namespace Tr
def toks:Tr->List Bt
 | .num n=>[(2,Lib.itoa n,n)]
 | .nam s=>[(1,s,0)]
 | .neg x=>NA::brk (decide (x.tight<2)) x.toks
 | .bin o a b=>brk (decide (a.tight<o.tight)) a.toks++tOp o::brk (decide (b.tight<o.tight+1)) b.toks
 | .br x=>tLp::(x.toks++[tRp])
def cnt(l:List Bt):Nat:=l.countP fun b=>decide (b.2.1=[45])||decide (b.2.1=[40])
end Tr
theorem DX{x:Item}(h:(aB x).2=true):(∃n,x=(1,n,[],()))\/(∃s,x=(2,0,s,())/\bA s=true)\/x=(3,0,[],())\/∃o:Opr,x=(o.kind,0,[],()):=by
 obtain⟨a,b,c,u⟩:=x;cases u;unfold aB at h;dsimp only at h;split at h;·rename_i h1;simp only[NN] at h;exact .inl ⟨b,by rw[h1,h]⟩
 ·split at h
  ·rename_i h2;simp only[NJ,NN] at h;exact .inr (.inl ⟨c,by rw[h2,h.1],h.2⟩)
  ·split at h
   ·rename_i h3;simp only[NJ,NN] at h;exact .inr (.inr (.inl (by rw[h3,h.1,h.2])))
   ·split at h
    ·rename_i h4;simp only[NJ,NN] at h;obtain⟨rfl,rfl⟩:=h;rcases h4 with rfl|rfl|rfl
     ·exact .inr (.inr (.inr ⟨.add,rfl⟩))
     ·exact .inr (.inr (.inr ⟨.sub,rfl⟩))
     ·exact .inr (.inr (.inr ⟨.mul,rfl⟩))
    ·cases h
theorem EE(l:List Tr):l=[]\/∃a x,l=a++[x]:=by
 rcases List.eq_nil_or_concat l with h|⟨a,x,h⟩;·exact .inl h
 ·exact .inr ⟨a,x,by simpa using h⟩
def posts(st:List Tr):List Item:=(st.map Tr.post).flatten
theorem mg(a b:List Tr):posts (a++b)=posts a++posts b:=by simp[posts]
theorem ko(x:Tr):posts [x]=x.post:=by simp[posts]
theorem A9:∀(e:List Item) (st:List Tr) (k:Int),enough (st.length:Int) e=some k->(∀x∈e,oK x)->(∀x∈st,x.ok/\x.plain) ->
  ∃st':List Tr,(st'.length:Int)=k/\posts st++e=posts st'/\∀x∈st',x.ok/\x.plain
 |[],st,k,h,_,ho=>by
  simp only[enough,NC] at h;exact⟨st,h,by simp,ho⟩
 |x::e,st,k,h,hg,ho=>by
  have hgx:=hg x (by simp);unfold enough at h;split at h
  case isFalse=>cases h
  rename_i hc;have push:∀(l:List Tr) (t:Tr),(∀y∈l,y.ok/\y.plain)->t.ok/\t.plain->((l.length:Int)+1=st.length+(1-(aB x).1))->posts st++[x]=posts l++t.post->∃st':List Tr,(st'.length:Int)=k/\posts st++x::e=posts st'/\∀x∈st',x.ok/\x.plain:=by
   intro l t hl ht hlen hp;obtain⟨st',h1,h2,h3⟩:=A9 e (l++[t]) k (by rw[show((l++[t]).length:Int)=st.length+(1-(aB x).1) by rw[<- hlen];simp];exact h) (fun y hy=>hg y (by simp[hy])) (fun y hy=>by
    rcases NT.1 hy with hy|hy;·exact hl y hy
    ·rw[NZ] at hy;subst hy;exact ht)
   refine⟨st',h1,?_,h3⟩;rw[<- h2,mg,ko,<- hp];simp
  rcases DX hc.1 with⟨n,rfl⟩|⟨s,rfl,hs⟩|rfl|⟨o,rfl⟩;·exact push st (.num n) ho ⟨⟨hgx.1,hgx.2.1⟩,trivial⟩ (by rw[show(aB (1,n,[],())).1=0 from rfl];omega) rfl
  ·exact push st (.nam s) ho ⟨hs,trivial⟩ (by rw[show(aB (2,0,s,())).1=0 from rfl];omega) rfl
  ·have e1:(aB (3,0,[],())).1=1:=rfl;rcases EE st with rfl|⟨l,v,rfl⟩
   ·exact absurd hc.2 (by rw[e1];simp)
   ·have hv:=ho v (by simp);exact push l (.neg v) (fun y hy=>ho y (by simp[hy])) hv (by rw[e1];simp<;>omega) (by rw[mg,ko];simp[Tr.post])
  ·have e2:(aB (o.kind,0,[],())).1=2:=by cases o<;>rfl
   rcases EE st with rfl|⟨l0,v,rfl⟩;·exact absurd hc.2 (by rw[e2];simp)
   ·rcases EE l0 with rfl|⟨l,w,rfl⟩
    ·exact absurd hc.2 (by rw[e2];simp)
    ·exact push l (.bin o w v) (fun y hy=>ho y (by simp[hy])) ⟨⟨(ho w (by simp)).1,(ho v (by simp)).1⟩,(ho w (by simp)).2,(ho v (by simp)).2⟩ (by rw[e2];simp<;>omega) (by rw[mg,mg,ko,ko];simp[Tr.post])
theorem LA{e:List Item}(h:gG e)(hg:∀x∈e,oK x):∃t:Tr,t.post=e/\t.ok/\t.plain:=by
 obtain⟨st,h1,h2,h3⟩:=A9 e [] 1 h hg (fun x hx=>by cases hx)
 match st,h1,h2,h3 with
 |[t],_,h2,h3=>exact⟨t,by rw[ko] at h2;exact h2.symm,h3 t (by simp)⟩
 |[],h1,_,_=>simp at h1
 |_::_::_,h1,_,_=>simp at h1;omega
end Rv
namespace Rv
open Go
end Rv
namespace Rv
open Go
def Hf(b:Bool)(s:Str):Str:=if b then 40::(s++[41]) else s
namespace Tr
def txt:Tr->Str
 | .num n=>Lib.itoa n
 | .nam s=>s
 | .neg x=>45::Hf (decide (x.tight<2)) x.txt
 | .bin o a b=>Hf (decide (a.tight<o.tight)) a.txt++([32,o.byte,32]++Hf (decide (b.tight<o.tight+1)) b.txt)
 | .br x=>40::(x.txt++[41])
end Tr
end Rv
namespace Rv
open Go
def parts(st:List Tr):List (Str×Int×Unit):=st.map fun t=>(t.txt,(t.tight:Int),())
end Rv
namespace Rv
open Go
abbrev R:=af
abbrev aX:aD:=((0:Int),((0:Int),(([]:Str),((0:Int),()))))
theorem Cv(l:List aD)(p:Nat)(out:List Item)(hp:p<l.length):Zau.g l p out 0=some ((l.getD p aX).1,(l.getD p aX).2.1,(l.getD p aX).2.2.1,(l.getD p aX).2.2.2.1,true,l,(p:Int),out,0,()):=by
 unfold Zau.g Zau.f;simp only[df,dt];rw[if_pos (by simp),if_pos (by omega),if_neg (by omega),if_pos (by omega),NU]
theorem zY(l:List aD)(p:Nat)(out:List Item)(hp:l.length<=p):Zau.g l p out 0=some (0,0,[],0,false,l,(p:Int),out,0,()):=by
 unfold Zau.g Zau.f;simp only[df,dt];rw[if_pos (by simp),if_pos (by omega),if_pos (by omega)]
theorem IR(l:List aD)(p:Int)(out:List Item)(e:Int)(he:e≠0):Zau.g l p out e=some (0,0,[],0,false,l,p,out,e,()):=by
 unfold Zau.g Zau.f;simp only[df];rw[if_neg (by simpa using he)]
theorem rW(n:Nat)(all:List Str)(hall:all.length<=100)(ok:Bool)(l:List aD)(p:Int)(out:List Item)(e k a:Int)(tx:Str)(nn:Int):∀(m i:Nat),i<=all.length->all.length-i<m ->
  Zag.l3 n m ok all (all.length:Int) (i:Int) l p out e k a tx nn=if ok=true/\k=3/\tx∈all.drop i then some (tx,true,l,IntKind.i64.wrap (p+1),out,e,()) else some ([],false,l,p,out,e,()):=by
 intro m
 induction m with
 |zero=>intro i _ h;omega
 |succ m ih=>
  intro i hi hm;rw[Zag.l3];simp only[dt,Zag.j8,NU];by_cases h:i<all.length
  ·have hd:all.drop i=all.getD i []::all.drop (i+1):=by
    rw[Og h,NH,NL h];rfl
   have hih:=ih (i+1) (by omega) (by omega);rw[if_pos (by omega),if_pos (by omega),w64 (x:=(i:Int)+1) (by omega),show(i:Int)+1=((i+1:Nat):Int) by omega,hih,hd];generalize all.getD i []=s;by_cases h1:ok=true
   ·rw[if_pos h1];by_cases h2:k=3
    ·rw[if_pos h2];by_cases h3:tx=s
     ·rw[if_pos h3,if_pos ⟨h1,h2,by simp[h3]⟩,h3]
     ·rw[if_neg h3];by_cases h4:tx∈all.drop (i+1)
      ·rw[if_pos ⟨h1,h2,h4⟩,if_pos ⟨h1,h2,by simp[h4]⟩]
      ·rw[if_neg (fun h=>h4 h.2.2),if_neg (fun h=>by simp[h3,h4] at h)]
    ·rw[if_neg h2,if_neg (fun h=>h2 h.2.1),if_neg (fun h=>h2 h.2.1)]
   ·rw[if_neg h1,if_neg (fun h=>h1 h.1),if_neg (fun h=>h1 h.1)]
  ·have:i=all.length:=by omega
   subst this;rw[if_neg (by omega),if_neg (fun h=>by simp at h)]
theorem uV(all:List Str)(hall:all.length<=100)(l:List aD)(p:Int)(out:List Item)(e:Int)(he:e≠0):Zag.g all l p out e=some ([],false,l,p,out,e,()):=by
 unfold Zag.g Zag.f;rw[IR l p out e he,ND];have:=rW (1000+all.length+l.length+p.toNat+out.length+e.toNat) all hall false l p out e 0 0 [] 0 (1000+all.length+l.length+p.toNat+out.length+e.toNat) 0 (by omega) (by omega);rw[if_neg (fun h=>by cases h.1)] at this;exact this
theorem nA(x:Int)(l:List aD)(p:Int)(out:List Item):Zaq.g x l p out 0=some (l,p,out,x,()):=by
 unfold Zaq.g Zaq.f;rw[if_pos (by decide)]
abbrev rU:List Str:=[[42]]
abbrev pK:List Str:=[[43],[45]]
def mc:Tr->Nat
 | .bin .mul a _=>mc a+1
 |_=>0
end Rv
namespace Rv
open Go
theorem Ig(x:Int)(l:List aD)(p:Int)(out:List Item)(e:Int)(he:e≠0):Zaq.g x l p out e=some (l,p,out,e,()):=by
 unfold Zaq.g Zaq.f;rw[if_neg (by simpa using he)]
theorem Cq(n:Nat)(r:av)(m:Nat)(l:List aD)(p:Int)(out:List Item)(e d:Int)(he:e≠0):expr_parser_row_c257.l1 n r (m+1) rU l p out e d=some (l,p,out,e,(),d,()):=by
 rw[expr_parser_row_c257.l1,uV rU (by simp) l p out e he,ND];rfl
theorem Co(n:Nat)(r:av)(m:Nat)(l:List aD)(p:Int)(out:List Item)(e d:Int)(he:e≠0):expr_parser_row_c256.l1 n r (m+1) pK l p out e d=some (l,p,out,e,(),d,()):=by
 rw[expr_parser_row_c256.l1,uV pK (by simp) l p out e he,ND];rfl
theorem LF(q:Nat)(l:List aD)(p:Int)(out:List Item):(R (q+1)).expr_parser_factor 9 l p out 0=some (l,p,out,24,()):=by
 show expr_parser_factor.h (R q) 9 l p out 0=_;unfold expr_parser_factor.h expr_parser_factor.f;rw[if_neg (by decide),if_pos (by decide),nA,ND]
end Rv
namespace Rv
open Go
end Rv
namespace Rv
open Go
structure Sm where
 k:Int
 o:Int
 a:Int
 b:Int
 c:Int
 u:Bool
 e:List Item
 nm:Str
def w9(t:Tr):Prop:=t.ok/\t.plain/\gG t.post/\t.post.length<=64
def postO:Option Tr->List Item
 |none=>[]
 |some t=>t.post
inductive GoodS:Sm->Option Tr->Prop
 |none:GoodS ⟨0,0,0,0,0,false,[],[]⟩ none
 |ins0 {k o a b c:Int} {u:Bool}:cu k o a b c u->(k=1\/k=3\/k=4\/k=6)->GoodS ⟨k,o,a,b,c,u,[],[]⟩ none
 |ins1 {k o a b c:Int} {u:Bool} {t:Tr}:cu k o a b c u->(k=2\/k=5\/k=7)->w9 t->GoodS ⟨k,o,a,b,c,u,t.post,[]⟩ (some t)
 |load {a:Int} {t:Tr}:rg a->w9 t->GoodS ⟨8,0,a,0,0,false,t.post,[]⟩ (some t)
 |word {t:Tr}:w9 t->GoodS ⟨9,0,0,0,0,false,t.post,[]⟩ (some t)
 |exp {nm:Str}:cB nm=true->GoodS ⟨10,0,0,0,0,false,[],nm⟩ none
end Rv
namespace Rv
open Go
theorem xM{s:Sm}{t:Option Tr}(h:GoodS s t):s.e.length<=64/\s.e=postO t/\(∀x,t=some x->w9 x):=by
 cases h with
 |none=>exact⟨by simp,rfl,fun x h=>by cases h⟩
 |ins0 _ _=>exact⟨by simp,rfl,fun x h=>by cases h⟩
 |ins1 _ _ ht=>exact⟨ht.2.2.2,rfl,fun x h=>by obtain rfl:=NE h;exact ht⟩
 |load _ ht=>exact⟨ht.2.2.2,rfl,fun x h=>by obtain rfl:=NE h;exact ht⟩
 |word ht=>exact⟨ht.2.2.2,rfl,fun x h=>by obtain rfl:=NE h;exact ht⟩
 |exp _=>exact⟨by simp,rfl,fun x h=>by cases h⟩
end Rv
namespace Rv
open Go
theorem kg:∀t:Tr,t.ok->∀y∈t.post,oK y
 | .num n,h=>fun y hy=>by rw[show y=(1,n,[],()) from NZ.1 hy];exact⟨h.1,h.2,rfl⟩
 | .nam s,h=>fun y hy=>by
  rw[show y=(2,0,s,()) from NZ.1 hy];refine⟨Int.le_refl _,(by decide:(0:Int)<=4294967295),?_⟩;have h:bA s=true:=h;unfold aB;dsimp only;rw[if_neg (by decide),if_pos rfl,h];rfl
 | .neg x,h=>fun y hy=>by
  rcases NT.1 hy with hy|hy;·exact kg x h y hy
  ·rw[NZ.1 hy];exact⟨Int.le_refl _,by decide,rfl⟩
 | .bin o a b,h=>fun y hy=>by
  rcases NT.1 hy with hy|hy
  ·rcases NT.1 hy with hy|hy
   ·exact kg a h.1 y hy
   ·exact kg b h.2 y hy
  ·rw[NZ.1 hy];cases o<;>exact⟨Int.le_refl _,by decide,rfl⟩
 | .br x,h=>fun y hy=>kg x h y hy
end Rv
namespace Rv
open Go
end Rv
namespace Rv
open Go
end Rv
namespace Rv
open Go
def mF:List Ln->Nat->List Int
 |[],_=>[]
 |x::l,c=>((4*c:Nat):Int)::mF l (c+bH x)
def oQ:List Ln->Nat->List Sym
 |[],_=>[]
 |x::l,c=>if x.1=[] then oQ l (c+bH x) else(x.1,((4*c:Nat):Int),())::oQ l (c+bH x)
theorem mP:∀(l:List Ln) (i:Nat) (t:List Int) (lb:List Sym) (c:Nat) {r},bM l i t lb c=.ok r->r=(t++mF l c,lb++oQ l c,c+(l.map bH).sum)
 |[],_,t,lb,c,r,h=>by
  rw[bM] at h;cases h;simp[mF,oQ]
 |x::l,i,t,lb,c,r,h=>by
  rw[bM] at h;split at h;·rename_i hx;rw[mP l _ _ _ _ h,mF,oQ,if_pos hx,NV,NY,List.sum_cons,OD];rfl
  ·split at h
   ·cases h
   ·rename_i hx _;rw[mP l _ _ _ _ h,mF,oQ,if_neg hx,NV,NV,NY,List.sum_cons,OD];rfl
end Rv
namespace Rv
open Go
def dO(lb:List Sym)(q:List Val)(fr wd:Int)(t:List Int):List Ln->Nat->WrT->Except (Nat×Int) WrT
 |[],_,r=>.ok r
 |x::l,i,r=>match jP lb q fr wd x.2.1 (t.getD i 0) r with
  | .error e=>.error (i+1,e)
  | .ok r'=>dO lb q fr wd t l (i+1) r'
def cK:List Val->WrT->WrT
 |[],r=>r
 |v::l,r=>cK l (fA r v.1 (decide (v.2.1=1)))
abbrev za:=List Int×List Int×List Sym×Int×Int×Unit
def jS(i:Int)(e:Int):za:=([],[],[],i,e,())
def uu(r:WrT):za:=if 64<r.2.2.length then jS 0 2 else(r.1,r.2.1,r.2.2,0,0,())
def Aa(p:uY)(l:List Ln):za:=
 if p.2.2.2.2.2.2.1≠0 then jS p.2.2.2.2.2.1 p.2.2.2.2.2.2.1
 else match dO p.2.1 p.2.2.1 p.2.2.2.1 p.2.2.2.2.1 p.1 l 0 ([],[],[]) with
  | .error x=>jS (x.1:Int) x.2
  | .ok r=>uu (cK p.2.2.1 r)
def dS(l:List Ln):za:=Aa (ay l) l
theorem Ib{k o a b c:Int}{v:Int×Int×Unit}{u:Bool}{x:Int}(h:iX k o a b c v u=.error x):x≠0:=by
 unfold iX at h;split at h;·rename_i h1;cases h;exact h1
 ·exact Cf _ _ _ _ _ _ _ h
theorem JG{lb:List Sym}{q:List Val}{fr wd:Int}{s:Snt}{pl x:Int}(h:mq lb q fr wd s pl=.error x):x≠0:=by
 unfold mq at h
 repeat' split at h
 all_goals first
  |exact Ib h
  |exact Cf _ _ _ _ _ _ _ h
  |(cases h;assumption)
  |cases h
structure WOk (r:WrT) (i:Nat):Prop where
 w:r.1.length<=i
 s:r.2.1.length<=i
 y:r.2.2.length<=i
 o:eu r.2.2
theorem CO{r:WrT}{i:Nat}(h:WOk r i)(v:Int)(b:Bool):WOk (fA r v b) (i+1):=by
 refine⟨by have:=h.w;simp[fA];omega,?_,by have:=h.y;show r.2.2.length<=_;omega,h.o⟩;have:=h.s;unfold fA;dsimp only;split;·simp;omega
 ·omega
theorem xE{lb:List Sym}{nm:Str}{y y':List Sym}(h:jA lb nm y=.ok y'):cB nm=true/\(bB nm lb).isSome=true/\oN y nm=false/\y'=jE y (nm,(bB nm lb).getD 0,()):=by
 unfold jA at h;split at h;·cases h
 ·split at h
  ·cases h
  ·split at h
   ·cases h
   ·rename_i h1 h2 h3;cases h;exact⟨by simpa using h1,(Bool.not_eq_false _).mp h2,by simpa using h3,rfl⟩
theorem KQ{lb:List Sym}{q:List Val}{fr wd:Int}{s:Snt}{pl:Int}{r r':WrT}{i:Nat}(hr:WOk r i)(h:jP lb q fr wd s pl r=.ok r'):WOk r' (i+1):=by
 unfold jP at h;split at h;·cases h;exact⟨by have:=hr.w;omega,by have:=hr.s;omega,by have:=hr.y;omega,hr.o⟩
 ·split at h
  ·split at h
   ·cases h
   ·rename_i y hy;cases h;obtain⟨_,_,h3,rfl⟩:=xE hy;exact⟨by have:=hr.w;show r.1.length<=_;omega,by have:=hr.s;show r.2.1.length<=_;omega,by have:=hr.y;show(jE _ _).length<=_;rw[Cn];omega,vO hr.o h3⟩
  ·split at h
   ·cases h
   ·cases h;exact CO hr _ _
theorem zR{lb:List Sym}{q:List Val}{fr wd:Int}{s:Snt}{pl x:Int}{r:WrT}(h:jP lb q fr wd s pl r=.error x):x≠0:=by
 unfold jP at h;split at h;·cases h
 ·split at h
  ·split at h
   ·rename_i e he;cases h;unfold jA at he;split at he
    ·cases he;decide
    ·split at he
     ·cases he;decide
     ·split at he
      ·cases he;decide
      ·cases he
   ·cases h
  ·split at h
   ·rename_i e he;cases h;exact JG he
   ·cases h
section
variable(t:List Int)(lb:List Sym)(q:List Val)(fr wd:Int)
abbrev zV:Val:=((0:Int),((0:Int),()))
theorem L8{q:List Val}{i:Nat}(h:i<q.length):q.drop i=q.getD i zV::q.drop (i+1):=by
 rw[Og h,NH,NL h];rfl
theorem Nj(hq:q.length<=1000000)(n:Nat)(d e:List Int)(y:List Sym):∀(m i j:Nat) (r:WrT),i<=q.length->q.length-i<m->WOk r j->j+q.length<=1000000+i ->
  Zba.l14 n m q (q.length:Int) (i:Int) d e y t lb q fr wd r.1 r.2.1 r.2.2=some (uu (cK (q.drop i) r)):=by
 intro m
 induction m with
 |zero=>intro i _ _ _ h;omega
 |succ m ih=>
  intro i j r hi hm hr hj;rw[Zba.l14];simp only[dt,NU];by_cases h:i<q.length;·have h1:=hr.w;have h2:=hr.s;rw[if_pos (by omega),if_pos (by omega),L8 h,cK,um t lb q fr wd r (by omega) (by omega),ND];dsimp only;rw[w64 (by omega),show(i:Int)+1=((i+1:Nat):Int) by omega];exact ih (i+1) (j+1) _ (by omega) (by omega) (CO hr _ _) (by omega)
  ·obtain rfl:i=q.length:=by omega
   rw[if_neg (by omega),Ol,cK];unfold uu jS;by_cases h6:64<r.2.2.length;·rw[if_pos (by omega),if_pos h6]
   ·rw[if_neg (by omega),if_neg h6]
theorem al7(l:List Ln)(hl:l.length<=1000)(he:∀x∈l,(eL x).length<=4611686018427387904)(ht:t.length=l.length)(hlb:lb.length<=1000000)(hq:q.length<=1000)(n:Nat)(hn2:q.length<n)(d e:List Int)(y:List Sym) :
  ∀(m i:Nat) (r:WrT),i<=l.length->l.length-i<m->WOk r i ->
  Zba.l7 n m l (l.length:Int) (i:Int) d e y t lb q fr wd t lb q fr wd r.1 r.2.1 r.2.2=some (match dO lb q fr wd t (l.drop i) i r with | .error x=>jS (x.1:Int) x.2 | .ok r=>uu (cK q r)):=by
 intro m
 induction m with
 |zero=>intro i _ _ h;omega
 |succ m ih=>
  intro i r hi hm hr;rw[Zba.l7];simp only[dt,NU];by_cases h:i<l.length
  ·have h1:=hr.w;have h2:=hr.s;have h3:=hr.y;rw[if_pos (by omega),if_pos (by omega),if_pos (by omega),wM h,dO];have hx:=he _ (Ck h);generalize l.getD i zL=x at hx⊢;rw[GZ t lb q fr wd r (by omega) (by omega) hr.o (by omega) hlb (by omega) x.2.1 hx,ND];cases hA:jP lb q fr wd x.2.1 (t.getD i 0) r with
   |error e=>
    refine(if_pos (show(uK t lb q fr wd r (Except.error e)).1≠0 from zR hA)).trans ?_;rw[w64 (by omega),show(i:Int)+1=((i+1:Nat):Int) by omega];rfl
   |ok r'=>
    refine(if_neg (show ¬((uK t lb q fr wd r (Except.ok r')).1≠0) from fun h=>h rfl)).trans ?_;rw[w64 (by omega),show(i:Int)+1=((i+1:Nat):Int) by omega];exact ih (i+1) r' (by omega) (by omega) (KQ hr hA)
  ·obtain rfl:i=l.length:=by omega
   rw[if_neg (by omega),Ol,dO];have:=Nj t lb q fr wd (by omega) n d e y n 0 l.length r (by omega) (by omega) hr (by omega);rw[Oi] at this;exact this
end
theorem tX(l:List Ln)(h:(ay l).2.2.2.2.2.2.1=0):(ay l).1.length=l.length/\(ay l).2.1.length<=l.length/\(ay l).2.2.1.length<=l.length /\
  ∃r p,bM l 0 [] [] 0=.ok r/\dn r.2.1 l 0 []=.ok p/\r.2.2+p.length<=1024/\ay l=(r.1,r.2.1,p,((4*r.2.2:Nat):Int),((r.2.2+p.length:Nat):Int),0,0,()):=by
 rcases vX l with⟨x,hx,h0,_⟩|⟨r,p,h1,h2,h3⟩;·rw[hx] at h;exact absurd h h0
 ·have a:=kM l 0 [] [] 0 h1;have b:=ma r.2.1 l 0 [] h2;unfold vV at h3;dsimp only at h3;by_cases hc:1024<r.2.2+p.length
  ·rw[if_pos hc] at h3;rw[h3] at h;exact absurd h (by decide)
  ·rw[if_neg hc] at h3;rw[h3];simp only[OE,Nat.zero_add] at a b;exact⟨a.1,a.2.1,b,r,p,h1,h2,by omega,rfl⟩
theorem LZ(l:List Ln)(hl:l.length<=1000)(he:∀x∈l,(eL x).length<=4611686018427387904):Zba.g l=some (dS l):=by
 unfold Zba.g;generalize hn:1000+l.length=n;unfold Zba.f dS Aa;rw[K9 l (by omega) he,ND];simp only[dt];by_cases h:(ay l).2.2.2.2.2.2.1=0;·obtain⟨h1,h2,h3,_⟩:=tX l h;rw[if_neg (by simpa using h),if_neg (by simpa using h)];have:=al7 (ay l).1 (ay l).2.1 (ay l).2.2.1 (ay l).2.2.2.1 (ay l).2.2.2.2.1 l hl he h1 (by omega) (by omega) n (by omega) [] [] [] n 0 ([],[],[]) (by omega) (by omega) ⟨NM _,NM _,NM _,List.Pairwise.nil⟩;rw[Oi] at this;exact this
 ·rw[if_pos (by simpa using h),if_pos (by simpa using h)];rfl
end Rv
namespace Rv
open Go
theorem wN{k o a b c i:Int}{u:Bool}{w:Int×Bool}(h:oF k o a b c i u=.ok w):w=((lm k o a b c i u).1,false)/\(lm k o a b c i u).2.1=0:=by
 unfold oF at h;split at h;·rename_i h0;cases h;exact⟨rfl,h0⟩
 ·cases h
theorem ny{k o a b c:Int}{v:Int×Int×Unit}{u:Bool}{w:Int×Bool}(h:iX k o a b c v u=.ok w):v.2.1=0/\w=((lm k o a b c v.1 u).1,false)/\(lm k o a b c v.1 u).2.1=0:=by
 unfold iX at h;split at h;·cases h
 ·rename_i h0;exact⟨by simpa using h0,wN h⟩
def pQ(lb:List Sym)(s:Snt):Bool:=decide (s.1=9/\(vOf lb s.2.2.2.2.2.2.1).2.1=1)
theorem GQ{lb:List Sym}{q:List Val}{fr wd:Int}{s:Snt}{pl:Int}{w:Int×Bool}(h:mq lb q fr wd s pl=.ok w):w.2=pQ lb s:=by
 have no:s.1≠9->pQ lb s=false:=fun h=>decide_eq_false fun g=>h g.1
 unfold mq at h;by_cases k2:s.1=2;·rw[if_pos k2] at h;rw[(ny h).2.1,no (by omega)]
 rw[if_neg k2] at h;by_cases k5:s.1=5;·rw[if_pos k5] at h;rw[(ny h).2.1,no (by omega)]
 rw[if_neg k5] at h;by_cases k7:s.1=7
 ·rw[if_pos k7] at h;split at h
  ·cases h
  ·rw[(ny h).2.1,no (by omega)]
 rw[if_neg k7] at h;by_cases k8:s.1=8
 ·rw[if_pos k8] at h;split at h
  ·cases h
  ·rw[(ny h).2.1,no (by omega)]
 rw[if_neg k8] at h;by_cases k9:s.1=9
 ·rw[if_pos k9] at h;split at h
  ·cases h
  ·split at h
   ·cases h
   ·cases h;unfold pQ;simp[k9]
 ·rw[if_neg k9] at h;rw[(wN h).1,no k9]
def p9(lb:List Sym)(t:List Int):List Ln->Nat->List Int
 |[],_=>[]
 |x::l,i=>if pQ lb x.2.1=true then IntKind.i64.wrap (Int.tdiv (t.getD i 0) 4)::p9 lb t l (i+1) else p9 lb t l (i+1)
def wC(fr:Int):List Val->Nat->List Int
 |[],_=>[]
 |v::l,i=>if v.2.1=1 then IntKind.i64.wrap (IntKind.i64.wrap (Int.tdiv fr 4)+(i:Int))::wC fr l (i+1) else wC fr l (i+1)
def yT(x:Ln):Bool:=decide (x.2.1.1=10)
def okY(lb:List Sym)(y:List Sym):Prop:=∀z∈y,bB z.1 lb=some z.2.1
theorem sK{y:List Sym}{x z:Sym}:z∈jE y x↔z=x\/z∈y:=by
 unfold jE;rw[NT,NT,NZ];have h:z∈y↔z∈y.take (kS y x.1)\/z∈y.drop (kS y x.1):=by
  rw[<- NT,List.take_append_drop]
 rw[h];constructor
 ·rintro((h|h)|h)
  ·exact .inr (.inl h)
  ·exact .inl h
  ·exact .inr (.inr h)
 ·rintro(h|h|h)
  ·exact .inl (.inr h)
  ·exact .inl (.inl h)
  ·exact .inr h
theorem EU{t:List Int}{x:Ln}{l:List Ln}{i c:Nat}(h:t.drop i=mF (x::l) c):t.getD i 0=((4*c:Nat):Int)/\t.drop (i+1)=mF l (c+bH x):=by
 rw[mF] at h;have hlt:i<t.length:=by
  rcases Nat.lt_or_ge i t.length with g|g;·exact g
  ·rw[List.drop_eq_nil_of_le g] at h;cases h
 rw[Og hlt] at h;injection h with h1 h2
 refine⟨?_,h2⟩;rw[NH,NL hlt];exact h1
section
variable(lb:List Sym)(q:List Val)(fr wd:Int)(t:List Int)
theorem jQ:∀(l:List Ln) (i:Nat) (r r':WrT),r.1.length+l.length<=100000->t.drop i=mF l r.1.length->eu r.2.2->okY lb r.2.2->dO lb q fr wd t l i r=.ok r' ->
  r'.1.length=r.1.length+(l.map bH).sum/\r'.2.1=r.2.1++p9 lb t l i/\r'.2.2.length=r.2.2.length+(l.filter yT).length/\eu r'.2.2/\okY lb r'.2.2/\(∀z∈r.2.2,z∈r'.2.2) /\
  (∀x∈l,x.2.1.1=10->(bB x.2.1.2.2.2.2.2.2.2.1 lb).isSome=true/\(x.2.1.2.2.2.2.2.2.2.1,(bB x.2.1.2.2.2.2.2.2.2.1 lb).getD 0,())∈r'.2.2)
 |[],i,r,r',_,_,hs,hy,h=>by
  rw[dO] at h;cases h;exact⟨by simp,by simp[p9],by simp,hs,hy,fun z hz=>hz,fun x hx=>by cases hx⟩
 |x::l,i,r,r',hlen,ht,hs,hy,h=>by
  simp only[N9] at hlen;obtain⟨ht1,ht2⟩:=EU ht;rw[dO] at h;split at h;·cases h
  ·rename_i r1 h1;unfold jP at h1;by_cases k0:x.2.1.1=0
   ·rw[if_pos k0] at h1;cases h1;have hz:bH x=0:=by unfold bH;rw[if_pos (.inl k0)]
    rw[hz,Nat.add_zero] at ht2;obtain⟨a1,a2,a3,a4,a5,a6,a7⟩:=jQ l (i+1) r r' (by omega) ht2 hs hy h;refine⟨by rw[NY,List.sum_cons,hz,Nat.zero_add];exact a1,?_,?_,a4,a5,a6,fun z hz'=>?_⟩
    ·rw[p9,if_neg (by unfold pQ;simp[k0])];exact a2
    ·rw[List.filter_cons,if_neg (by unfold yT;simp[k0])];exact a3
    ·rcases NS.1 hz' with rfl|g
     ·intro g;omega
     ·exact a7 z g
   rw[if_neg k0] at h1;by_cases k10:x.2.1.1=10
   ·rw[if_pos k10] at h1;split at h1
    ·cases h1
    ·rename_i y hE;cases h1;obtain⟨e1,e2,e3,rfl⟩:=xE hE;have hz:bH x=0:=by unfold bH;rw[if_pos (.inr k10)]
     rw[hz,Nat.add_zero] at ht2;have hfs:bB x.2.1.2.2.2.2.2.2.2.1 lb=some ((bB x.2.1.2.2.2.2.2.2.2.1 lb).getD 0):=by
      cases hq:bB x.2.1.2.2.2.2.2.2.2.1 lb with
      |none=>rw[hq] at e2;cases e2
      |some v=>rfl
     have hy':okY lb (jE r.2.2 (x.2.1.2.2.2.2.2.2.2.1,(bB x.2.1.2.2.2.2.2.2.2.1 lb).getD 0,())):=fun z hz=>by
      rcases sK.1 hz with rfl|g;·exact hfs
      ·exact hy z g
     obtain⟨a1,a2,a3,a4,a5,a6,a7⟩:=jQ l (i+1) (r.1,r.2.1,jE r.2.2 (x.2.1.2.2.2.2.2.2.2.1,(bB x.2.1.2.2.2.2.2.2.2.1 lb).getD 0,())) r' (by show r.1.length+_<=_;omega) ht2 (vO hs e3) hy' h;refine⟨by rw[NY,List.sum_cons,hz,Nat.zero_add];exact a1,?_,?_,a4,a5,fun z hz=>a6 z (sK.2 (.inr hz)),fun z hz'=>?_⟩
     ·rw[p9,if_neg (by unfold pQ;simp[k10])];exact a2
     ·rw[List.filter_cons,if_pos (by unfold yT;simp[k10]),N9];rw[a3];show(jE _ _).length+_=_;rw[Cn];omega
     ·rcases NS.1 hz' with rfl|g
      ·intro _;exact⟨e2,a6 _ (sK.2 (.inl rfl))⟩
      ·exact a7 z g
   rw[if_neg k10] at h1;split at h1;·cases h1
   ·rename_i w hW;cases h1;have hz:bH x=1:=by unfold bH;rw[if_neg (by omega)]
    rw[hz] at ht2;have hl1:(fA r w.1 w.2).1.length=r.1.length+1:=by simp[fA]
    obtain⟨a1,a2,a3,a4,a5,a6,a7⟩:=jQ l (i+1) (fA r w.1 w.2) r' (by rw[hl1];omega) (by rw[hl1];exact ht2) hs hy h;refine⟨by rw[NY,List.sum_cons,hz,a1,hl1];omega,?_,?_,a4,a5,a6,fun z hz'=>?_⟩
    ·rw[a2];have hf:=GQ hW;rw[p9,ht1];have hdv:IntKind.i64.wrap (Int.tdiv ((4*r.1.length:Nat):Int) 4)=(r.1.length:Int):=by
      have:Int.tdiv ((4*r.1.length:Nat):Int) 4=(r.1.length:Int):=by
       rw[Int.tdiv_eq_ediv_of_nonneg (by omega)];omega
      rw[this,w64 (by omega)]
     rw[hdv];unfold fA;dsimp only;rw[hf];by_cases hs:pQ lb x.2.1=true;·rw[if_pos hs,if_pos hs,NV];rfl
     ·rw[if_neg hs,if_neg hs]
    ·rw[List.filter_cons,if_neg (by unfold yT;simp[k10])];exact a3
    ·rcases NS.1 hz' with rfl|g
     ·intro g;exact absurd g k10
     ·exact a7 z g
theorem vY:∀(l:List Val) (j c:Nat) (r:WrT),r.1.length=c+j->c+j+l.length<=100000->(cK l r).1.length=r.1.length+l.length/\(cK l r).2.1=r.2.1++wC ((4*c:Nat):Int) l j/\(cK l r).2.2=r.2.2
 |[],_,_,r,_,_=>⟨by simp[cK],by simp[cK,wC],rfl⟩
 |v::l,j,c,r,hr,hl=>by
  simp only[N9] at hl;have hl1:(fA r v.1 (decide (v.2.1=1))).1.length=r.1.length+1:=by simp[fA]
  obtain⟨a1,a2,a3⟩:=vY l (j+1) c (fA r v.1 (decide (v.2.1=1))) (by rw[hl1];omega) (by omega);rw[cK];refine⟨by rw[a1,hl1,N9];omega,?_,a3⟩;rw[a2,wC];have hdv:IntKind.i64.wrap (IntKind.i64.wrap (Int.tdiv ((4*c:Nat):Int) 4)+(j:Int))=(r.1.length:Int):=by
   have:Int.tdiv ((4*c:Nat):Int) 4=(c:Int):=by
    rw[Int.tdiv_eq_ediv_of_nonneg (by omega)];omega
   rw[this,w64 (x:=(c:Int)) (by omega),w64 (by omega)];omega
  rw[hdv];unfold fA;dsimp only;by_cases hv:v.2.1=1;·rw[if_pos (decide_eq_true hv),if_pos hv,NV];rfl
  ·rw[if_neg (by simpa using hv),if_neg hv]
end
theorem zk(l:List Ln):((dS l).2.2.2.2.1≠0/\(dS l).1=[]/\(dS l).2.1=[]/\(dS l).2.2.1=[]) \/
  ((dS l).2.2.2.2.1=0/\(ay l).2.2.2.2.2.2.1=0/\∃r,dO (ay l).2.1 (ay l).2.2.1 (ay l).2.2.2.1 (ay l).2.2.2.2.1 (ay l).1 l 0 ([],[],[])=.ok r /\
   dS l=((cK (ay l).2.2.1 r).1,(cK (ay l).2.2.1 r).2.1,(cK (ay l).2.2.1 r).2.2,0,0,())):=by
 unfold dS Aa;by_cases h:(ay l).2.2.2.2.2.2.1=0
 ·rw[if_neg (by simpa using h)];cases hw:dO (ay l).2.1 (ay l).2.2.1 (ay l).2.2.2.1 (ay l).2.2.2.2.1 (ay l).1 l 0 ([],[],[]) with
  |error x=>
   have:∀{l:List Ln}{i:Nat}{r:WrT},dO (ay l).2.1 (ay l).2.2.1 (ay l).2.2.2.1 (ay l).2.2.2.2.1 (ay l).1 l i r=.error x->x.2≠0:=by
    intro l0 i r;generalize (ay l0).2.1=lb;generalize (ay l0).2.2.1=q;generalize (ay l0).2.2.2.1=fr;generalize (ay l0).2.2.2.2.1=wd;generalize (ay l0).1=t
    induction l0 generalizing i r with
    |nil=>intro h;cases h
    |cons y l0 ih=>
     intro h;rw[dO] at h;split at h;·rename_i e he;cases h;exact zR he
     ·exact ih h
   exact .inl ⟨this hw,rfl,rfl,rfl⟩
  |ok r=>
   dsimp only;unfold uu;split;·exact .inl ⟨by decide,rfl,rfl,rfl⟩
   ·exact .inr ⟨rfl,h,r,rfl,rfl⟩
 ·rw[if_pos (by simpa using h)];exact .inl ⟨h,rfl,rfl,rfl⟩
end Rv
namespace Rv
open Go
theorem zx{k o a b c i:Int}{u:Bool}{w:Int×Bool}(h:oF k o a b c i u=.ok w):(0<=w.1/\w.1<=4294967295)/\w.2=false:=by
 obtain⟨rfl,_⟩:=wN h;refine⟨?_,rfl⟩;unfold lm;split;·have:=(aN k o a b c i u).isLt;show(0:Int)<=(((aN k o a b c i u).toNat:Nat):Int)/\_;omega
 ·exact⟨by decide,by decide⟩
theorem oD{k o a b c:Int}{v:Int×Int×Unit}{u:Bool}{w:Int×Bool}(h:iX k o a b c v u=.ok w):(0<=w.1/\w.1<=4294967295)/\w.2=false:=by
 unfold iX at h;split at h;·cases h
 ·exact zx h
theorem EP{v ad wd:Int}(hv:0<=v/\v<=4294967295)(hw:0<=wd/\wd<=1024)(h:qz v ad wd=0)(ha:ad=1):v<=4*wd:=by
 unfold qz at h;split at h;·exact absurd h (by decide)
 ·split at h
  ·exact absurd h (by decide)
  ·rename_i g;rw[w64 (by omega),w64 (by omega)] at g;rcases Int.lt_or_le (4*wd) v with h1|h1
   ·exact absurd ⟨ha,h1⟩ g
   ·exact h1
theorem Dg(lb:List Sym){e:List Item}(hg:∀y∈e,0<=y.2.1/\y.2.1<=4294967295):0<=(vOf lb e).1/\(vOf lb e).1<=4294967295:=by
 rcases GH lb hg with⟨x,_,hx⟩|⟨v,hv,hx,_⟩;·rw[hx];exact⟨by show(0:Int)<=0;decide,by show(0:Int)<=4294967295;decide⟩
 ·rw[hx];exact hv.1
theorem JI{lb:List Sym}{q:List Val}{fr wd:Int}{s:Snt}{pl:Int}{w:Int×Bool}(hg:∀y∈s.2.2.2.2.2.2.1,0<=y.2.1/\y.2.1<=4294967295)(hw:0<=wd/\wd<=1024)(h:mq lb q fr wd s pl=.ok w) :
  (0<=w.1/\w.1<=4294967295)/\(w.2=true->w.1<=4*wd)/\(s.1=8->(vOf lb s.2.2.2.2.2.2.1).2.1=1->(vOf lb s.2.2.2.2.2.2.1).1<=4*wd):=by
 have hv:=Dg lb hg;have nos:∀{b:Bool},b=false->b=true->w.1<=4*wd:=fun h1 h2=>by rw[h1] at h2;cases h2
 unfold mq at h;by_cases k2:s.1=2;·rw[if_pos k2] at h;have:=oD h;exact⟨this.1,nos this.2,fun h8=>by omega⟩
 rw[if_neg k2] at h;by_cases k5:s.1=5;·rw[if_pos k5] at h;have:=oD h;exact⟨this.1,nos this.2,fun h8=>by omega⟩
 rw[if_neg k5] at h;by_cases k7:s.1=7
 ·rw[if_pos k7] at h;split at h
  ·cases h
  ·have:=oD h;exact⟨this.1,nos this.2,fun h8=>by omega⟩
 rw[if_neg k7] at h;by_cases k8:s.1=8
 ·rw[if_pos k8] at h;split at h
  ·cases h
  ·have:=oD h;exact⟨this.1,nos this.2,fun _ ha=>EP hv hw (ny h).1 ha⟩
 rw[if_neg k8] at h;by_cases k9:s.1=9
 ·rw[if_pos k9] at h;split at h
  ·cases h
  ·split at h
   ·cases h
   ·rename_i ha;cases h;exact⟨hv,fun hd=>EP hv hw (by simpa using ha) (of_decide_eq_true hd),fun h8=>by omega⟩
 rw[if_neg k9] at h;have:=zx h;exact⟨this.1,nos this.2,fun h8=>absurd h8 k8⟩
structure WI (wd:Int) (r:WrT):Prop where
 rng:∀x∈r.1,0<=x/\x<=4294967295
 sp:r.2.1.Pairwise (· < ·)
 sb:∀s∈r.2.1,0<=s/\s<(r.1.length:Int)/\r.1.getD s.toNat 0<=4*wd
theorem CP{wd:Int}{r:WrT}(I:WI wd r){w:Int}{b:Bool}(hw:0<=w/\w<=4294967295)(hb:b=true->w<=4*wd):WI wd (fA r w b):=by
 have old:∀s∈r.2.1,0<=s/\s<((r.1++[w]).length:Int)/\(r.1++[w]).getD s.toNat 0<=4*wd:=fun s hs=>by
  obtain⟨h1,h2,h3⟩:=I.sb s hs;refine⟨h1,by rw[NI];simp;omega,?_⟩;rw[NH,Om (by omega),<- NH];exact h3
 unfold fA;refine⟨fun x hx=>?_,?_,?_⟩
 ·rcases NT.1 hx with hx|hx
  ·exact I.rng x hx
  ·obtain rfl:=NZ.1 hx;exact hw
 ·dsimp only;cases b with
  |false=>exact I.sp
  |true=>
   rw[if_pos rfl,List.pairwise_append];refine⟨I.sp,by simp,fun a ha c hc=>?_⟩;obtain rfl:=NZ.1 hc;exact(I.sb a ha).2.1
 ·dsimp only;cases b with
  |false=>exact old
  |true=>
   rw[if_pos rfl];intro s hs;rcases NT.1 hs with hs|hs;·exact old s hs
   ·obtain rfl:=NZ.1 hs;refine⟨by omega,by rw[NI];simp;omega,?_⟩;rw[NU,NH,List.getElem?_concat_length];exact hb rfl
theorem zS{lb:List Sym}{q:List Val}{fr wd:Int}{t:List Int}(hwd:0<=wd/\wd<=1024):∀(l:List Ln) (i:Nat) (r r':WrT),(∀x∈l,∀y∈eL x,0<=y.2.1/\y.2.1<=4294967295)->WI wd r->(∀z∈r.2.2,cB z.1=true)->dO lb q fr wd t l i r=.ok r' ->
  WI wd r'/\(∀z∈r'.2.2,cB z.1=true)/\∀x∈l,x.2.1.1=8->(vOf lb (eL x)).2.1=1->(vOf lb (eL x)).1<=4*wd
 |[],_,r,r',_,I,hn,h=>by cases h;exact⟨I,hn,fun x hx=>by cases hx⟩
 |x::l,i,r,r',hg,I,hn,h=>by
  rw[dO] at h;split at h;·cases h
  ·rename_i r1 hA;have key:WI wd r1/\(∀z∈r1.2.2,cB z.1=true)/\(x.2.1.1=8->(vOf lb (eL x)).2.1=1->(vOf lb (eL x)).1<=4*wd):=by
    unfold jP at hA;by_cases k0:x.2.1.1=0;·rw[if_pos k0] at hA;cases hA;exact⟨I,hn,fun h8=>by omega⟩
    rw[if_neg k0] at hA;by_cases k10:x.2.1.1=10
    ·rw[if_pos k10] at hA;split at hA
     ·cases hA
     ·rename_i y hy;cases hA;refine⟨⟨I.rng,I.sp,I.sb⟩,?_,fun h8=>by omega⟩;unfold jA at hy;split at hy
      ·cases hy
      ·rename_i hno;split at hy
       ·cases hy
       ·split at hy
        ·cases hy
        ·cases hy;intro z hz;rcases sK.1 hz with rfl|hz
         ·simpa using hno
         ·exact hn z hz
    rw[if_neg k10] at hA;split at hA;·cases hA
    ·rename_i w hW;cases hA;obtain⟨h1,h2,h3⟩:=JI (hg x (Ot ..)) hwd hW;exact⟨CP I h1 h2,hn,h3⟩
   obtain⟨k1,k2,k3⟩:=key;obtain⟨a1,a2,a3⟩:=zS hwd l (i+1) r1 r' (fun y hy=>hg y (NR _ hy)) k1 k2 h;refine⟨a1,a2,fun y hy=>?_⟩;rcases NS.1 hy with rfl|hy;·exact k3
   ·exact a3 y hy
theorem CL{wd:Int}:∀(q:List Val) (r:WrT),WI wd r->(∀v∈q,(0<=v.1/\v.1<=4294967295)/\(v.2.1=1->v.1<=4*wd))->WI wd (cK q r)
 |[],_,I,_=>I
 |v::q,r,I,h=>by
  obtain⟨h1,h2⟩:=h v (Ot ..);exact CL q _ (CP I h1 fun hd=>h2 (of_decide_eq_true hd)) fun u hu=>h u (NR _ hu)
theorem q9(lb:List Sym):∀(l:List Ln) (i:Nat) (p0:List Val) {p},dn lb l i p0=.ok p->∀v∈p,v∈p0\/∃x∈l,x.2.1.1=8/\v=((vOf lb (eL x)).1,(vOf lb (eL x)).2.1,())
 |[],_,p0,p,h=>by rw[dn] at h;cases h;exact fun v hv=>.inl hv
 |x::l,i,p0,p,h=>by
  have up:∀{v},(∃y∈l,y.2.1.1=8/\v=((vOf lb (eL y)).1,(vOf lb (eL y)).2.1,()))->∃y∈x::l,y.2.1.1=8/\v=((vOf lb (eL y)).1,(vOf lb (eL y)).2.1,()):=fun⟨y,hy,h⟩=>⟨y,NR _ hy,h⟩
  rw[dn] at h;by_cases k8:x.2.1.1=8
  ·rw[if_pos k8] at h;split at h
   ·cases h
   ·split at h
    ·cases h
    ·intro v hv;rcases q9 lb l (i+1) _ h v hv with h1|h1
     ·unfold uj at h1;split at h1
      ·exact .inl h1
      ·rcases NT.1 h1 with h1|h1
       ·exact .inl h1
       ·obtain rfl:=NZ.1 h1;exact .inr ⟨x,Ot ..,k8,rfl⟩
     ·exact .inr (up h1)
  ·rw[if_neg k8] at h;intro v hv;rcases q9 lb l (i+1) _ h v hv with h1|h1
   ·exact .inl h1
   ·exact .inr (up h1)
theorem zP:∀(l:List Ln) (c:Nat),∀z∈oQ l c,∃k:Nat,z.2.1=((4*k:Nat):Int)/\k<=c+(l.map bH).sum
 |[],_,z,hz=>by cases hz
 |x::l,c,z,hz=>by
  rw[oQ] at hz;rw[NY,List.sum_cons];split at hz;·obtain⟨k,h1,h2⟩:=zP l _ z hz;exact⟨k,h1,by omega⟩
  ·rcases NS.1 hz with rfl|hz
   ·exact⟨c,rfl,by omega⟩
   ·obtain⟨k,h1,h2⟩:=zP l _ z hz;exact⟨k,h1,by omega⟩
theorem Cg{s:Str}{v:Int}:∀{lb:List Sym},bB s lb=some v->∃z∈lb,z.2.1=v
 |[],h=>by cases h
 |z::lb,h=>by
  unfold bB at h;split at h;·exact⟨z,Ot ..,NE h⟩
  ·obtain⟨y,hy,e⟩:=Cg h;exact⟨y,NR _ hy,e⟩
theorem J2(l:List Ln)(hl:l.length<=1000)(hg:∀x∈l,∀y∈eL x,0<=y.2.1/\y.2.1<=4294967295)(h:(dS l).2.2.2.2.1=0):OkO (dS l).1 (dS l).2.1 (dS l).2.2.1/\(dS l).2.2.2.1=0:=by
 rcases zk l with⟨h1,_⟩|⟨_,h2,r,h3,h4⟩;·exact absurd h h1
 ·obtain⟨p1,p2,p3,r0,p,g1,g2,g3,g4⟩:=tX l h2;have hform:=mP l 0 [] [] 0 g1;rw[OA] at hform;have hat:(ay l).1=mF l 0:=by rw[g4,hform]
  have hfr:(ay l).2.2.2.1=((4*(l.map bH).sum:Nat):Int):=by rw[g4,hform];simp
  have hlb:(ay l).2.1=oQ l 0:=by rw[g4,hform];simp
  have hq:(ay l).2.2.1=p:=by rw[g4]
  have hc:r0.2.2=(l.map bH).sum:=by rw[hform];simp
  have hwd:(ay l).2.2.2.2.1=(((l.map bH).sum+p.length:Nat):Int):=by rw[g4,hc]
  have hw1:0<=(ay l).2.2.2.2.1/\(ay l).2.2.2.2.1<=1024:=by rw[hwd];omega
  obtain⟨s1,s2,s3,s4,s5,_,s7⟩:=jQ (ay l).2.1 (ay l).2.2.1 (ay l).2.2.2.1 (ay l).2.2.2.2.1 (ay l).1 l 0 ([],[],[]) r (by simp;omega) (by rw[hat];rfl) List.Pairwise.nil (fun z hz=>by cases hz) h3;have s1:r.1.length=(l.map bH).sum:=by simpa using s1
  obtain⟨w1,w2,w3⟩:=zS hw1 l 0 ([],[],[]) r hg ⟨fun x hx=>(by cases hx),List.Pairwise.nil,fun s hs=>(by cases hs)⟩ (fun z hz=>(by cases hz)) h3;obtain⟨q1,q2,q3⟩:=vY (ay l).2.2.1 0 (l.map bH).sum r (by omega) (by rw[hq];omega);have hpool:∀v∈(ay l).2.2.1,(0<=v.1/\v.1<=4294967295)/\(v.2.1=1->v.1<=4*(ay l).2.2.2.2.1):=fun v hv=>by
   rw[hq] at hv;rcases q9 r0.2.1 l 0 [] g2 v hv with h0|⟨x,hx,h8,rfl⟩;·cases h0
   ·have e:r0.2.1=(ay l).2.1:=by rw[g4]
    rw[e];exact⟨Dg _ (hg x hx),w3 x hx h8⟩
  have W:=CL (ay l).2.2.1 r w1 hpool;have hlen:(cK (ay l).2.2.1 r).1.length=(l.map bH).sum+p.length:=by rw[q1,s1,hq]
  rw[hwd] at W;rw[h4];refine⟨?_,rfl⟩;dsimp only;have hwl:(((l.map bH).sum+p.length:Nat):Int)=((cK (ay l).2.2.1 r).1.length:Int):=by rw[hlen]
  rw[hwl] at W;have hidx:∀i,i<(cK (ay l).2.2.1 r).2.1.length->(cK (ay l).2.2.1 r).2.1.getD i 0∈(cK (ay l).2.2.1 r).2.1:=fun i hi=>by
   rw[NH,NL hi];exact Ou hi
  have hsz:(cK (ay l).2.2.1 r).1.length<=1024:=by rw[hlen];omega
  refine { lw:=hsz,wr:=W.rng,lt:=fun i j hij hj=>?_,at_:=fun i hi=>⟨(W.sb _ (hidx i hi)).1,(W.sb _ (hidx i hi)).2.1⟩,low:=fun i hi=>?_,bey:=fun i hi=>(W.sb _ (hidx i hi)).2.2,nm:=?_,srt:=?_,sat_:=fun z hz=>?_,ly:=?_ };·have:=List.pairwise_iff_getElem.1 W.sp i j (by omega) hj hij;rw[NH,NL (by omega),NH,NL hj];exact this
  ·have:=(W.sb _ (hidx i hi)).2.2;omega
  ·rw[q3];exact w2
  ·rw[q3];exact s4
  ·rw[q3] at hz;have hf:=s5 z hz;rw[hlb] at hf;obtain⟨y,hy,e⟩:=Cg hf;obtain⟨k,e1,e2⟩:=zP l 0 y hy;rw[<- e,e1];rw[hlen];omega
  ·have:¬64<(cK (ay l).2.2.1 r).2.2.length:=by
    intro hgt;have e:(dS l).2.2.2.2.1=2:=by
     unfold dS Aa;rw[if_neg (by simpa using h2),h3];dsimp only;unfold uu;rw[if_pos hgt];rfl
    rw[e] at h;exact absurd h (by decide)
   omega
theorem xR{lb:List Sym}{q:List Val}{fr wd:Int}{t:List Int}:∀(l:List Ln) (i:Nat) (r:WrT) {x},dO lb q fr wd t l i r=.error x->i<x.1/\x.1<=i+l.length
 |[],_,_,_,h=>by cases h
 |y::l,i,r,x,h=>by
  rw[dO] at h;split at h;·cases h;simp
  ·have:=xR l (i+1) _ h;simp;omega
theorem G8(l:List Ln)(h:(dS l).2.2.2.2.1≠0):0<=(dS l).2.2.2.1/\(dS l).2.2.2.1<=(l.length:Int)/\(¬0<(dS l).2.2.2.1->(dS l).2.2.2.2.1=2):=by
 have big:0<=(jS 0 2).2.2.2.1/\(jS 0 2).2.2.2.1<=(l.length:Int)/\(¬0<(jS 0 2).2.2.2.1->(jS 0 2).2.2.2.2.1=2):=⟨Int.le_refl _,by show(0:Int)<=_;omega,fun _=>rfl⟩
 unfold dS Aa at h⊢;rcases vX l with⟨x,hx,h0,h1,h2,_⟩|⟨r,p,_,_,hp⟩
 ·rw[hx];have e:(rA x.1 x.2).2.2.2.2.2.2.1=x.2:=rfl;rw[e,if_pos (by simpa using h0)];show 0<=((x.1:Nat):Int)/\((x.1:Nat):Int)<=_/\(¬0<((x.1:Nat):Int)->_)
  exact⟨by omega,by omega,fun h=>by omega⟩
 ·by_cases hz:(ay l).2.2.2.2.2.2.1=0
  ·rw[if_neg (by simpa using hz)] at h⊢;split at h
   ·rename_i x hL;have:=xR l 0 _ hL;show 0<=((x.1:Nat):Int)/\((x.1:Nat):Int)<=_/\(¬0<((x.1:Nat):Int)->_)
    exact⟨by omega,by omega,fun h=>by omega⟩
   ·unfold uu at h⊢;split
    ·exact big
    ·rename_i hn;rw[if_neg hn] at h;exact absurd rfl h
  ·rw[if_pos (by simpa using hz)];rw[hp] at hz⊢;unfold vV at hz⊢;dsimp only at hz⊢;split
   ·exact big
   ·rename_i hn;rw[if_neg hn] at hz;exact absurd rfl hz
end Rv
namespace Rv
open Go
inductive Od
 |A|B|C|E|Q|N
def Od.rd:Od->Fn
 | .A=>K.rdA | .B=>K.rdB | .C=>K.rdC | .E=>K.rdE | .Q=>K.rdQ | .N=>K.rdN
def Od.wr:Od->Fn
 | .A=>K.wrA | .B=>K.wrB | .C=>K.wrC | .E=>K.wrE | .Q=>K.wrQ | .N=>K.wrN
def odL(k o:Int):List Od:=
 if k=1 then(if o=0 then[.A,.C] else[.A,.B,.C]) else
 if k=2 then(if o=0 then[.A,.E] else[.A,.B,.E]) else
 if k=3\/k=4 then[.A] else
 if k=5 then[.A,.B,.E] else
 if k=6 then[.C] else
 if k=7\/k=9 then[.E] else
 if k=8 then[.A,.Q] else
 if k=10 then[.N] else[]
abbrev odF(d:Od):Fn×Fn×Unit:=(d.rd,d.wr,())
theorem CF(k o:Int):L.opsR k o=(odL k o).map odF:=by
 unfold L.opsR odL;split;·split<;>rfl
 ·split
  ·split<;>rfl
  ·repeat' split
   all_goals rfl
theorem KY(k o:Int):(odL k o).length<=3:=by
 unfold odL
 repeat' split
 all_goals simp
theorem sN{o:Int}(h:0<o):odL 1 o=[.A,.B,.C]:=by unfold odL;rw[if_pos rfl,if_neg (by omega)]
theorem KX{o:Int}(h:0<o):odL 2 o=[.A,.B,.E]:=by unfold odL;rw[if_neg (by decide),if_pos rfl,if_neg (by omega)]
def et:Option Tr->Str
 |none=>[]
 |some t=>t.txt
def hk(k:Int):Int:=if k=2 then 1 else if k=6 then 7 else k
theorem Fe(k:Int):Zdb.g k=some (decide (k=9\/k=10),()):=by
 unfold Zdb.g Zdb.f;simp only[df];by_cases h:k=9;·rw[if_neg (by simp[h])];simp[h]
 ·rw[if_pos h];simp[h]
end Rv
namespace Rv
open Go
def ek:Option Tr->List Bt
 |none=>[]
 |some t=>t.toks
end Rv
namespace Rv
open Go
def gU(l:List aD)(p:Nat)(c:UInt8):Bool:=decide (p<l.length)&&decide ((l.getD p aX).1=3)&&decide ((l.getD p aX).2.2.1=[c])
abbrev XR:=Except Int (List Item×Nat)
def xF(l:List aD)(S F:Nat->XR)(p:Nat):XR:=
 if gU l p 45=true then(match F (p+1) with | .error e=>.error e | .ok r=>.ok (r.1++[(3,0,[],())],r.2))
 else if gU l p 40=true then(match S (p+1) with | .error e=>.error e | .ok r=>if gU l r.2 41=true then .ok (r.1,r.2+1) else .error 23)
 else if p<l.length/\(l.getD p aX).1=2 then .ok ([(1,(l.getD p aX).2.2.2.1,[],())],p+1)
 else if p<l.length/\(l.getD p aX).1=1/\bA (l.getD p aX).2.2.1=true then .ok ([(2,0,(l.getD p aX).2.2.1,())],p+1)
 else .error 23
def lT(l:List aD)(F:Nat->XR):Nat->List Item->Nat->XR
 |0,it,p=>.ok (it,p)
 |m+1,it,p=>if gU l p 42=true then(match F (p+1) with | .error e=>.error e | .ok r=>lT l F m (it++r.1++[(6,0,[],())]) r.2) else .ok (it,p)
def xT(l:List aD)(F:Nat->XR)(p:Nat):XR:=match F p with | .error e=>.error e | .ok r=>lT l F (l.length+1) r.1 r.2
def lS(l:List aD)(T:Nat->XR):Nat->List Item->Nat->XR
 |0,it,p=>.ok (it,p)
 |m+1,it,p=>if gU l p 43=true then(match T (p+1) with | .error e=>.error e | .ok r=>lS l T m (it++r.1++[(4,0,[],())]) r.2)
  else if gU l p 45=true then(match T (p+1) with | .error e=>.error e | .ok r=>lS l T m (it++r.1++[(5,0,[],())]) r.2) else .ok (it,p)
def xS(l:List aD)(F:Nat->XR)(p:Nat):XR:=match xT l F p with | .error e=>.error e | .ok r=>lS l (xT l F) (l.length+1) r.1 r.2
def pF(l:List aD):Nat->Nat->XR
 |0,_=>.error 24
 |q+1,p=>xF l (xS l (pF l q)) (pF l q) p
def dP(l:List aD)(p:Nat):List Item×Int×Int×Unit:=
 match xS l (pF l 9) p with
 | .error e=>([],0,e,())
 | .ok r=>if 64<r.1.length then([],0,24,()) else(r.1,(r.2:Int),0,())
structure OkX (l:List aD) (p:Nat) (it:List Item) (p':Nat):Prop where
 lt:p<p'
 le:p'<=l.length
 len:it.length<=p'-p
 well:gG it
 good:(∀t∈l,0<=t.2.2.2.1/\t.2.2.2.1<=4294967295)->∀x∈it,oK x
def iD(l:List aD)(p:Nat):XR->Prop
 | .error e=>e=23\/e=24
 | .ok r=>OkX l p r.1 r.2
theorem KE{l:List aD}{p:Nat}{c:UInt8}(h:gU l p c=true):p<l.length:=by
 unfold gU at h;simp only[NJ,NN] at h;exact h.1.1
theorem xK{l:List aD}{p:Nat}(h:p<l.length):l.getD p aX∈l:=by
 rw[NH,NL h];exact Ou h
theorem Ky{l:List aD}{S F:Nat->XR}(hS:∀p,iD l p (S p))(hF:∀p,iD l p (F p))(p:Nat):iD l p (xF l S F p):=by
 unfold xF;split
 ·rename_i h;have:=hF (p+1);cases hr:F (p+1) with
  |error e=>rw[hr] at this;exact this
  |ok r=>
   rw[hr] at this;have h1:=this.lt;have h2:=this.len;have h3:=this.le;refine⟨by dsimp only;omega,h3,by simp;omega,JE this.well _ rfl,fun ht x hx=>?_⟩;simp only[NT,NZ] at hx;rcases hx with hx|rfl;·exact this.good ht x hx
   ·exact⟨by decide,by decide,rfl⟩
 ·split
  ·have:=hS (p+1);cases hr:S (p+1) with
   |error e=>rw[hr] at this;exact this
   |ok r=>
    rw[hr] at this;dsimp only;split;·rename_i h;have h0:=KE h;have h1:=this.lt;have h2:=this.len;have h3:=this.le;exact⟨by dsimp only;omega,by dsimp only;omega,by dsimp only;omega,this.well,this.good⟩
    ·exact .inl rfl
  ·split
   ·rename_i h;refine⟨by dsimp only;omega,by have:=h.1;dsimp only;omega,by simp,rfl,fun ht x hx=>?_⟩;simp only[NZ] at hx;subst hx;have:=ht _ (xK h.1);exact⟨this.1,this.2,rfl⟩
   ·split
    ·rename_i h;have hn:aB (2,0,(l.getD p aX).2.2.1,())=(0,true):=by
      generalize (l.getD p aX).2.2.1=tx at h;unfold aB;simp[h.2.2]
     refine⟨by dsimp only;omega,by have:=h.1;dsimp only;omega,by simp,?_,fun ht x hx=>?_⟩
     ·show enough 0 [((2,0,(l.getD p aX).2.2.1,()):Item)]=some 1;generalize ((2,0,(l.getD p aX).2.2.1,()):Item)=x at hn;simp[enough,hn]
     ·simp only[NZ] at hx;subst hx;exact⟨by show(0:Int)<=0;decide,by show(0:Int)<=_;decide,by rw[hn]⟩
    ·exact .inl rfl
theorem qP{l:List aD}{a b c:Nat}{A B:List Item}(ha:OkX l a A b)(hb:OkX l (b+1) B c)(x:Item)(hx:aB x=(2,true))(h0:x.2.1=0):OkX l a (A++B++[x]) c:=by
 have h1:=ha.lt;have h2:=ha.len;have h3:=hb.lt;have h4:=hb.len;refine⟨by omega,hb.le,by simp;omega,JF ha.well hb.well x hx,fun ht y hy=>?_⟩;simp only[NT,NZ] at hy;rcases hy with(hy|hy)|rfl;·exact ha.good ht y hy
 ·exact hb.good ht y hy
 ·exact⟨by rw[h0];decide,by rw[h0];decide,by rw[hx]⟩
theorem zG{l:List aD}{F:Nat->XR}(hF:∀p,iD l p (F p))(a:Nat):∀(m:Nat) (it:List Item) (p:Nat),OkX l a it p->iD l a (lT l F m it p)
 |0,it,p,h=>h
 |m+1,it,p,h=>by
  rw[lT];split
  ·have:=hF (p+1);cases hr:F (p+1) with
   |error e=>rw[hr] at this;exact this
   |ok r=>
    rw[hr] at this;exact zG hF a m _ _ (qP h this _ rfl rfl)
  ·exact h
theorem sI{l:List aD}{F:Nat->XR}(hF:∀p,iD l p (F p))(p:Nat):iD l p (xT l F p):=by
 unfold xT;have:=hF p;cases hr:F p with
 |error e=>rw[hr] at this;exact this
 |ok r=>rw[hr] at this;exact zG hF p _ _ _ this
theorem uy{l:List aD}{F:Nat->XR}(hF:∀p,iD l p (F p))(a:Nat):∀(m:Nat) (it:List Item) (p:Nat),OkX l a it p->iD l a (lS l F m it p)
 |0,it,p,h=>h
 |m+1,it,p,h=>by
  rw[lS];split
  ·have:=hF (p+1);cases hr:F (p+1) with
   |error e=>rw[hr] at this;exact this
   |ok r=>
    rw[hr] at this;exact uy hF a m _ _ (qP h this _ rfl rfl)
  ·split
   ·have:=hF (p+1);cases hr:F (p+1) with
    |error e=>rw[hr] at this;exact this
    |ok r=>
     rw[hr] at this;exact uy hF a m _ _ (qP h this _ rfl rfl)
   ·exact h
theorem kW{l:List aD}{F:Nat->XR}(hF:∀p,iD l p (F p))(p:Nat):iD l p (xS l F p):=by
 unfold xS;have:=sI hF p;cases hr:xT l F p with
 |error e=>rw[hr] at this;exact this
 |ok r=>rw[hr] at this;exact uy (sI hF) p _ _ _ this
theorem dK(l:List aD):∀(q p:Nat),iD l p (pF l q p)
 |0,_=>.inr rfl
 |q+1,p=>Ky (kW (dK l q)) (dK l q) p
theorem pO(all:List Str)(hall:all.length<=100)(l:List aD)(p:Nat)(hl:l.length<=1000000)(out:List Item):Zag.g all l p out 0 =
  if p<l.length/\(l.getD p aX).1=3/\(l.getD p aX).2.2.1∈all then some ((l.getD p aX).2.2.1,true,l,((p+1:Nat):Int),out,0,()) else some ([],false,l,(p:Int),out,0,()):=by
 unfold Zag.g Zag.f;by_cases hp:p<l.length
 ·rw[Cv l p out hp,ND];dsimp only;have:=rW (1000+all.length+l.length+(p:Int).toNat+out.length+(0:Int).toNat) all hall true l p out 0 (l.getD p aX).1 (l.getD p aX).2.1 (l.getD p aX).2.2.1 (l.getD p aX).2.2.2.1 (1000+all.length+l.length+(p:Int).toNat+out.length+(0:Int).toNat) 0 (by omega) (by omega);rw[show((0:Nat):Int)=0 from rfl] at this;rw[this,w64 (by omega),Oi];by_cases h:(l.getD p aX).1=3/\(l.getD p aX).2.2.1∈all
  ·rw[if_pos ⟨rfl,h⟩,if_pos ⟨hp,h⟩];rfl
  ·rw[if_neg (fun g=>h g.2),if_neg (fun g=>h g.2)]
 ·rw[zY l p out (by omega),ND];dsimp only;have:=rW (1000+all.length+l.length+(p:Int).toNat+out.length+(0:Int).toNat) all hall false l p out 0 0 0 [] 0 (1000+all.length+l.length+(p:Int).toNat+out.length+(0:Int).toNat) 0 (by omega) (by omega);rw[show((0:Nat):Int)=0 from rfl] at this;rw[this,if_neg (fun g=>by cases g.1),if_neg (fun g=>hp g.1)]
theorem bN{l:List aD}{p:Nat}{c:UInt8}:gU l p c=true↔p<l.length/\(l.getD p aX).1=3/\(l.getD p aX).2.2.1=[c]:=by
 unfold gU;simp only[NJ,NN,and_assoc]
theorem iZ(a b:Int)(c:Str)(l:List aD)(p:Int)(out:List Item)(e:Int)(ho:out.length<=3000000):Zar.g a b c l p out e=some (l,p,out++[(a,b,c,())],e,()):=by
 unfold Zar.g Zar.f;rw[if_pos (by simp;omega)]
def Dk(l:List aD)(out:List Item)(B:Nat)(r:Option (List aD×Int×List Item×Int×Unit)):XR->Prop
 | .ok x=>r=some (l,(x.2:Int),out++x.1,0,())
 | .error e=>∃p' out',r=some (l,p',out',e,())/\out'.length<=B
def GX(l:List aD)(out:List Item)(d:Int)(B:Nat)(r:Option (List aD×Int×List Item×Int×Unit×Int×Unit)):XR->Prop
 | .ok x=>r=some (l,(x.2:Int),out++x.1,0,(),d,())
 | .error e=>∃p' out',r=some (l,p',out',e,(),d,())/\out'.length<=B
def Ac(l:List aD)(q:Nat):Prop:=∀(p:Nat) (out:List Item) (Q:Nat),out.length+(l.length-p)<=1000000->6*q+1<=Q->Dk l out (2000000+3*q) ((R Q).expr_parser_factor ((9-q:Nat):Int) l p out 0) (pF l q p)
def IZ(l:List aD)(q:Nat):Prop:=∀(p:Nat) (out:List Item) (Q:Nat),out.length+(l.length-p)<=1000000->6*q+4<=Q->∃r,(R Q).expr_parser_sum_1 ((9-q:Nat):Int) l p out 0=r.map (fun y=>((),((9-q:Nat):Int),y))/\Dk l out (2000000+3*q+1) r (xT l (pF l q) p)
def Mr(l:List aD)(q:Nat):Prop:=∀(p:Nat) (out:List Item) (Q:Nat),out.length+(l.length-p)<=1000000->6*q+6<=Q->Dk l out (2000000+3*q+2) ((R Q).expr_parser_sum ((9-q:Nat):Int) l p out 0) (xS l (pF l q) p)
theorem nz{l:List aD}{p:Nat}{x:XR}{e:Int}(h:iD l p x)(hx:x=.error e):e≠0:=by
 subst hx;rcases h with rfl|rfl<;>decide
theorem LP{l:List aD}(hl:l.length<=1000000){q:Nat}(hq9:q<=9)(hF:Ac l q)(n:Nat)(Q:Nat)(hQ:6*q+2<=Q)(out:List Item):∀(m M:Nat) (it:List Item) (p:Nat),l.length-p<m->l.length-p<M->(out++it).length+(l.length-p)<=1000000 ->
  GX l out ((9-q:Nat):Int) (2000000+3*q+1) (expr_parser_row_c257.l1 n (R Q) M rU l p (out++it) 0 ((9-q:Nat):Int)) (lT l (pF l q) m it p):=by
 intro m
 induction m with
 |zero=>intro M it p h;omega
 |succ m ih=>
  intro M it p hm hM ho;obtain⟨M,rfl⟩:∃M',M=M'+1:=⟨M-1,by omega⟩
  rw[expr_parser_row_c257.l1,pO rU (by simp) l p hl,lT];by_cases hs:gU l p 42=true
  ·have hs':=bN.1 hs;rw[if_pos ⟨hs'.1,hs'.2.1,by rw[hs'.2.2];decide⟩,if_pos hs,ND,hs'.2.2];dsimp only;rw[if_neg (by decide)];obtain⟨Q,rfl⟩:∃Q',Q=Q'+1:=⟨Q-1,by omega⟩
   have e:(R (Q+1)).expr_parser_sum_1_1 ((9-q:Nat):Int) l ((p+1:Nat):Int) (out++it) 0=expr_parser_sum_1_1.h (R Q) ((9-q:Nat):Int) l ((p+1:Nat):Int) (out++it) 0:=rfl;rw[e];unfold expr_parser_sum_1_1.h expr_parser_sum_1_1.f;have hg:=dK l q (p+1);have hr:=hF (p+1) (out++it) Q (by omega) (by omega);cases hx:pF l q (p+1) with
   |error e=>
    rw[hx] at hr;obtain⟨p',out',h1,h2⟩:=hr;have hne:=nz hg hx;have hlt:=hs'.1;rw[h1,ND,ND];dsimp only;rw[iZ _ _ _ _ _ _ _ (by omega),ND];dsimp only;obtain⟨M,rfl⟩:∃M',M=M'+1:=⟨M-1,by omega⟩
    rw[Cq n _ M l p' _ e _ hne];exact⟨p',_,rfl,by simp;omega⟩
   |ok r=>
    rw[hx] at hr hg;have hr:(R Q).expr_parser_factor ((9-q:Nat):Int) l ((p+1:Nat):Int) (out++it) 0=some (l,(r.2:Int),(out++it)++r.1,0,()):=hr;have g1:=hg.lt;have g2:=hg.len;have g3:=hg.le;rw[hr,ND,ND];dsimp only;rw[iZ _ _ _ _ _ _ _ (by simp at ho⊢;omega),ND];dsimp only;have:=ih M (it++r.1++[(6,0,[],())]) r.2 (by omega) (by omega) (by simp at ho⊢;omega);rw[show out++it++r.1++[((L.kinds [42]).1,0,[],())]=out++(it++r.1++[(6,0,[],())]) by simp[L.kinds]];exact this
  ·rw[if_neg (fun h=>hs (bN.2 ⟨h.1,h.2.1,by simpa using h.2.2⟩)),if_neg hs,ND];rfl
theorem LU{l:List aD}(hl:l.length<=1000000){q:Nat}(hq9:q<=9)(hF:Ac l q):IZ l q:=by
 intro p out Q ho hQ;obtain⟨Q,rfl⟩:∃Q',Q=Q'+2:=⟨Q-2,by omega⟩
 have e:(R (Q+2)).expr_parser_sum_1 ((9-q:Nat):Int) l (p:Int) out 0=expr_parser_sum_1.h (R (Q+1)) ((9-q:Nat):Int) l (p:Int) out 0:=rfl;rw[e];unfold expr_parser_sum_1.h expr_parser_sum_1.f;have e2:(R (Q+1)).expr_parser_row_c257 rU l (p:Int) out 0 ((9-q:Nat):Int)=expr_parser_row_c257.h (R Q) rU l (p:Int) out 0 ((9-q:Nat):Int):=rfl;rw[e2];unfold expr_parser_row_c257.h expr_parser_row_c257.f;obtain⟨N,hN⟩:∃N,1000+rU.length+l.length+(p:Int).toNat+out.length+(0:Int).toNat+(((9-q:Nat):Int)).toNat=N:=⟨_,rfl⟩
 rw[hN];obtain⟨Q,rfl⟩:∃Q',Q=Q'+1:=⟨Q-1,by omega⟩
 have e3:(R (Q+1)).expr_parser_sum_1_1 ((9-q:Nat):Int) l (p:Int) out 0=expr_parser_sum_1_1.h (R Q) ((9-q:Nat):Int) l (p:Int) out 0:=rfl;rw[e3];unfold expr_parser_sum_1_1.h expr_parser_sum_1_1.f;have hg:=dK l q p;have hr:=hF p out Q (by omega) (by omega);unfold xT;cases hx:pF l q p with
 |error e=>
  rw[hx] at hr;obtain⟨p',out',h1,h2⟩:=hr;have hne:=nz hg hx;rw[h1,ND,ND];dsimp only;obtain⟨M,rfl⟩:∃M',N=M'+1:=⟨N-1,by omega⟩
  rw[Cq _ _ M l p' _ e _ hne,ND];exact⟨some (l,p',out',e,()),rfl,p',out',rfl,by omega⟩
 |ok r=>
  rw[hx] at hr hg;have hr:(R Q).expr_parser_factor ((9-q:Nat):Int) l (p:Int) out 0=some (l,(r.2:Int),out++r.1,0,()):=hr;have g1:=hg.lt;have g2:=hg.len;have g3:=hg.le;rw[hr,ND,ND];dsimp only;have:=LP hl hq9 hF N (Q+1) (by omega) out (l.length+1) N r.1 r.2 (by omega) (by omega) (by simp;omega);generalize expr_parser_row_c257.l1 N (R (Q+1)) N rU l (r.2:Int) (out++r.1) 0 ((9-q:Nat):Int)=X at this;cases hy:lT l (pF l q) (l.length+1) r.1 r.2 with
  |error e=>
   rw[hy] at this;obtain⟨p',out',h1,h2⟩:=this;rw[h1,ND];exact⟨some (l,p',out',e,()),rfl,p',out',rfl,h2⟩
  |ok x=>
   rw[hy] at this;have this:X=some (l,(x.2:Int),out++x.1,0,(),((9-q:Nat):Int),()):=this;rw[this,ND];exact⟨some (l,(x.2:Int),out++x.1,0,()),rfl,rfl⟩
theorem LJ{l:List aD}(hl:l.length<=1000000){q:Nat}(hq9:q<=9)(hT:IZ l q)(n:Nat)(Q:Nat)(hQ:6*q+4<=Q)(out:List Item):∀(m M:Nat) (it:List Item) (p:Nat),l.length-p<m->l.length-p<M->(out++it).length+(l.length-p)<=1000000 ->
  GX l out ((9-q:Nat):Int) (2000000+3*q+2) (expr_parser_row_c256.l1 n (R Q) M pK l p (out++it) 0 ((9-q:Nat):Int)) (lS l (xT l (pF l q)) m it p):=by
 intro m
 induction m with
 |zero=>intro M it p h;omega
 |succ m ih=>
  intro M it p hm hM ho;obtain⟨M,rfl⟩:∃M',M=M'+1:=⟨M-1,by omega⟩
  rw[expr_parser_row_c256.l1,pO pK (by simp) l p hl,lS];have step:∀(c:UInt8) (K:Int),(L.kinds [c]).1=K->gU l p c=true ->
    GX l out ((9-q:Nat):Int) (2000000+3*q+2) (((R Q).expr_parser_sum_1 ((9-q:Nat):Int) l ((p+1:Nat):Int) (out++it) 0).bind fun y2=>(Zar.g ((L.kinds [c]).1) 0 ([]:Str) y2.2.2.1 y2.2.2.2.1 y2.2.2.2.2.1 y2.2.2.2.2.2.1).bind fun y3=>(expr_parser_row_c256.l1 n (R Q) M) pK y3.1 y3.2.1 y3.2.2.1 y3.2.2.2.1 y2.2.1)
     (match xT l (pF l q) (p+1) with | .error e=>.error e | .ok r=>lS l (xT l (pF l q)) m (it++r.1++[(K,0,[],())]) r.2):=by
   intro c K hK hs;have hs':=bN.1 hs;have hlt:=hs'.1;have hg:=sI (dK l q) (p+1);obtain⟨rr,h0,hr⟩:=hT (p+1) (out++it) Q (by omega) hQ;rw[h0];cases hx:xT l (pF l q) (p+1) with
   |error e=>
    rw[hx] at hr;obtain⟨p',out',h1,h2⟩:=hr;have hne:=nz hg hx;rw[h1,Ov,ND];dsimp only;rw[iZ _ _ _ _ _ _ _ (by omega),ND];dsimp only;obtain⟨M,rfl⟩:∃M',M=M'+1:=⟨M-1,by omega⟩
    rw[Co n _ M l p' _ e _ hne];exact⟨p',_,rfl,by simp;omega⟩
   |ok r=>
    rw[hx] at hr hg;have hr:rr=some (l,(r.2:Int),(out++it)++r.1,0,()):=hr;have g1:=hg.lt;have g2:=hg.len;have g3:=hg.le;rw[hr,Ov,ND];dsimp only;rw[iZ _ _ _ _ _ _ _ (by simp at ho⊢;omega),ND];dsimp only;have:=ih M (it++r.1++[(K,0,[],())]) r.2 (by omega) (by omega) (by simp at ho⊢;omega);rw[hK,show out++it++r.1++[(K,0,[],())]=out++(it++r.1++[(K,0,[],())]) by simp];exact this
  by_cases hs:gU l p 43=true;·have hs':=bN.1 hs;rw[if_pos ⟨hs'.1,hs'.2.1,by rw[hs'.2.2];decide⟩,if_pos hs,ND,hs'.2.2];dsimp only;rw[if_neg (by decide)];exact step 43 4 rfl hs
  ·by_cases hs2:gU l p 45=true
   ·have hs':=bN.1 hs2;rw[if_pos ⟨hs'.1,hs'.2.1,by rw[hs'.2.2];decide⟩,if_neg hs,if_pos hs2,ND,hs'.2.2];dsimp only;rw[if_neg (by decide)];exact step 45 5 rfl hs2
   ·rw[if_neg (fun h=>by
     have h3:=h.2.2;simp only[NS,List.not_mem_nil,or_false] at h3;rcases h3 with h3|h3;·exact hs (bN.2 ⟨h.1,h.2.1,h3⟩)
     ·exact hs2 (bN.2 ⟨h.1,h.2.1,h3⟩)),if_neg hs,if_neg hs2,ND]
    rfl
theorem LK{l:List aD}(hl:l.length<=1000000){q:Nat}(hq9:q<=9)(hT:IZ l q):Mr l q:=by
 intro p out Q ho hQ;obtain⟨Q,rfl⟩:∃Q',Q=Q'+2:=⟨Q-2,by omega⟩
 have e:(R (Q+2)).expr_parser_sum ((9-q:Nat):Int) l (p:Int) out 0=expr_parser_sum.h (R (Q+1)) ((9-q:Nat):Int) l (p:Int) out 0:=rfl;rw[e];unfold expr_parser_sum.h expr_parser_sum.f;have e2:(R (Q+1)).expr_parser_row_c256 pK l (p:Int) out 0 ((9-q:Nat):Int)=expr_parser_row_c256.h (R Q) pK l (p:Int) out 0 ((9-q:Nat):Int):=rfl;rw[e2];unfold expr_parser_row_c256.h expr_parser_row_c256.f;obtain⟨N,hN⟩:∃N,1000+pK.length+l.length+(p:Int).toNat+out.length+(0:Int).toNat+(((9-q:Nat):Int)).toNat=N:=⟨_,rfl⟩
 rw[hN];have hg:=sI (dK l q) p;obtain⟨rr,h0,hr⟩:=hT p out Q (by omega) (by omega);rw[h0];unfold xS;cases hx:xT l (pF l q) p with
 |error e=>
  rw[hx] at hr;obtain⟨p',out',h1,h2⟩:=hr;have hne:=nz hg hx;rw[h1,Ov,ND];dsimp only;obtain⟨M,rfl⟩:∃M',N=M'+1:=⟨N-1,by omega⟩
  rw[Co _ _ M l p' _ e _ hne,ND];exact⟨p',out',rfl,by omega⟩
 |ok r=>
  rw[hx] at hr hg;have hr:rr=some (l,(r.2:Int),out++r.1,0,()):=hr;have g1:=hg.lt;have g2:=hg.len;have g3:=hg.le;rw[hr,Ov,ND];dsimp only;have:=LJ hl hq9 hT N Q (by omega) out (l.length+1) N r.1 r.2 (by omega) (by omega) (by simp;omega);generalize expr_parser_row_c256.l1 N (R Q) N pK l (r.2:Int) (out++r.1) 0 ((9-q:Nat):Int)=X at this;cases hy:lS l (xT l (pF l q)) (l.length+1) r.1 r.2 with
  |error e=>
   rw[hy] at this;obtain⟨p',out',h1,h2⟩:=this;rw[h1,ND];exact⟨p',out',rfl,h2⟩
  |ok x=>
   rw[hy] at this;have this:X=some (l,(x.2:Int),out++x.1,0,(),((9-q:Nat):Int),()):=this;rw[this,ND];rfl
theorem Ng{l:List aD}(hl:l.length<=1000000){q:Nat}(hq9:q+1<=9)(hF:Ac l q)(hS:Mr l q):Ac l (q+1):=by
 intro p out Q ho hQ;obtain⟨Q,rfl⟩:∃Q',Q=Q'+1:=⟨Q-1,by omega⟩
 have e:(R (Q+1)).expr_parser_factor ((9-(q+1):Nat):Int) l (p:Int) out 0=expr_parser_factor.h (R Q) ((9-(q+1):Nat):Int) l (p:Int) out 0:=rfl;rw[e];unfold expr_parser_factor.h expr_parser_factor.f;have hd:IntKind.i64.wrap (((9-(q+1):Nat):Int)+1)=((9-q:Nat):Int):=by rw[w64 (by omega)];omega
 rw[if_neg (by decide),if_neg (by simp;omega),pO [[45],[40]] (by simp) l p hl,hd];show Dk l out _ _ (xF l (xS l (pF l q)) (pF l q) p);unfold xF;by_cases h1:gU l p 45=true
 ·have hs':=bN.1 h1;rw[if_pos ⟨hs'.1,hs'.2.1,by rw[hs'.2.2];decide⟩,if_pos h1,ND,hs'.2.2];dsimp only;rw[if_pos (by decide)];have hlt:=hs'.1;have hg:=dK l q (p+1);have hr:=hF (p+1) out Q (by omega) (by omega);cases hx:pF l q (p+1) with
  |error e=>
   rw[hx] at hr;obtain⟨p',out',h3,h2⟩:=hr;rw[h3,ND];dsimp only;rw[iZ _ _ _ _ _ _ _ (by omega),ND];exact⟨p',_,rfl,by simp;omega⟩
  |ok r=>
   rw[hx] at hr hg;have hr:(R Q).expr_parser_factor ((9-q:Nat):Int) l ((p+1:Nat):Int) out 0=some (l,(r.2:Int),out++r.1,0,()):=hr;have g1:=hg.lt;have g2:=hg.len;have g3:=hg.le;rw[hr,ND];dsimp only;rw[iZ _ _ _ _ _ _ _ (by simp;omega),ND];show some (l,(r.2:Int),out++r.1++[(3,0,[],())],0,())=some (l,(r.2:Int),out++(r.1++[(3,0,[],())]),0,());rw[NV]
 ·by_cases h2:gU l p 40=true
  ·have hs':=bN.1 h2;rw[if_pos ⟨hs'.1,hs'.2.1,by rw[hs'.2.2];decide⟩,if_neg h1,if_pos h2,ND,hs'.2.2];dsimp only;rw[if_neg (by decide),if_pos (by decide)];have hlt:=hs'.1;have hg:=kW (dK l q) (p+1);have hr:=hS (p+1) out Q (by omega) (by omega);cases hx:xS l (pF l q) (p+1) with
   |error e=>
    rw[hx] at hr;obtain⟨p',out',h3,h4⟩:=hr;have hne:=nz hg hx;rw[h3,ND];dsimp only;rw[uV _ (by simp) l p' out' e hne,ND];dsimp only;rw[if_pos (show(!false)=true from rfl),Ig 23 l p' out' e hne,ND];exact⟨p',out',rfl,by omega⟩
   |ok r=>
    rw[hx] at hr hg;have hr:(R Q).expr_parser_sum ((9-q:Nat):Int) l ((p+1:Nat):Int) out 0=some (l,(r.2:Int),out++r.1,0,()):=hr;have g1:=hg.lt;have g2:=hg.len;have g3:=hg.le;rw[hr,ND];dsimp only;rw[pO [[41]] (by simp) l r.2 hl];by_cases h3:gU l r.2 41=true;·have hs2:=bN.1 h3;rw[if_pos ⟨hs2.1,hs2.2.1,by rw[hs2.2.2];decide⟩,if_pos h3,ND];dsimp only;rw[if_neg (by decide)];rfl
    ·rw[if_neg (fun h=>h3 (bN.2 ⟨h.1,h.2.1,by simpa using h.2.2⟩)),if_neg h3,ND];dsimp only;rw[if_pos (show(!false)=true from rfl),nA,ND];exact⟨_,_,rfl,by simp;omega⟩
  ·rw[if_neg (fun h=>by
     have h3:=h.2.2;simp only[NS,List.not_mem_nil,or_false] at h3;rcases h3 with h3|h3;·exact h1 (bN.2 ⟨h.1,h.2.1,h3⟩)
     ·exact h2 (bN.2 ⟨h.1,h.2.1,h3⟩)),if_neg h1,if_neg h2,ND]
   dsimp only;rw[if_neg (show ¬decide (([]:Str)=[45])=true by decide),if_neg (show ¬decide (([]:Str)=[40])=true by decide)];by_cases hp:p<l.length
   ·rw[Cv l p out hp,ND];dsimp only;generalize ht:l.getD p aX=t;by_cases k2:t.1=2
    ·rw[if_pos (show true=true from rfl),if_pos (show decide (t.1=2)=true by simp[k2]),if_pos (show p<l.length/\t.1=2 from⟨hp,k2⟩),iZ _ _ _ _ _ _ _ (by omega),ND];unfold expr_parser_factor.j19;dsimp only;rw[w64 (by omega)];rfl
    ·rw[if_pos (show true=true from rfl),if_neg (show ¬decide (t.1=2)=true by simp[k2]),if_pos (show true=true from rfl),if_neg (show ¬(p<l.length/\t.1=2) from fun h=>k2 h.2)];by_cases k1:t.1=1
     ·rw[if_pos (show decide (t.1=1)=true by simp[k1]),uE,ND];dsimp only;by_cases hL:bA t.2.2.1=true
      ·rw[if_pos hL,if_pos (show p<l.length/\t.1=1/\bA t.2.2.1=true from⟨hp,k1,hL⟩),iZ _ _ _ _ _ _ _ (by omega),ND];unfold expr_parser_factor.j19;dsimp only;rw[w64 (by omega)];rfl
      ·rw[if_neg hL,if_neg (show ¬(p<l.length/\t.1=1/\bA t.2.2.1=true) from fun h=>hL h.2.2),nA,ND];exact⟨_,_,rfl,by dsimp only;omega⟩
     ·rw[if_neg (show ¬decide (t.1=1)=true by simp[k1]),if_neg (show ¬(p<l.length/\t.1=1/\bA t.2.2.1=true) from fun h=>k1 h.2.1),nA,ND];exact⟨_,_,rfl,by dsimp only;omega⟩
   ·rw[zY l p out (by omega),ND];dsimp only;rw[if_neg (show ¬false=true by decide),if_neg (show ¬false=true by decide),if_neg (show ¬(p<l.length/\(l.getD p aX).1=2) from fun h=>hp h.1),if_neg (show ¬(p<l.length/\(l.getD p aX).1=1/\bA (l.getD p aX).2.2.1=true) from fun h=>hp h.1),nA,ND];exact⟨_,_,rfl,by dsimp only;omega⟩
theorem Dj{l:List aD}(hl:l.length<=1000000):∀q,q<=9->Ac l q
 |0,_=>fun p out Q ho hQ=>by
  obtain⟨Q,rfl⟩:∃Q',Q=Q'+1:=⟨Q-1,by omega⟩
  exact⟨_,_,LF Q l p out,by omega⟩
 |q+1,h=>Ng hl h (Dj hl q (by omega)) (LK hl (by omega) (LU hl (by omega) (Dj hl q (by omega))))
theorem FW(l:List aD)(hl:l.length<=1000000)(p:Nat):Zbf.g l p=some (dP l p):=by
 unfold Zbf.g Zbf.f expr_parser_sum.g;have hr:=LK hl (by decide) (LU hl (by decide) (Dj hl 9 (by decide))) p [] (1000+(0:Int).toNat+l.length+(p:Int).toNat+([]:List Item).length+(0:Int).toNat) (by simp;omega) (by omega);have hg:=kW (dK l 9) p;unfold dP;cases hx:xS l (pF l 9) p with
 |error e=>
  rw[hx] at hr;obtain⟨p',out',h3,_⟩:=hr;have hne:=nz hg hx;rw[show((9-9:Nat):Int)=0 from rfl] at h3;rw[h3,ND];dsimp only;rw[if_neg (by simpa using hne)];unfold Zbf.j5;rw[if_pos (by simpa using hne)]
 |ok r=>
  rw[hx] at hr;have hr:(R (1000+(0:Int).toNat+l.length+(p:Int).toNat+([]:List Item).length+(0:Int).toNat)).expr_parser_sum ((9-9:Nat):Int) l (p:Int) [] 0=some (l,(r.2:Int),[]++r.1,0,()):=hr;rw[show((9-9:Nat):Int)=0 from rfl] at hr;rw[hr,ND];dsimp only;rw[if_pos (show decide ((0:Int)=0)=true from rfl),OA];by_cases h64:64<r.1.length;·rw[if_pos (by simp;omega),if_pos h64];unfold Zbf.j5;rw[if_pos (by decide)]
  ·rw[if_neg (by simp;omega),if_neg h64];unfold Zbf.j5;rw[if_neg (by decide)]
end Rv
