/- Texts put together. -/
import Derived.Test.YtaonefbdamklhaaGreatDoorZ3
import Derived.Test.YtaonefbdamklhaaGreatDoorC1
import Derived.Test.YtaonefbdamklhaaGreatDoorZ1
import Derived.Test.YtaonefbdamklhaaGreatDoorZ2
set_option linter.all false
namespace Rv
open Go
abbrev RX (q:Nat):=rec_rivetref15_parser_sum q
theorem rsign_any (c:UInt8) (l:List TokL) (p:Nat) (hl:l.length≤1000000) (e:Int):Zbj.g [c] l p e=if isSg l p c=true then some (true,l,((p+1:Nat):Int),e,()) else some (false,l,(p:Int),e,()):=by
 unfold Zbj.g Zbj.f
 simp only [dt,Int.toNat_natCast]
 rw [if_pos (by omega)]
 by_cases h:isSg l p c=true
 ·obtain ⟨h1,h2,h3⟩:=isSg_iff.1 h
  rw [if_pos h,if_pos (by omega),if_pos (by omega),if_pos h2,if_pos (by omega),if_pos h3,w64 (by omega)]; rfl
 ·rw [if_neg h]
  by_cases h1:p < l.length
  ·rw [if_pos (by omega),if_pos (by omega)]
   by_cases h2:(l.getD p dTok).1=3
   ·rw [if_pos h2,if_pos (by omega),if_neg (fun h3=>h (isSg_iff.2 ⟨h1,h2,h3⟩))]
   ·rw [if_neg h2]
  ·rw [if_neg (by omega)]
def ResX (l:List TokL) (B:Nat) (r:Option (List Item×List TokL×Int×Int×Unit)):XR→Prop
 | .ok x=>r=some (x.1,l,(x.2:Int),0,())
 | .error e=>∃ it p',r=some (it,l,p',e,())∧it.length≤B
def rFq (l:List TokL) (q:Nat):Prop:=∀ (p Q:Nat),p≤3000000→3 * q+1≤Q→ResX l (4000000 * q+10) ((RX Q).rivetref15_parser_factor ((9 - q:Nat):Int) l p 0) (pF l q p)
def rTq (l:List TokL) (q:Nat):Prop:=∀ (p Q:Nat),p≤2000000→3 * q+2≤Q→ResX l (4000000 * q+1000100) ((RX Q).rivetref15_parser_term ((9 - q:Nat):Int) l p 0) (xT l (pF l q) p)
def rSq (l:List TokL) (q:Nat):Prop:=∀ (p Q:Nat),p≤2000000→3 * q+3≤Q→ResX l (4000000 * q+2000300) ((RX Q).rivetref15_parser_sum ((9 - q:Nat):Int) l p 0) (xS l (pF l q) p)
theorem rT_loop {l:List TokL} (hl:l.length≤1000000) {q:Nat} (hq9:q≤9) (hF:rFq l q) (n Q:Nat) (hQ:3 * q+1≤Q):∀ (m M:Nat) (it:List Item) (p:Nat),l.length - p < m→l.length - p < M→p≤l.length→it.length≤p →
  ResX l (4000000 * q+1000100) (rivetref15_parser_term.l2 n (RX Q) M ((9 - q:Nat):Int) it l p 0) (lT l (pF l q) m it p):=by
 intro m
 induction m with
 | zero=>intro M it p h; omega
 | succ m ih=>
  intro M it p hm hM hp hit
  obtain ⟨M,rfl⟩:∃ M',M=M'+1:=⟨M - 1,by omega⟩
  rw [rivetref15_parser_term.l2,rsign_any 42 l p hl,lT,if_pos (by decide)]
  by_cases hs:isSg l p 42=true
  ·have hlt:=isSg_lt hs
   rw [if_pos hs,if_pos hs,Option.bind_some]
   dsimp only
   rw [if_pos rfl]
   have hg:=goodX_pF l q (p+1)
   have hr:=hF (p+1) Q (by omega) hQ
   cases hx:pF l q (p+1) with
   | error e=>
    rw [hx] at hr
    obtain ⟨it',p',h1,h2⟩:=hr
    have hne:=err_ne hg hx
    rw [h1,Option.bind_some]
    dsimp only
    rw [if_pos (by omega),if_pos (by simp; omega)]
    obtain ⟨M,rfl⟩:∃ M',M=M'+1:=⟨M - 1,by omega⟩
    rw [rivetref15_parser_term.l2,if_neg (by simpa using hne)]
    exact ⟨_,p',rfl,by simp; omega⟩
   | ok r=>
    rw [hx] at hr hg
    have hr:(RX Q).rivetref15_parser_factor ((9 - q:Nat):Int) l ((p+1:Nat):Int) 0=some (r.1,l,(r.2:Int),0,()):=hr
    have g1:=hg.lt; have g2:=hg.len; have g3:=hg.le
    rw [hr,Option.bind_some]
    dsimp only
    rw [if_pos (by omega),if_pos (by simp; omega)]
    exact ih M (it++r.1++[(6,0,[],())]) r.2 (by omega) (by omega) g3 (by simp; omega)
  ·rw [if_neg hs,if_neg hs,Option.bind_some]
   rfl
theorem rT_of {l:List TokL} (hl:l.length≤1000000) {q:Nat} (hq9:q≤9) (hF:rFq l q):rTq l q:=by
 intro p Q hp hQ
 obtain ⟨Q,rfl⟩:∃ Q',Q=Q'+1:=⟨Q - 1,by omega⟩
 have e:(RX (Q+1)).rivetref15_parser_term ((9 - q:Nat):Int) l (p:Int) 0=rivetref15_parser_term.h (RX Q) ((9 - q:Nat):Int) l (p:Int) 0:=rfl
 rw [e]
 unfold rivetref15_parser_term.h rivetref15_parser_term.f
 obtain ⟨N,hN⟩:∃ N,1000+(((9 - q:Nat):Int)).toNat+l.length+(p:Int).toNat+(0:Int).toNat=N:=⟨_,rfl⟩
 rw [hN]
 have hg:=goodX_pF l q p
 have hr:=hF p Q (by omega) (by omega)
 unfold xT
 cases hx:pF l q p with
 | error e=>
  rw [hx] at hr
  obtain ⟨it',p',h1,h2⟩:=hr
  have hne:=err_ne hg hx
  rw [h1,Option.bind_some]
  dsimp only
  obtain ⟨M,rfl⟩:∃ M',N=M'+1:=⟨N - 1,by omega⟩
  rw [rivetref15_parser_term.l2,if_neg (by simpa using hne)]
  exact ⟨it',p',rfl,by omega⟩
 | ok r=>
  rw [hx] at hr hg
  have hr:(RX Q).rivetref15_parser_factor ((9 - q:Nat):Int) l (p:Int) 0=some (r.1,l,(r.2:Int),0,()):=hr
  have g1:=hg.lt; have g2:=hg.len; have g3:=hg.le
  rw [hr,Option.bind_some]
  exact rT_loop hl hq9 hF N Q (by omega) (l.length+1) N r.1 r.2 (by omega) (by omega) g3 (by omega)
theorem rS_loop {l:List TokL} (hl:l.length≤1000000) {q:Nat} (hq9:q≤9) (hT:rTq l q) (n Q:Nat) (hQ:3 * q+2≤Q):∀ (m M:Nat) (it:List Item) (p:Nat),l.length - p < m→l.length - p < M→p≤l.length→it.length≤p →
  ResX l (4000000 * q+2000300) (rivetref15_parser_sum.l2 n (RX Q) M ((9 - q:Nat):Int) it l p 0) (lS l (xT l (pF l q)) m it p):=by
 intro m
 induction m with
 | zero=>intro M it p h; omega
 | succ m ih=>
  intro M it p hm hM hp hit
  obtain ⟨M,rfl⟩:∃ M',M=M'+1:=⟨M - 1,by omega⟩
  rw [rivetref15_parser_sum.l2,rsign_any 43 l p hl,lS,if_pos (by decide)]
  have step:∀ K:Int,p < l.length→ResX l (4000000 * q+2000300) (rivetref15_parser_sum.j8 n (RX Q) (rivetref15_parser_sum.l2 n (RX Q) M) ((9 - q:Nat):Int) it K l ((p+1:Nat):Int) 0)
    (match xT l (pF l q) (p+1) with | .error e=>.error e | .ok r=>lS l (xT l (pF l q)) m (it++r.1++[(K,0,[],())]) r.2):=by
   intro K hlt
   unfold rivetref15_parser_sum.j8
   have hg:=goodX_T (goodX_pF l q) (p+1)
   have hr:=hT (p+1) Q (by omega) hQ
   cases hx:xT l (pF l q) (p+1) with
   | error e=>
    rw [hx] at hr
    obtain ⟨it',p',h1,h2⟩:=hr
    have hne:=err_ne hg hx
    rw [h1,Option.bind_some]
    dsimp only
    rw [if_pos (by omega),if_pos (by simp; omega)]
    obtain ⟨M,rfl⟩:∃ M',M=M'+1:=⟨M - 1,by omega⟩
    rw [rivetref15_parser_sum.l2,if_neg (by simpa using hne)]
    exact ⟨_,p',rfl,by simp; omega⟩
   | ok r=>
    rw [hx] at hr hg
    have hr:(RX Q).rivetref15_parser_term ((9 - q:Nat):Int) l ((p+1:Nat):Int) 0=some (r.1,l,(r.2:Int),0,()):=hr
    have g1:=hg.lt; have g2:=hg.len; have g3:=hg.le
    rw [hr,Option.bind_some]
    dsimp only
    rw [if_pos (by omega),if_pos (by simp; omega)]
    exact ih M (it++r.1++[(K,0,[],())]) r.2 (by omega) (by omega) g3 (by simp; omega)
  by_cases hs:isSg l p 43=true
  ·rw [if_pos hs,if_pos hs,Option.bind_some]
   dsimp only
   rw [if_neg (by decide)]
   exact step 4 (isSg_lt hs)
  ·rw [if_neg hs,if_neg hs,Option.bind_some]
   dsimp only
   rw [if_pos (by decide),rsign_any 45 l p hl]
   by_cases hs2:isSg l p 45=true
   ·rw [if_pos hs2,if_pos hs2,Option.bind_some]
    dsimp only
    rw [if_neg (by decide)]
    exact step 5 (isSg_lt hs2)
   ·rw [if_neg hs2,if_neg hs2,Option.bind_some]
    rfl
theorem rS_of {l:List TokL} (hl:l.length≤1000000) {q:Nat} (hq9:q≤9) (hT:rTq l q):rSq l q:=by
 intro p Q hp hQ
 obtain ⟨Q,rfl⟩:∃ Q',Q=Q'+1:=⟨Q - 1,by omega⟩
 have e:(RX (Q+1)).rivetref15_parser_sum ((9 - q:Nat):Int) l (p:Int) 0=rivetref15_parser_sum.h (RX Q) ((9 - q:Nat):Int) l (p:Int) 0:=rfl
 rw [e]
 unfold rivetref15_parser_sum.h rivetref15_parser_sum.f
 obtain ⟨N,hN⟩:∃ N,1000+(((9 - q:Nat):Int)).toNat+l.length+(p:Int).toNat+(0:Int).toNat=N:=⟨_,rfl⟩
 rw [hN]
 have hg:=goodX_T (goodX_pF l q) p
 have hr:=hT p Q (by omega) (by omega)
 unfold xS
 cases hx:xT l (pF l q) p with
 | error e=>
  rw [hx] at hr
  obtain ⟨it',p',h1,h2⟩:=hr
  have hne:=err_ne hg hx
  rw [h1,Option.bind_some]
  dsimp only
  obtain ⟨M,rfl⟩:∃ M',N=M'+1:=⟨N - 1,by omega⟩
  rw [rivetref15_parser_sum.l2,if_neg (by simpa using hne)]
  exact ⟨it',p',rfl,by omega⟩
 | ok r=>
  rw [hx] at hr hg
  have hr:(RX Q).rivetref15_parser_term ((9 - q:Nat):Int) l (p:Int) 0=some (r.1,l,(r.2:Int),0,()):=hr
  have g1:=hg.lt; have g2:=hg.len; have g3:=hg.le
  rw [hr,Option.bind_some]
  exact rS_loop hl hq9 hT N Q (by omega) (l.length+1) N r.1 r.2 (by omega) (by omega) g3 (by omega)
theorem rF_of {l:List TokL} (hl:l.length≤1000000) (hlen:∀ t∈l,t.2.2.1.length≤100000) {q:Nat} (hq9:q+1≤9) (hF:rFq l q) (hS:rSq l q):rFq l (q+1):=by
 intro p Q hp hQ
 obtain ⟨Q,rfl⟩:∃ Q',Q=Q'+1:=⟨Q - 1,by omega⟩
 have e:(RX (Q+1)).rivetref15_parser_factor ((9 - (q+1):Nat):Int) l (p:Int) 0=rivetref15_parser_factor.h (RX Q) ((9 - (q+1):Nat):Int) l (p:Int) 0:=rfl
 rw [e]
 unfold rivetref15_parser_factor.h rivetref15_parser_factor.f
 have hd:IntKind.i64.wrap (((9 - (q+1):Nat):Int)+1)=((9 - q:Nat):Int):=by rw [w64 (by omega)]; omega
 rw [if_neg (by simp; omega),rsign_any 45 l p hl,hd]
 show ResX l _ _ (xF l (xS l (pF l q)) (pF l q) p)
 unfold xF
 by_cases h1:isSg l p 45=true
 ·have hlt:=isSg_lt h1
  rw [if_pos h1,if_pos h1,Option.bind_some]
  dsimp only
  rw [if_pos rfl]
  have hg:=goodX_pF l q (p+1)
  have hr:=hF (p+1) Q (by omega) (by omega)
  cases hx:pF l q (p+1) with
  | error e=>
   rw [hx] at hr
   obtain ⟨it',p',g1,g2⟩:=hr
   rw [g1,Option.bind_some]
   dsimp only
   rw [if_pos (by simp; omega)]
   exact ⟨_,p',rfl,by simp; omega⟩
  | ok r=>
   rw [hx] at hr hg
   have hr:(RX Q).rivetref15_parser_factor ((9 - q:Nat):Int) l ((p+1:Nat):Int) 0=some (r.1,l,(r.2:Int),0,()):=hr
   have g1:=hg.lt; have g2:=hg.len; have g3:=hg.le
   rw [hr,Option.bind_some]
   dsimp only
   rw [if_pos (by simp; omega)]
   rfl
 ·rw [if_neg h1,if_neg h1,Option.bind_some]
  dsimp only
  rw [if_neg (by decide),rsign_any 40 l p hl]
  by_cases h2:isSg l p 40=true
  ·have hlt:=isSg_lt h2
   rw [if_pos h2,if_pos h2,Option.bind_some]
   dsimp only
   rw [if_pos rfl]
   have hg:=goodX_S (goodX_pF l q) (p+1)
   have hr:=hS (p+1) Q (by omega) (by omega)
   cases hx:xS l (pF l q) (p+1) with
   | error e=>
    rw [hx] at hr
    obtain ⟨it',p',g1,g2⟩:=hr
    have hne:=err_ne hg hx
    rw [g1,Option.bind_some]
    dsimp only
    rw [if_neg (by simpa using hne)]
    exact ⟨_,p',rfl,by omega⟩
   | ok r=>
    rw [hx] at hr hg
    have hr:(RX Q).rivetref15_parser_sum ((9 - q:Nat):Int) l ((p+1:Nat):Int) 0=some (r.1,l,(r.2:Int),0,()):=hr
    have g1:=hg.lt; have g2:=hg.len; have g3:=hg.le
    rw [hr,Option.bind_some]
    dsimp only
    rw [if_pos (show decide ((0:Int)=0)=true by decide),rsign_any 41 l r.2 hl]
    by_cases h3:isSg l r.2 41=true
    ·rw [if_pos h3,if_pos h3,Option.bind_some]
     rfl
    ·rw [if_neg h3,if_neg h3,Option.bind_some]
     exact ⟨r.1,(r.2:Int),rfl,by omega⟩
  ·rw [if_neg h2,if_neg h2,Option.bind_some]
   dsimp only
   rw [if_neg (by decide),if_pos (by simp)]
   by_cases hp':p < l.length
   ·rw [if_neg (by simp; omega),if_pos (by omega),Int.toNat_natCast]
    have hmem:=hlen _ (getD_memT hp')
    have W1:IntKind.i64.wrap ((p:Int)+1)=((p+1:Nat):Int):=by rw [w64 (by omega)]; omega
    rw [W1]
    have hz:∀ t:TokL,l.getD p t=l.getD p dTok:=fun t=>by rw [List.getD_eq_getElem?_getD,List.getD_eq_getElem?_getD,List.getElem?_eq_getElem hp']; rfl
    rw [hz]
    generalize l.getD p dTok=t at hmem
    by_cases k2:t.1=2
    ·rw [if_pos (by simpa using k2),if_pos ⟨hp',k2⟩]
     rfl
    ·rw [if_neg (show ¬ decide (t.1=2)=true by simpa using k2),if_neg (show ¬ (p < l.length∧t.1=2) from fun g=>k2 g.2)]
     by_cases k1:t.1=1
     ·rw [if_pos (show decide (t.1=1)=true by simpa using k1),rlabel_eq _ hmem,Option.bind_some]
      cases hL:labelOk t.2.2.1 with
      | true=>
       rw [if_pos rfl,if_pos ⟨hp',k1,rfl⟩]
       rfl
      | false=>
       rw [if_neg (by decide),if_neg (fun g=>by cases g.2.2)]
       exact ⟨[],_,rfl,by simp⟩
     ·rw [if_neg (show ¬ decide (t.1=1)=true by simpa using k1),if_neg (show ¬ (p < l.length∧t.1=1∧labelOk t.2.2.1=true) from fun g=>k1 g.2.1)]
      exact ⟨[],_,rfl,by simp⟩
   ·rw [if_pos (by simp; omega),if_neg (fun g=>hp' g.1),if_neg (fun g=>hp' g.1)]
    exact ⟨[],_,rfl,by simp⟩
theorem rF_zero (l:List TokL):rFq l 0:=by
 intro p Q _ hQ
 obtain ⟨Q,rfl⟩:∃ Q',Q=Q'+1:=⟨Q - 1,by omega⟩
 exact ⟨[],(p:Int),rfl,by simp⟩
theorem rF_all {l:List TokL} (hl:l.length≤1000000) (hlen:∀ t∈l,t.2.2.1.length≤100000):∀ q,q≤9→rFq l q
 | 0,_=>rF_zero l
 | q+1,h=>by
  have hF:=rF_all hl hlen q (by omega)
  exact rF_of hl hlen h hF (rS_of hl (by omega) (rT_of hl (by omega) hF))
theorem rparseX_eq {l:List TokL} (hl:l.length≤1000000) (hlen:∀ t∈l,t.2.2.1.length≤100000) (p:Nat) (hp:p≤2000000):Zds.g l p=some (parseX l p):=by
 unfold Zds.g Zds.f rivetref15_parser_sum.g parseX
 have hF:=rF_all hl hlen 9 (by decide)
 have hr:=rS_of hl (q:=9) (by decide) (rT_of hl (by decide) hF) p (1000+(0:Int).toNat+l.length+(p:Int).toNat+(0:Int).toNat) hp (by omega)
 have hg:=goodX_S (goodX_pF l 9) p
 rw [show ((9 - 9:Nat):Int)=0 from rfl] at hr
 cases hx:xS l (pF l 9) p with
 | error e=>
  rw [hx] at hr
  obtain ⟨it',p',g1,g2⟩:=hr
  have hne:=err_ne hg hx
  rw [g1,Option.bind_some]
  dsimp only
  rw [if_pos (by simpa using hne)]
 | ok r=>
  rw [hx] at hr
  have hr:(RX (1000+(0:Int).toNat+l.length+(p:Int).toNat+(0:Int).toNat)).rivetref15_parser_sum 0 l (p:Int) 0=some (r.1,l,(r.2:Int),0,()):=hr
  rw [hr,Option.bind_some]
  dsimp only
  rw [if_neg (show ¬ decide ((0:Int)≠0)=true by decide)]
  by_cases h:64 < r.1.length
  ·rw [if_pos (by simp; omega),if_pos h]
  ·rw [if_neg (by simp; omega),if_neg h]
end Rv
namespace Rv
open Go
set_option maxRecDepth 100000
end Rv
namespace Rv
open Go
end Rv
namespace Rv
open Go
section
variable {l:List TokL} (hw:∀ t∈l,0≤t.2.2.2.1∧t.2.2.2.1≤4294967295)
theorem nt_good:∀ e∈L.nameTbl,(e.2.1.1=1∧0≤e.2.1.2.1∧e.2.1.2.1 < 12∧(e.2.1.2.2=true→e.2.1.2.1=0∨8≤e.2.1.2.1∧e.2.1.2.1≤10))∨((e.2.1.1=3∨e.2.1.1=4∨e.2.1.1=8∨e.2.1.1=9∨e.2.1.1=10)∧e.2.1.2.1=0∧e.2.1.2.2=false)∨(e.2.1.1=5∧0≤e.2.1.2.1∧e.2.1.2.1 < 4∧e.2.1.2.2=false)∨(e.2.1.1=7∧0≤e.2.1.2.1∧e.2.1.2.1 < 16):=by decide +kernel
theorem of_found {s:Str} (h:(L.ofR s).2.2.2.1=true):∃ k o u,L.ofR s=(k,o,u,true,())∧((k=1∧0≤o∧o < 12∧(u=true→o=0∨8≤o∧o≤10))∨((k=3∨k=4∨k=8∨k=9∨k=10)∧o=0∧u=false)∨(k=5∧0≤o∧o < 4∧u=false)∨(k=7∧0≤o∧o < 16)):=by
 unfold L.ofR at h ⊢
 cases hf:L.nameTbl.find? fun e=>e.2.2 == s with
 | none=>rw [hf] at h; cases h
 | some e=>exact ⟨e.2.1.1,e.2.1.2.1,e.2.1.2.2,rfl,nt_good e (List.mem_of_find?_eq_some hf)⟩
end
end Rv
namespace Rv
open Go
section
variable {l:List TokL} (hl:l.length≤1000000) (hlen:∀ t∈l,t.2.2.1.length≤100000)
theorem rnext_eq (kd:Int) (l:List TokL) (p:Nat) (e:Int):Zbv.g kd l p e=some (pk kd l p e,l,(p:Int),e,()):=by
 unfold Zbv.g Zbv.f pk
 simp only [dt,Int.toNat_natCast]
 by_cases h:e=0
 ·rw [if_pos h]
  by_cases hp:p < l.length
  ·rw [if_pos (by omega),if_pos (by omega)]
   by_cases hk:(l.getD p dTok).1=kd
   ·rw [if_pos hk,if_pos (by omega),if_pos ⟨h,hp,hk⟩]
   ·rw [if_neg hk,if_neg (fun g=>hk g.2.2)]
  ·rw [if_neg (by omega),if_neg (fun g=>hp g.2.1)]
 ·rw [if_neg h,if_neg (fun g=>h g.1)]
theorem rregister_eq (l:List TokL) (p:Nat) (hp:p≤9000000) (e:Int):Zax.g l p e=some ((regOf (pk 1 l p e)).1,l,((p+1:Nat):Int),chk (regOf (pk 1 l p e)).2 e,()):=by
 unfold Zax.g Zax.f
 rw [rnext_eq,Option.bind_some]
 dsimp only
 rw [rreg_eq,Option.bind_some]
 unfold Zax.j4 chk
 dsimp only
 rw [w64 (by omega),show (p:Int)+1=((p+1:Nat):Int) by omega]
 cases (regOf (pk 1 l p e)).2
 ·by_cases h:e=0
  ·rw [if_pos (by decide),if_pos (by simpa using h),if_pos ⟨rfl,h⟩]
  ·rw [if_pos (by decide),if_neg (by simpa using h),if_neg (fun g=>h g.2)]
 ·rw [if_neg (by decide),if_neg (fun g=>by cases g.1)]
theorem rmust_eq (s:Str) (l:List TokL) (p:Nat) (hp:p≤9000000) (e:Int):Zbn.g s l p e=some (l,((p+1:Nat):Int),chk (decide (pk 3 l p e=s)) e,()):=by
 unfold Zbn.g Zbn.f
 rw [rnext_eq,Option.bind_some]
 unfold Zbn.j2 chk
 dsimp only
 rw [w64 (by omega),show (p:Int)+1=((p+1:Nat):Int) by omega]
 by_cases hs:pk 3 l p e=s
 ·rw [decide_eq_true hs,if_neg (by decide),if_neg (fun g=>by cases g.1)]
 ·rw [decide_eq_false hs,if_pos (by decide)]
  by_cases h:e=0
  ·rw [if_pos (by simpa using h),if_pos ⟨rfl,h⟩]
  ·rw [if_neg (by simpa using h),if_neg (fun g=>h g.2)]
include hl hlen in
theorem rnumb17_eq (p:Nat) (hp:p≤2000000) (e:Int) (s:Sm) (hs:s.e=[]):Zbw.g l p e=some ((rdE l p e s).2.2.e,l,((rdE l p e s).1:Int),(rdE l p e s).2.1,()):=by
 unfold Zbw.g Zbw.f rdE
 by_cases h:e=0
 ·rw [if_neg (by simpa using h),rparseX_eq hl hlen p hp,Option.bind_some,if_pos h]
  dsimp only
  rw [← (parseX_nn l p).1]
 ·rw [if_pos (by simpa using h),if_neg h,hs]
abbrev smQ (l:List TokL) (r:Nat×Int×Sm):Int×Int×Int×Int×Int×Bool×List Item×Str×List TokL×Int×Int×Unit:=(r.2.2.k,r.2.2.o,r.2.2.a,r.2.2.b,r.2.2.c,r.2.2.u,r.2.2.e,r.2.2.nm,l,(r.1:Int),r.2.1,())
theorem rdE_keep (p:Nat) (e:Int) (s:Sm):(rdE l p e s).2.2={ s with e:=(rdE l p e s).2.2.e }:=by unfold rdE; split <;> rfl
include hl hlen in
theorem reither_eq (s:Sm) (hs:s.e=[]) (rk nk:Int) (p:Nat) (hp:p≤2000000) (e:Int) :
  Zcc.g s.k s.o s.a s.b s.c s.u s.e s.nm rk nk l p e=some (smQ l (if (regOf (pk 1 l p e)).2=true then rd l p e { s with k:=rk } .C else rd l p e { s with k:=nk } .E)):=by
 unfold Zcc.g Zcc.f Zcc.j7
 rw [rnext_eq,Option.bind_some]
 dsimp only
 rw [rreg_eq,Option.bind_some]
 dsimp only
 cases hr:(regOf (pk 1 l p e)).2 with
 | true=>
  rw [if_pos rfl,if_pos rfl,rregister_eq l p (by omega),Option.bind_some]
  rfl
 | false=>
  rw [if_neg (by decide),if_neg (by decide),rnumb17_eq hl hlen p hp e { s with k:=nk } hs,Option.bind_some]
  show _=some (smQ l (rdE l p e { s with k:=nk }))
  have hk:=rdE_keep (l:=l) p e { s with k:=nk }
  unfold smQ
  rw [hk]
theorem step_at {op:Int} {many i p:Nat} {e:Int} {s:Sm} {d:Od} {p1:Nat} {e1:Int} {s1:Sm} (h1:p1=if 0 < i then p+1 else p) (h2:e1=if 0 < i then chk (decide (pk 3 l p e=[44])) e else e) (h3:s1=if i+1=many then { s with k:=chK l p1 e1 s } else s) (hd:(odL s1.k op)[i]?=some d):stepR l op many i p e s=rd l p1 e1 s1 d:=by
 unfold stepR
 dsimp only
 rw [← h1,← h2,← h3,hd]
def oneR17 (l:List TokL) (k o:Int) (u:Bool) (p:Nat) (e:Int):Nat×Int×Sm:=loopR l o (odL k o).length (odL k o).length 0 (p,e,⟨k,o,0,0,0,u,[],[]⟩)
include hl hlen in
theorem rone_eq {k o:Int} {u:Bool} (hk:k=1∨k=3∨k=4∨k=5∨k=7∨k=8∨k=9∨k=10) (p:Nat) (hp:p≤1500000) (e:Int) :
  Zaj.g k o 0 0 0 u [] [] l p e=some (smQ l (oneR17 l k o u p e)):=by
 have J35:∀ (n:Nat) (p:Nat) (e:Int) (s:Sm) (q r t v w:Int) (x:Bool) (y:List Item) (z:Str),Zaj.j35 n l (p:Int) e s.k s.o s.a s.b s.c s.u s.e s.nm q r t v w x y z=some (smQ l (p,e,s)):=fun _ _ _ _ _ _ _ _ _ _ _ _=>rfl
 have jE:∀ (n:Nat) (p:Nat) (e:Int) (s:Sm) (q r t v w:Int) (x:Bool) (y:List Item) (z:Str),s.e=[]→p≤2000000→((Zbw.g l p e).bind fun y1=>Zaj.j35 n y1.2.1 y1.2.2.1 y1.2.2.2.1 s.k s.o s.a s.b s.c s.u y1.1 s.nm q r t v w x y z)=some (smQ l (rdE l p e s)):=fun n p e s q r t v w x y z hs hp=>by
  rw [rnumb17_eq hl hlen p hp e s hs,Option.bind_some]
  dsimp only
  have hk:=rdE_keep (l:=l) p e s
  rw [J35 n _ _ { s with e:=(rdE l p e s).2.2.e }]
  unfold smQ
  rw [hk]
 unfold Zaj.g Zaj.f oneR17
 simp only [dt]
 rcases hk with rfl | rfl | rfl | rfl | rfl | rfl | rfl | rfl
 ·
  rw [if_pos rfl,rregister_eq l p (by omega),Option.bind_some]
  dsimp only
  rw [rmust_eq [44] l (p+1) (by omega),Option.bind_some]
  dsimp only
  have J12:∀ (n p:Nat) (e:Int) (s:Sm),s.k=1→s.e=[]→p≤2000000→Zaj.j12 n l (p:Int) e s.k s.o s.a s.b s.c s.u s.e s.nm 0 0 0 0 0 false [] []=some (smQ l (rd l p e { s with k:=chK l p e s } (if chK l p e s=1 then .C else .E))):=by
   intro n p e s h1 he hp
   unfold Zaj.j12 Zaj.j16
   have hch:chK l p e s=if (regOf (pk 1 l p e)).2=false∨(s.u=true∧s.o=0) then 2 else 1:=by
    unfold chK
    by_cases hc:(regOf (pk 1 l p e)).2=false∨(s.u=true∧s.o=0)
    ·rw [if_pos ⟨h1,hc⟩,if_pos hc]
    ·rw [if_neg (fun g=>hc g.2),if_neg hc,if_neg (fun g=>by omega),h1]
   have E16:¬ (s.u=true∧s.o=0)→((Zcc.g s.k s.o s.a s.b s.c s.u s.e s.nm 1 2 l (p:Int) e).bind fun y1=>some (y1.1,y1.2.1,y1.2.2.1,y1.2.2.2.1,y1.2.2.2.2.1,y1.2.2.2.2.2.1,y1.2.2.2.2.2.2.1,y1.2.2.2.2.2.2.2.1,y1.2.2.2.2.2.2.2.2.1,y1.2.2.2.2.2.2.2.2.2.1,y1.2.2.2.2.2.2.2.2.2.2.1,()))=some (smQ l (rd l p e { s with k:=chK l p e s } (if chK l p e s=1 then .C else .E))):=fun hno=>by
    rw [reither_eq hl hlen s he 1 2 p hp e,Option.bind_some]
    cases hr:(regOf (pk 1 l p e)).2 with
    | true=>
     have:chK l p e s=1:=by rw [hch,if_neg (by rintro (g | g); rw [hr] at g; cases g; exact hno g)]
     rw [this,if_pos rfl,if_pos rfl]
    | false=>
     have:chK l p e s=2:=by rw [hch,if_pos (.inl hr)]
     rw [this,if_neg (by decide),if_neg (by decide)]
   by_cases ho:s.o=0
   ·rw [if_pos (by simpa using ho)]
    by_cases hu:s.u=true
    ·have:chK l p e s=2:=by rw [hch,if_pos (.inr ⟨hu,ho⟩)]
     rw [if_pos hu,this,if_neg (show ¬ (2:Int)=1 by decide),rnumb17_eq hl hlen p hp e { s with k:=2 } he,Option.bind_some]
     dsimp only
     show _=some (smQ l (rdE l p e { s with k:=2 }))
     have hk:=rdE_keep (l:=l) p e { s with k:=2 }
     unfold smQ
     rw [hk]
    ·rw [if_neg hu]
     exact E16 (fun g=>hu g.1)
   ·rw [if_neg (by simpa using ho)]
    exact E16 (fun g=>ho g.2)
  have last:∀ (i p:Nat) (e:Int) (s:Sm),0 < i→i+1=(odL 1 o).length→s.k=1→s.o=o→s.e=[]→p≤1900000→∀ n,Zaj.j12 n l ((p+1:Nat):Int) (chk (decide (pk 3 l p e=[44])) e) s.k s.o s.a s.b s.c s.u s.e s.nm 0 0 0 0 0 false [] []=some (smQ l (stepR l o (odL 1 o).length i p e s)):=by
   intro i p e s hi hm h1 ho he hp n
   rw [J12 n (p+1) (chk (decide (pk 3 l p e=[44])) e) s h1 he (by omega)]
   rw [step_at (d:=if chK l (p+1) (chk (decide (pk 3 l p e=[44])) e) s=1 then .C else .E) (p1:=p+1) (by rw [if_pos hi]) (by rw [if_pos hi]) (by rw [if_pos hm])]
   have hor:chK l (p+1) (chk (decide (pk 3 l p e=[44])) e) s=1∨chK l (p+1) (chk (decide (pk 3 l p e=[44])) e) s=2:=by
    unfold chK
    split
    ·exact .inr rfl
    ·rw [if_neg (fun g=>by omega)]; exact .inl h1
   have hi2:(o=0∧i=1)∨(o≠0∧i=2):=by
    unfold odL at hm
    rw [if_pos rfl] at hm
    split at hm
    ·left; simp at hm; omega
    ·right; simp at hm; omega
   dsimp only
   rcases hor with h | h <;> rw [h] <;> rcases hi2 with ⟨rfl,rfl⟩ | ⟨h0,rfl⟩
   ·rfl
   ·unfold odL; rw [if_pos rfl,if_neg h0]; rfl
   ·rfl
   ·unfold odL; rw [if_neg (by decide),if_pos rfl,if_neg h0]; rfl
  by_cases ho:o=0
  ·subst ho
   rw [if_neg (by decide)]
   have s0:stepR l 0 2 0 p e ⟨1,0,0,0,0,u,[],[]⟩=rd l p e ⟨1,0,0,0,0,u,[],[]⟩ .A:=step_at (p1:=p) (e1:=e) (s1:=⟨1,0,0,0,0,u,[],[]⟩) rfl rfl rfl rfl
   show _=some (smQ l (stepR l 0 2 1 (stepR l 0 2 0 p e ⟨1,0,0,0,0,u,[],[]⟩).1 (stepR l 0 2 0 p e ⟨1,0,0,0,0,u,[],[]⟩).2.1 (stepR l 0 2 0 p e ⟨1,0,0,0,0,u,[],[]⟩).2.2))
   rw [s0]
   exact last 1 (p+1) _ ⟨1,0,_,0,0,u,[],[]⟩ (by decide) rfl rfl rfl rfl (by omega) _
  ·have h3:odL 1 o=[.A,.B,.C]:=by unfold odL; rw [if_pos rfl,if_neg ho]
   rw [if_pos (by simpa using ho),rregister_eq l (p+1+1) (by omega),Option.bind_some]
   dsimp only
   rw [rmust_eq [44] l (p+1+1+1) (by omega),Option.bind_some,h3]
   dsimp only
   have s0:stepR l o 3 0 p e ⟨1,o,0,0,0,u,[],[]⟩=rd l p e ⟨1,o,0,0,0,u,[],[]⟩ .A:=step_at (p1:=p) (e1:=e) (s1:=⟨1,o,0,0,0,u,[],[]⟩) rfl rfl rfl (by dsimp only; rw [h3]; rfl)
   show _=some (smQ l (stepR l o 3 2 (stepR l o 3 1 (stepR l o 3 0 p e ⟨1,o,0,0,0,u,[],[]⟩).1 (stepR l o 3 0 p e ⟨1,o,0,0,0,u,[],[]⟩).2.1 (stepR l o 3 0 p e ⟨1,o,0,0,0,u,[],[]⟩).2.2).1 (stepR l o 3 1 (stepR l o 3 0 p e ⟨1,o,0,0,0,u,[],[]⟩).1 (stepR l o 3 0 p e ⟨1,o,0,0,0,u,[],[]⟩).2.1 (stepR l o 3 0 p e ⟨1,o,0,0,0,u,[],[]⟩).2.2).2.1 (stepR l o 3 1 (stepR l o 3 0 p e ⟨1,o,0,0,0,u,[],[]⟩).1 (stepR l o 3 0 p e ⟨1,o,0,0,0,u,[],[]⟩).2.1 (stepR l o 3 0 p e ⟨1,o,0,0,0,u,[],[]⟩).2.2).2.2))
   rw [s0]
   have s1:∀ (a:Int) (p:Nat) (e:Int),stepR l o 3 1 p e ⟨1,o,a,0,0,u,[],[]⟩=rd l (p+1) (chk (decide (pk 3 l p e=[44])) e) ⟨1,o,a,0,0,u,[],[]⟩ .B:=fun a p e=>step_at (p1:=p+1) (e1:=chk (decide (pk 3 l p e=[44])) e) (s1:=⟨1,o,a,0,0,u,[],[]⟩) rfl rfl rfl (by dsimp only; rw [h3]; rfl)
   have e0:rd l p e ⟨1,o,0,0,0,u,[],[]⟩ .A=(p+1,chk (regOf (pk 1 l p e)).2 e,⟨1,o,(regOf (pk 1 l p e)).1,0,0,u,[],[]⟩):=rfl
   rw [e0]
   dsimp only
   rw [s1]
   have:=last 2 (p+1+1+1) (chk (regOf (pk 1 l (p+1+1) (chk (decide (pk 3 l (p+1) (chk (regOf (pk 1 l p e)).2 e)=[44])) (chk (regOf (pk 1 l p e)).2 e)))).2 (chk (decide (pk 3 l (p+1) (chk (regOf (pk 1 l p e)).2 e)=[44])) (chk (regOf (pk 1 l p e)).2 e)))
    ⟨1,o,(regOf (pk 1 l p e)).1,(regOf (pk 1 l (p+1+1) (chk (decide (pk 3 l (p+1) (chk (regOf (pk 1 l p e)).2 e)=[44])) (chk (regOf (pk 1 l p e)).2 e)))).1,0,u,[],[]⟩ (by decide) (by rw [h3]; rfl) rfl rfl rfl (by omega)
   rw [h3] at this
   exact this _
 ·
  rw [if_neg (by decide),if_pos rfl,if_pos rfl,rregister_eq l p (by omega),Option.bind_some]
  have s0:stepR l o 1 0 p e ⟨3,o,0,0,0,u,[],[]⟩=rd l p e ⟨3,o,0,0,0,u,[],[]⟩ .A:=step_at (p1:=p) (e1:=e) (s1:=⟨3,o,0,0,0,u,[],[]⟩) rfl rfl rfl rfl
  show _=some (smQ l (stepR l o 1 0 p e ⟨3,o,0,0,0,u,[],[]⟩))
  rw [s0]; rfl
 ·
  rw [if_neg (by decide),if_neg (by decide),if_pos rfl,rregister_eq l p (by omega),Option.bind_some]
  have s0:stepR l o 1 0 p e ⟨4,o,0,0,0,u,[],[]⟩=rd l p e ⟨4,o,0,0,0,u,[],[]⟩ .A:=step_at (p1:=p) (e1:=e) (s1:=⟨4,o,0,0,0,u,[],[]⟩) rfl rfl rfl rfl
  show _=some (smQ l (stepR l o 1 0 p e ⟨4,o,0,0,0,u,[],[]⟩))
  rw [s0]; rfl
 ·
  rw [if_neg (by decide),if_neg (by decide),if_neg (by decide),if_pos rfl,rregister_eq l p (by omega),Option.bind_some]
  unfold Zaj.j22
  dsimp only
  rw [rmust_eq [44] l (p+1) (by omega),Option.bind_some]
  dsimp only
  rw [rregister_eq l (p+1+1) (by omega),Option.bind_some]
  dsimp only
  rw [rmust_eq [44] l (p+1+1+1) (by omega),Option.bind_some]
  dsimp only
  have s0:stepR l o 3 0 p e ⟨5,o,0,0,0,u,[],[]⟩=rd l p e ⟨5,o,0,0,0,u,[],[]⟩ .A:=step_at (p1:=p) (e1:=e) (s1:=⟨5,o,0,0,0,u,[],[]⟩) rfl rfl rfl rfl
  have s1:∀ (a:Int) (p:Nat) (e:Int),stepR l o 3 1 p e ⟨5,o,a,0,0,u,[],[]⟩=rd l (p+1) (chk (decide (pk 3 l p e=[44])) e) ⟨5,o,a,0,0,u,[],[]⟩ .B:=fun a p e=>step_at (p1:=p+1) (e1:=chk (decide (pk 3 l p e=[44])) e) (s1:=⟨5,o,a,0,0,u,[],[]⟩) rfl rfl rfl rfl
  have s2:∀ (a b:Int) (p:Nat) (e:Int),stepR l o 3 2 p e ⟨5,o,a,b,0,u,[],[]⟩=rd l (p+1) (chk (decide (pk 3 l p e=[44])) e) ⟨5,o,a,b,0,u,[],[]⟩ .E:=fun a b p e=>step_at (p1:=p+1) (e1:=chk (decide (pk 3 l p e=[44])) e) (s1:=⟨5,o,a,b,0,u,[],[]⟩) rfl rfl (by rw [if_pos rfl]; rw [chK_self (show (5:Int)≠1 by decide) (show (5:Int)≠7 by decide)]) rfl
  have e0:rd l p e ⟨5,o,0,0,0,u,[],[]⟩ .A=(p+1,chk (regOf (pk 1 l p e)).2 e,⟨5,o,(regOf (pk 1 l p e)).1,0,0,u,[],[]⟩):=rfl
  have e1:∀ (a:Int) (p:Nat) (e:Int),rd l p e ⟨5,o,a,0,0,u,[],[]⟩ .B=(p+1,chk (regOf (pk 1 l p e)).2 e,⟨5,o,a,(regOf (pk 1 l p e)).1,0,u,[],[]⟩):=fun _ _ _=>rfl
  have hLp:loopR l o (odL 5 o).length (odL 5 o).length 0 (p,e,⟨5,o,0,0,0,u,[],[]⟩)=stepR l o 3 2 (stepR l o 3 1 (stepR l o 3 0 p e ⟨5,o,0,0,0,u,[],[]⟩).1 (stepR l o 3 0 p e ⟨5,o,0,0,0,u,[],[]⟩).2.1 (stepR l o 3 0 p e ⟨5,o,0,0,0,u,[],[]⟩).2.2).1 (stepR l o 3 1 (stepR l o 3 0 p e ⟨5,o,0,0,0,u,[],[]⟩).1 (stepR l o 3 0 p e ⟨5,o,0,0,0,u,[],[]⟩).2.1 (stepR l o 3 0 p e ⟨5,o,0,0,0,u,[],[]⟩).2.2).2.1 (stepR l o 3 1 (stepR l o 3 0 p e ⟨5,o,0,0,0,u,[],[]⟩).1 (stepR l o 3 0 p e ⟨5,o,0,0,0,u,[],[]⟩).2.1 (stepR l o 3 0 p e ⟨5,o,0,0,0,u,[],[]⟩).2.2).2.2:=rfl
  rw [hLp,s0,e0]
  dsimp only
  rw [s1,e1]
  dsimp only
  rw [s2]
  exact jE _ _ _ ⟨5,o,_,_,0,u,[],[]⟩ _ _ _ _ _ _ _ _ rfl (by omega)
 ·
  rw [if_neg (by decide),if_neg (by decide),if_neg (by decide),if_neg (by decide),if_pos rfl]
  have hE:=reither_eq hl hlen ⟨7,o,0,0,0,u,[],[]⟩ rfl 6 7 p (by omega) e
  dsimp only at hE
  rw [hE,Option.bind_some]
  show _=some (smQ l (stepR l o 1 0 p e ⟨7,o,0,0,0,u,[],[]⟩))
  have hch:chK l p e ⟨7,o,0,0,0,u,[],[]⟩=if (regOf (pk 1 l p e)).2=true then 6 else 7:=by
   unfold chK
   rw [if_neg (fun g=>absurd g.1 (show ¬ (7:Int)=1 by decide))]
   by_cases hr:(regOf (pk 1 l p e)).2=true
   ·rw [if_pos ⟨rfl,hr⟩,if_pos hr]
   ·rw [if_neg (fun g=>hr g.2),if_neg hr]
  cases hr:(regOf (pk 1 l p e)).2 with
  | true=>
   rw [hr,if_pos rfl] at hch
   rw [step_at (d:=.C) (p1:=p) (e1:=e) (s1:=⟨6,o,0,0,0,u,[],[]⟩) rfl rfl (by rw [if_pos rfl,hch]) rfl,if_pos rfl]
  | false=>
   rw [hr,if_neg (by decide)] at hch
   rw [step_at (d:=.E) (p1:=p) (e1:=e) (s1:=⟨7,o,0,0,0,u,[],[]⟩) rfl rfl (by rw [if_pos rfl,hch]) rfl,if_neg (by decide)]
 ·
  rw [if_neg (by decide),if_neg (by decide),if_neg (by decide),if_neg (by decide),if_neg (by decide),if_pos rfl,rregister_eq l p (by omega),Option.bind_some]
  unfold Zaj.j30
  dsimp only
  rw [rmust_eq [44] l (p+1) (by omega),Option.bind_some]
  dsimp only
  rw [rmust_eq [61] l (p+1+1) (by omega),Option.bind_some]
  dsimp only
  have s0:stepR l o 2 0 p e ⟨8,o,0,0,0,u,[],[]⟩=rd l p e ⟨8,o,0,0,0,u,[],[]⟩ .A:=step_at (p1:=p) (e1:=e) (s1:=⟨8,o,0,0,0,u,[],[]⟩) rfl rfl rfl rfl
  have s1:∀ (a:Int) (p:Nat) (e:Int),stepR l o 2 1 p e ⟨8,o,a,0,0,u,[],[]⟩=rd l (p+1) (chk (decide (pk 3 l p e=[44])) e) ⟨8,o,a,0,0,u,[],[]⟩ .Q:=fun a p e=>step_at (p1:=p+1) (e1:=chk (decide (pk 3 l p e=[44])) e) (s1:=⟨8,o,a,0,0,u,[],[]⟩) rfl rfl (by rw [if_pos rfl]; rw [chK_self (show (8:Int)≠1 by decide) (show (8:Int)≠7 by decide)]) rfl
  have e0:rd l p e ⟨8,o,0,0,0,u,[],[]⟩ .A=(p+1,chk (regOf (pk 1 l p e)).2 e,⟨8,o,(regOf (pk 1 l p e)).1,0,0,u,[],[]⟩):=rfl
  have hLp:loopR l o (odL 8 o).length (odL 8 o).length 0 (p,e,⟨8,o,0,0,0,u,[],[]⟩)=stepR l o 2 1 (stepR l o 2 0 p e ⟨8,o,0,0,0,u,[],[]⟩).1 (stepR l o 2 0 p e ⟨8,o,0,0,0,u,[],[]⟩).2.1 (stepR l o 2 0 p e ⟨8,o,0,0,0,u,[],[]⟩).2.2:=rfl
  rw [hLp,s0,e0]
  dsimp only
  rw [s1]
  exact jE _ _ _ ⟨8,o,_,0,0,u,[],[]⟩ _ _ _ _ _ _ _ _ rfl (by omega)
 ·
  rw [if_neg (by decide),if_neg (by decide),if_neg (by decide),if_neg (by decide),if_neg (by decide),if_neg (by decide),if_pos rfl]
  have s0:stepR l o 1 0 p e ⟨9,o,0,0,0,u,[],[]⟩=rd l p e ⟨9,o,0,0,0,u,[],[]⟩ .E:=step_at (p1:=p) (e1:=e) (s1:=⟨9,o,0,0,0,u,[],[]⟩) rfl rfl rfl rfl
  show _=some (smQ l (stepR l o 1 0 p e ⟨9,o,0,0,0,u,[],[]⟩))
  rw [s0]
  exact jE _ p e ⟨9,o,0,0,0,u,[],[]⟩ _ _ _ _ _ _ _ _ rfl (by omega)
 ·
  rw [if_neg (by decide),if_neg (by decide),if_neg (by decide),if_neg (by decide),if_neg (by decide),if_neg (by decide),if_neg (by decide),rnext_eq,Option.bind_some]
  unfold Zaj.j3 Zaj.j5
  dsimp only
  have hpk:(pk 1 l p e).length≤1000000:=by
   unfold pk
   split
   ·rename_i h; have:=hlen _ (getD_memT h.2.1); omega
   ·simp
  have s0:stepR l o 1 0 p e ⟨10,o,0,0,0,u,[],[]⟩=rd l p e ⟨10,o,0,0,0,u,[],[]⟩ .N:=step_at (p1:=p) (e1:=e) (s1:=⟨10,o,0,0,0,u,[],[]⟩) rfl rfl rfl rfl
  show _=some (smQ l (stepR l o 1 0 p e ⟨10,o,0,0,0,u,[],[]⟩))
  rw [s0,r7name_eq _ hpk,Option.bind_some,w64 (by omega),show (p:Int)+1=((p+1:Nat):Int) by omega]
  show _=some (smQ l (p+1,chk (nameOk (pk 1 l p e)) e,⟨10,o,0,0,0,u,[],pk 1 l p e⟩))
  dsimp only
  unfold chk
  cases nameOk (pk 1 l p e)
  ·by_cases h:e=0
   ·rw [if_pos (by decide),if_pos (by simpa using h),if_pos ⟨rfl,h⟩]; rfl
   ·rw [if_pos (by decide),if_neg (by simpa using h),if_neg (fun g=>h g.2)]; rfl
  ·rw [if_neg (by decide),if_neg (fun g=>by cases g.1)]; rfl
end
end Rv
namespace Rv
open Go
section
variable {l:List TokL} (hl:l.length≤1000000) (hlen:∀ t∈l,t.2.2.1.length≤100000)
theorem rj19_eq (n:Nat) (lb:Str) (b c d e i:Int) (j:Bool) (k:List Item) (nm:Str) (r:Nat×Int×Sm) (E:Int) :
  Zan.j19 n lb b c d e i j k nm l (r.1:Int) E r.2.2.k r.2.2.o r.2.2.a r.2.2.b r.2.2.c r.2.2.u r.2.2.e r.2.2.nm=some (outR lb E r.2.2):=by
 unfold Zan.j19 outR
 by_cases h:E=0
 ·rw [if_neg (by simpa using h),if_neg (fun g=>g h)]
 ·rw [if_pos (by simpa using h),if_pos h]
include hl hlen in
theorem rj15_eq {k o:Int} {u:Bool} (hk:k=1∨k=3∨k=4∨k=5∨k=7∨k=8∨k=9∨k=10) (n:Nat) (lb:Str) (a1 a2 a3 a4 a5:Int) (a6:Bool) (a7:List Item) (a8:Str) (p:Nat) (hp:p≤1000000) :
  Zan.j15 n l lb k o u a1 a2 a3 a4 a5 a6 a7 a8 l (p:Int) 0=some (finR l lb (oneR17 l k o u (p+1) 0)):=by
 unfold Zan.j15
 rw [w64 (by omega),show (p:Int)+1=((p+1:Nat):Int) by omega,rone_eq hl hlen hk (p+1) (by omega) 0,Option.bind_some]
 unfold smQ
 dsimp only
 have J:=fun E=>rj19_eq (l:=l) n lb a1 a2 a3 a4 a5 a6 a7 a8 (oneR17 l k o u (p+1) 0) E
 unfold finR
 generalize oneR17 l k o u (p+1) 0=r at J
 unfold chk
 by_cases h:r.2.1=0
 ·rw [if_pos (by simpa using h)]
  by_cases hlt:r.1 < l.length
  ·rw [if_pos (by simp; omega),J,if_pos ⟨by simp; omega,h⟩]
  ·rw [if_neg (by simp; omega),J,if_neg (fun g=>by simp at g; omega)]
 ·rw [if_neg (by simpa using h),J,if_neg (fun g=>h g.2)]
include hl hlen in
theorem rj8_eq (n:Nat) (lb:Str) (a1 a2 a3 a4 a5:Int) (a6:Bool) (a7:List Item) (a8:Str) (p:Nat) (hp:p≤l.length) :
  Zan.j8 n l lb a1 a2 a3 a4 a5 a6 a7 a8 l (p:Int) 0=some (headR l lb p 0):=by
 unfold Zan.j8 headR
 by_cases he:p=l.length
 ·subst he
  rw [if_pos (by simp),if_neg (fun g=>by omega)]
  rfl
 ·rw [if_neg (by simp; omega),if_pos (by omega),if_pos ⟨rfl,by omega⟩,Int.toNat_natCast]
  have hz:l.getD p zT=l.getD p dTok:=rfl
  rw [hz]
  dsimp only
  generalize l.getD p dTok=t
  rw [rof_eq,Option.bind_some]
  generalize hw:L.ofR t.2.2.1=w
  have J13:Zan.j13 n l lb w.1 w.2.1 w.2.2.1 w.2.2.2.1 (decide (w.1=9∨w.1=10)) a1 a2 a3 a4 a5 a6 a7 a8 l (p:Int) 0 t.1 t.2.1 t.2.2.1 t.2.2.2.1 =
    some (finR l lb (loopR l w.2.1 (odL w.1 w.2.1).length (odL w.1 w.2.1).length 0 (p+1,chk (w.2.2.2.1 && (decide (t.1=4) == decide (w.1=9∨w.1=10)) && (decide (t.1=4) || decide (t.1=1))) 0,⟨w.1,w.2.1,0,0,0,w.2.2.1,[],[]⟩))):=by
   have bad:∀ b:Bool,b=false→finR l lb (loopR l w.2.1 (odL w.1 w.2.1).length (odL w.1 w.2.1).length 0 (p+1,chk b 0,⟨w.1,w.2.1,0,0,0,w.2.2.1,[],[]⟩))=noP 22:=fun b hb=>by
    rw [hb]
    exact fin_stick (by decide) (loop_stick (by decide) _ _ _ rfl)
   unfold Zan.j13
   cases hf:w.2.2.2.1 with
   | false=>
    rw [if_neg (by decide),bad _ (by simp)]; rfl
   | true=>
    obtain ⟨k,o,u,e1,hk⟩:=of_found (by rw [hw]; exact hf:(L.ofR t.2.2.1).2.2.2.1=true)
    rw [hw] at e1
    subst e1
    dsimp only
    have hk8:k=1∨k=3∨k=4∨k=5∨k=7∨k=8∨k=9∨k=10:=by omega
    have J15:=rj15_eq hl hlen hk8 n lb a1 a2 a3 a4 a5 a6 a7 a8 p (by omega) (o:=o) (u:=u)
    have good:∀ b:Bool,b=true→finR l lb (loopR l o (odL k o).length (odL k o).length 0 (p+1,chk b 0,⟨k,o,0,0,0,u,[],[]⟩))=finR l lb (oneR17 l k o u (p+1) 0):=fun b hb=>by rw [hb]; rfl
    rw [if_pos (by decide)]
    by_cases hd:k=9∨k=10
    ·rw [decide_eq_true hd,if_pos rfl]
     by_cases h4:t.1=4
     ·rw [if_pos (by simp [h4]),if_neg (by decide),J15,good _ (by simp [h4])]
     ·rw [if_neg (by simp [h4]),bad _ (by simp [h4])]; rfl
    ·rw [decide_eq_false hd,if_neg (by decide),if_pos (by decide)]
     by_cases h1:t.1=1
     ·have h4:t.1≠4:=by omega
      rw [if_neg (by simp [h1]),J15,good _ (by simp [h1])]
     ·rw [if_pos (by simp [h1]),bad _ (by
       by_cases h4:t.1=4
       ·simp [h4]
       ·simp [h4,h1])]; rfl
  by_cases h9:w.1=9
  ·have e9:decide (w.1=9∨w.1=10)=true:=decide_eq_true (.inl h9)
   rw [e9] at J13
   rw [if_neg (by simp [h9]),J13,e9]
  ·have e9:decide (w.1=9∨w.1=10)=decide (w.1=10):=by rw [Bool.eq_iff_iff,decide_eq_true_eq,decide_eq_true_eq]; omega
   rw [e9] at J13
   rw [if_pos (by simp [h9]),J13,e9]
include hl hlen in
theorem rparseS_eq:Zan.g l=some (parseS l):=by
 unfold Zan.g
 generalize 1000+l.length=n
 unfold Zan.f parseS
 have J:=fun lb p hp=>rj8_eq hl hlen n lb 0 0 0 0 0 false [] [] p hp
 have J0:=J [] 0 (by omega)
 rw [show ((0:Nat):Int)=0 from rfl] at J0
 simp only [dt]
 have t0:((0:Int)).toNat=0:=rfl
 have t1:((1:Int)).toNat=1:=rfl
 rw [t0,t1]
 have hz:∀ p,l.getD p zT=l.getD p dTok:=fun _=>rfl
 simp only [hz]
 by_cases h1:1 < l.length
 ·rw [if_pos (by omega),if_pos (by omega)]
  by_cases k0:(l.getD 0 dTok).1=1
  ·rw [if_pos k0,if_pos (by omega)]
   by_cases k1:(l.getD 1 dTok).1=3
   ·rw [if_pos k1,if_pos (by omega)]
    by_cases k2:(l.getD 1 dTok).2.2.1=[58]
    ·have hm:=hlen _ (getD_memT (p:=0) (by omega):l.getD 0 dTok∈l)
     rw [if_pos k2,if_pos (by omega),rlabel_eq _ hm,Option.bind_some,if_pos (show 1 < l.length∧(l.getD 0 dTok).1=1∧isSg l 1 58=true from ⟨h1,k0,isSg_iff.2 ⟨h1,k1,k2⟩⟩)]
     dsimp only
     have J2:=J (l.getD 0 dTok).2.2.1 2 (by omega)
     cases hL:labelOk (l.getD 0 dTok).2.2.1 with
     | true=>
      rw [if_neg (by decide),show chk true 0=0 from rfl]
      exact J2
     | false=>
      rw [if_pos (by decide),show chk false 0=22 from rfl]
      unfold headR outR
      rw [if_neg (fun g=>absurd g.1 (by decide)),if_pos (by decide)]
    ·rw [if_neg k2,if_neg (fun g=>k2 (isSg_iff.1 g.2.2).2.2)]; exact J0
   ·rw [if_neg k1,if_neg (fun g=>k1 (isSg_iff.1 g.2.2).2.1)]; exact J0
  ·rw [if_neg k0,if_neg (fun g=>k0 g.2.1)]; exact J0
 ·rw [if_neg (by omega),if_neg (fun g=>h1 g.1)]; exact J0
end
end Rv
namespace Rv
open Go
theorem rletter_eq (b:UInt8):Zcu.g (b.toNat:Int)=some (isL b,()):=by
 unfold Zcu.g Zcu.f isL
 simp only [dt,df]
 (repeat' split) <;> first | (refine some_tt ?_; omega) | (refine some_ff ?_; omega) | (refine some_pq ?_; omega)
theorem rdigit_eq (b:UInt8):Zcj.g (b.toNat:Int)=some (isD b,()):=by
 unfold Zcj.g Zcj.f isD
 simp only [dt,df]
 (repeat' split) <;> first | (refine some_tt ?_; omega) | (refine some_ff ?_; omega) | (refine some_pq ?_; omega)
theorem rsign_tab:((List.range 256).all fun n=>decide (Zcv.g (n:Int)=some (isS (UInt8.ofNat n),())))=true:=by decide +kernel
theorem rsign_eq (b:UInt8):Zcv.g (b.toNat:Int)=some (isS b,()):=by
 have h:=List.all_eq_true.1 rsign_tab b.toNat (by simp; exact b.toNat_lt)
 simpa using h
def sixR (b:UInt8):Int×Bool×Unit:=match digOf b with
 | some d=>if d < 16 then ((d:Int),true,()) else (0,false,())
 | none=>(0,false,())
theorem rsix_tab:((List.range 256).all fun n=>decide (Zeg.g (n:Int)=some (sixR (UInt8.ofNat n))))=true:=by decide +kernel
theorem rsix_eq (b:UInt8):Zeg.g (b.toNat:Int)=some (sixR b):=by
 have h:=List.all_eq_true.1 rsix_tab b.toNat (by simp; exact b.toNat_lt)
 simpa using h
theorem rword_loop (s:Str) (hs:s.length≤1000000) (n:Nat):∀ (m k:Nat),k≤s.length→s.length - k < m→Zbg.l2 n m s (k:Int)=some (((k+(wordOf (s.drop k)).length:Nat):Int),()):=by
 intro m
 induction m with
 | zero=>intro k _ h; omega
 | succ m ih=>
  intro k hk hm
  simp only [Zbg.l2,Zbg.j3,dt,df]
  by_cases hlt:k < s.length
  ·have hd:=drop_cons hlt
   have step:=ih (k+1) (by omega) (by omega)
   have e1:IntKind.i64.wrap ((k:Int)+1)=((k+1:Nat):Int):=by rw [w64 (by omega)]; omega
   rw [if_pos (by omega),if_pos (by omega),bt_nat,rletter_eq,rdigit_eq,Option.bind_some,e1,step,hd]
   simp only [Option.bind_some]
   have hw:isW (s.getD k 0)=true→k+(wordOf (s.getD k 0::s.drop (k+1))).length=k+1+(wordOf (s.drop (k+1))).length:=fun h=>by
    unfold wordOf
    rw [List.takeWhile_cons_of_pos h,List.length_cons]; omega
   cases hl:isL (s.getD k 0) with
   | true=>rw [if_neg (by simp),hw (by unfold isW; rw [hl]; rfl)]
   | false=>
    rw [if_pos rfl,if_pos (by omega)]
    cases hdg:isD (s.getD k 0) with
    | true=>rw [if_pos rfl,hw (by unfold isW; rw [hl,hdg]; rfl)]
    | false=>
     have hz:wordOf (s.getD k 0::s.drop (k+1))=[]:=by unfold wordOf; rw [List.takeWhile_cons_of_neg (by unfold isW; rw [hl,hdg]; decide)]
     rw [if_neg (by simp),hz]; rfl
  ·have:k=s.length:=by omega
   subst this
   rw [if_neg (by omega)]
   simp [wordOf]
theorem rword_eq (s:Str) (hs:s.length≤1000000):Zbg.g s=some (((wordOf s).length:Int),()):=by
 unfold Zbg.g Zbg.f
 have:=rword_loop s hs (1000+s.length) (1000+s.length) 0 (by omega) (by omega)
 rw [List.drop_zero,Nat.zero_add] at this
 exact this
def numO:Option Nat→Option (Int×Bool×Unit)
 | some v=>some ((v:Int),true,())
 | none=>some (0,false,())
theorem rnum_loop (s:Str) (hs:s.length≤1000000) (base:Nat) (hb:base=10∨base=16) (n:Nat):∀ (m k v:Nat),k≤s.length→s.length - k < m→v < 4294967296 →
  Zbh.l8 n m s (base:Int) (v:Int) (k:Int)=numO (numFrom base v (s.drop k)):=by
 intro m
 induction m with
 | zero=>intro k v _ h; omega
 | succ m ih=>
  intro k v hk hm hv
  rw [Zbh.l8]
  simp only [dt,df]
  by_cases hlt:k < s.length
  ·rw [if_pos (by omega),if_pos (by omega),bt_nat,rsix_eq,Option.bind_some,drop_cons hlt]
   simp only [numFrom]
   unfold sixR
   cases hd:digOf (s.getD k 0) with
   | none=>rw [if_neg (by simp)]; rfl
   | some d=>
    simp only
    by_cases h16:d < 16
    ·rw [if_pos h16]
     dsimp only
     rw [if_pos (by simp)]
     by_cases hdb:d < base
     ·rw [if_neg (by omega),if_pos hdb]
      have hm1:IntKind.i64.wrap ((v:Int) * (base:Int))=((v * base:Nat):Int):=by
       rw [w64 (by rcases hb with rfl | rfl <;> omega)]; simp
      have hm2:IntKind.i64.wrap (((v * base:Nat):Int)+(d:Int))=((v * base+d:Nat):Int):=by
       rw [w64 (by rcases hb with rfl | rfl <;> omega)]; simp
      rw [hm1,hm2]
      by_cases hlt2:v * base+d < 4294967296
      ·rw [if_neg (by omega),if_pos hlt2,w64 (by omega)]
       exact ih (k+1) (v * base+d) (by omega) (by omega) hlt2
      ·rw [if_pos (by omega),if_neg hlt2]; rfl
     ·rw [if_pos (by omega),if_neg hdb]; rfl
    ·rw [if_neg h16,if_neg (show ¬ d < base by rcases hb with rfl | rfl <;> omega)]
     dsimp only
     rw [if_neg (by simp)]; rfl
  ·have:k=s.length:=by omega
   subst this
   rw [if_neg (by omega),List.drop_length,w32u (by omega)]
   rfl
theorem rnumber_eq (s:Str) (hs:s.length≤1000000) (hne:s≠[]):Zbh.g s=numO (num s):=by
 unfold Zbh.g Zbh.f
 simp only [dt,Zbh.j6]
 have d10:=rnum_loop s hs 10 (.inl rfl) (1000+s.length) (1000+s.length) 0 0 (by omega) (by omega) (by omega)
 have d16:2≤s.length→_:=fun h=>rnum_loop s hs 16 (.inr rfl) (1000+s.length) (1000+s.length) 2 0 h (by omega) (by omega)
 rw [List.drop_zero] at d10
 have d10:Zbh.l8 (1000+s.length) (1000+s.length) s 10 0 0=numO (numFrom 10 0 s):=d10
 unfold num
 match s,hne with
 | [a],_=>
  rw [if_neg (by simp),if_neg (by simp [List.isPrefixOf]),if_neg (by simp)]
  exact d10
 | [a,b],_=>
  rw [if_neg (by simp)]
  by_cases hp:([48,120]:Str).isPrefixOf [a,b]=true
  ·rw [if_pos hp,if_pos (show List.drop 2 [a,b]=([]:Str) from rfl)]
   simp only [List.isPrefixOf,Bool.and_true,Bool.and_eq_true,beq_iff_eq] at hp
   obtain ⟨rfl,rfl⟩:=hp
   rw [d10]
   decide
  ·rw [if_neg hp,if_neg (by simp)]
   exact d10
 | a::b::c::r,_=>
  have ha:bt (a::b::c::r) 0=(a.toNat:Int):=rfl
  have hb:bt (a::b::c::r) 1=(b.toNat:Int):=rfl
  have ea:((a.toNat:Int)=48)=(a=48):=byte_is a 48 (by decide)
  have eb:((b.toNat:Int)=120)=(b=120):=byte_is b 120 (by decide)
  rw [if_pos (by simp; omega),if_pos (by simp; omega),ha,hb]
  simp only [ea,eb]
  have hdr:(a::b::c::r).drop 2=c::r:=rfl
  by_cases h1:a=48
  ·rw [if_pos h1,if_pos (by simp; omega)]
   by_cases h2:b=120
   ·rw [if_pos h2,if_pos (by simp [List.isPrefixOf,h1,h2]),hdr,if_neg (by simp)]
    exact d16 (by simp)
   ·rw [if_neg h2,if_neg (by simp [List.isPrefixOf,h1]; exact fun h=>h2 h.symm),if_neg (by simp)]
    exact d10
  ·rw [if_neg h1,if_neg (by simp [List.isPrefixOf]; exact fun h=>absurd h.symm h1),if_neg (by simp)]
   exact d10
theorem rline_loop (s:Str) (hs:s.length≤1000000) (n:Nat):∀ (m k:Nat) (out:List Tok),k≤s.length→s.length - k < m→out.length≤k→Zah.l3 n m s out (k:Int)=some (lineOut out (lineR k (s.drop k))):=by
 intro m
 induction m with
 | zero=>intro k out _ h; omega
 | succ m ih=>
  intro k out hk hm hout
  have e1:IntKind.i64.wrap ((k:Int)+1)=((k+1:Nat):Int):=by rw [w64 (by omega)]; omega
  by_cases hlt:k < s.length
  ·have tok:∀ (d:Nat) (q:Int) (t:Str) (v:Int),1≤d+t.length→k+d+t.length≤s.length→Zah.j26 n (Zah.l3 n m) s out ((k+d:Nat):Int) q (k:Int) t v=some (lineOut out (match lineR ((k:Int)+d+t.length) ((s.drop (k+1)).drop (d+t.length - 1)) with
     | .error e=>.error e
     | .ok l=>.ok ((q,k,t,v,())::l))):=by
    intro d q t v h1 h2
    unfold Zah.j26
    rw [if_pos (by simp; omega),w64 (by omega)]
    have:=ih (k+d+t.length) (out++[(q,(k:Int),t,v,())]) h2 (by omega) (by simp; omega)
    rw [lineOut_snoc] at this
    rw [show ((k+d:Nat):Int)+(t.length:Int)=((k+d+t.length:Nat):Int) by omega,List.drop_drop,show k+1+(d+t.length - 1)=k+d+t.length by omega,show (k:Int)+(d:Int)+(t.length:Int)=((k+d+t.length:Nat):Int) by omega]
    exact this
   have tok0:=fun q t v h1 h2=>tok 0 q t v h1 h2
   simp only [Nat.add_zero,Nat.zero_add] at tok0
   have tok1:=fun q t v h1 h2=>tok 1 q t v h1 h2
   have skip:Zah.l3 n m s out ((k+1:Nat):Int)=some (lineOut out (lineR ((k:Int)+1) (s.drop (k+1)))):=by
    rw [show (k:Int)+1=((k+1:Nat):Int) by omega]
    exact ih (k+1) out (by omega) (by omega) (by omega)
   have hl0:=wordOf_le (s.drop k)
   have hl1:=wordOf_le (s.drop (k+1))
   have hd0:(s.drop (k+1)).length=s.length - (k+1):=by simp
   have hdk:(s.drop k).length=s.length - k:=by simp
   have hw0:=rword_eq (s.drop k) (by omega)
   have hw1:=rword_eq (s.drop (k+1)) (by omega)
   have f0:IntKind.i64.wrap ((k:Int)+((wordOf (s.drop k)).length:Int))=((k+(wordOf (s.drop k)).length:Nat):Int):=by rw [w64 (by omega)]; omega
   have f1:IntKind.i64.wrap (((k+1:Nat):Int)+((wordOf (s.drop (k+1))).length:Int))=((k+1+(wordOf (s.drop (k+1))).length:Nat):Int):=by rw [w64 (by omega)]; omega
   have g0:(s.take (k+(wordOf (s.drop k)).length)).drop k=wordOf (s.drop k):=by
    rw [List.drop_take,show k+(wordOf (s.drop k)).length - k=(wordOf (s.drop k)).length by omega]
    exact takeW (s.drop k)
   have g1:(s.take (k+1+(wordOf (s.drop (k+1))).length)).drop (k+1)=wordOf (s.drop (k+1)):=by
    rw [List.drop_take,show k+1+(wordOf (s.drop (k+1))).length - (k+1)=(wordOf (s.drop (k+1))).length by omega]
    exact takeW (s.drop (k+1))
   have hsign:(s.take (k+1)).drop k=[s.getD k 0]:=by
    rw [List.drop_take,drop_cons hlt]
    simp [show k+1 - k=1 by omega]
   have hhead:(∃ d∈(s.drop (k+1)).head?,isL d=true)↔k+1 < s.length∧isL (s.getD (k+1) 0)=true:=by
    by_cases h:k+1 < s.length
    ·rw [drop_cons h]; simp [h]
    ·rw [List.drop_eq_nil_of_le (by omega)]; simp [h]
   have hwp:isW (s.getD k 0)=true→1≤(wordOf (s.drop k)).length:=fun h=>by rw [drop_cons hlt]; exact wordOf_pos h
   have hwq:k+1 < s.length→isL (s.getD (k+1) 0)=true→1≤(wordOf (s.drop (k+1))).length:=fun h h'=>by
    rw [drop_cons h]; exact wordOf_pos (by unfold isW; rw [h']; rfl)
   rw [Zah.l3]
   simp only [dt,df]
   simp only [e1,bt_nat,rletter_eq,rdigit_eq,rsign_eq,Option.bind_some,Int.toNat_natCast,List.take_length,hw0,hw1,f0,f1,g0,g1]
   rw [if_pos (by omega),if_pos (by omega)]
   have hcons:=drop_cons hlt
   rw [hcons,lineR_cons]
   rw [hcons] at hl0 hdk hwp
   have b59:(((s.getD k 0).toNat:Int)=59)=(s.getD k 0=59):=byte_is _ 59 (by decide)
   have b32:(((s.getD k 0).toNat:Int)=32)=(s.getD k 0=32):=byte_is _ 32 (by decide)
   have b9:(((s.getD k 0).toNat:Int)=9)=(s.getD k 0=9):=byte_is _ 9 (by decide)
   have b46:(((s.getD k 0).toNat:Int)=46)=(s.getD k 0=46):=byte_is _ 46 (by decide)
   have j25:Zah.j25 n (Zah.l3 n m) s out (k:Int) 3 (k:Int) [] 0=Zah.j26 n (Zah.l3 n m) s out (k:Int) 3 (k:Int) [s.getD k 0] 0:=by
    unfold Zah.j25
    rw [e1,if_pos (by omega),if_pos (by omega),Int.toNat_natCast,Int.toNat_natCast,hsign]
   rw [j25]
   clear j25 hsign g0 g1 f0 f1 hw0 hw1 e1 hcons
   generalize s.getD k 0=b at *
   by_cases h59:b=59
   ·rw [if_neg (fun h=>h (b59.mpr h59)),if_pos h59]
    simp [lineOut]
   ·rw [if_pos (fun h=>h59 (b59.mp h)),if_neg h59,if_pos (by omega)]
    by_cases h32:b=32
    ·rw [if_neg (fun h=>h (b32.mpr h32)),if_pos (.inl h32)]
     exact skip
    ·rw [if_pos (fun h=>h32 (b32.mp h))]
     by_cases h9:b=9
     ·rw [if_pos (b9.mpr h9),if_pos (.inr h9)]
      exact skip
     ·rw [if_neg (fun h=>h9 (b9.mp h)),if_neg (show ¬ (b=32∨b=9) from fun h=>h.elim h32 h9)]
      unfold tokAt
      by_cases hL:isL b=true
      ·rw [if_pos hL,if_pos hL,if_pos (by omega),if_pos (by omega),if_pos (by omega),tok0 _ _ _ (hwp (by simp [isW,hL])) (by omega)]
       simp
       rfl
      ·rw [if_neg hL,if_neg hL]
       by_cases hD:isD b=true
       ·rw [if_pos hD,if_pos hD,if_pos (by omega),if_pos (by omega),if_pos (by omega)]
        have hpos:=hwp (by simp [isW,hD])
        rw [rnumber_eq (wordOf (b::s.drop (k+1))) (by omega) (fun h=>by rw [h] at hpos; simp at hpos)]
        cases hn:num (wordOf (b::s.drop (k+1))) with
        | none=>simp [numO,lineOut]
        | some v=>
         simp only [numO,Option.bind_some]
         rw [if_neg (by simp),tok0 _ _ _ hpos (by omega)]
         simp
         rfl
       ·rw [if_neg hD,if_neg hD]
        have sgn:(if isS b=true then Zah.j26 n (Zah.l3 n m) s out (k:Int) 3 (k:Int) [b] 0 else some ([],20,())) =
          some (lineOut out (match (if isS b=true then Except.ok (0,3,[b],0) else Except.error 20:Except Int (Nat×Int×Str×Int)) with
           | .error e=>.error e
           | .ok (d,q,t,v)=>match lineR (k+d+t.length) ((s.drop (k+1)).drop (d+t.length - 1)) with
            | .error e=>.error e
            | .ok l=>.ok ((q,k,t,v,())::l))):=by
         by_cases hS:isS b=true
         ·rw [if_pos hS,if_pos hS,tok0 _ _ _ (by simp) (by simp; omega)]
          simp
         ·rw [if_neg hS,if_neg hS]
          simp [lineOut]
        by_cases h46:b=46
        ·rw [if_pos (b46.mpr h46)]
         by_cases hk1:k+1 < s.length
         ·rw [if_pos (by omega),if_pos (by omega)]
          by_cases hL1:isL (s.getD (k+1) 0)=true
          ·have:=hwq hk1 hL1
           rw [if_pos hL1,if_pos (by omega),if_pos (by omega),if_pos (by omega),if_pos ⟨h46,hhead.mpr ⟨hk1,hL1⟩⟩]
           rw [tok1 _ _ _ (by omega) (by omega)]
           rfl
          ·rw [if_neg hL1,if_neg (show ¬ (b=46∧∃ d∈(s.drop (k+1)).head?,isL d=true) from fun h=>hL1 (hhead.mp h.2).2)]
           exact sgn
         ·rw [if_neg (by omega),if_neg (show ¬ (b=46∧∃ d∈(s.drop (k+1)).head?,isL d=true) from fun h=>hk1 (hhead.mp h.2).1)]
          exact sgn
        ·rw [if_neg (fun h=>h46 (b46.mp h)),if_neg (show ¬ (b=46∧∃ d∈(s.drop (k+1)).head?,isL d=true) from fun h=>h46 h.1)]
         exact sgn
  ·have:k=s.length:=by omega
   subst this
   rw [Zah.l3]
   simp only [dt]
   rw [if_neg (by omega),List.drop_length,lineR_nil]
   simp [lineOut]
theorem rline_eq (s:Str) (hs:s.length≤1000000):Zah.g s=some (lineOut [] (lineR 0 s)):=by
 unfold Zah.g Zah.f
 have:=rline_loop s hs (1000+s.length) (1000+s.length) 0 [] (by omega) (by omega) (by simp)
 simpa using this
end Rv
namespace Rv
open Go
def linesFrom (pre:Str):Str→List Str
 | []=>if pre=[] then [] else [pre]
 | b::s=>match linesR (b::s) with
  | []=>[]
  | l::r=>(pre++l)::r
theorem lines_ne:∀ {b:UInt8} {s:Str},linesR (b::s)≠[]
 | b,s=>by
  rw [linesR]
  split
  ·simp
  ·split <;> simp
theorem lf_nil (pre:Str):linesFrom pre []=if pre=[] then [] else [pre]:=rfl
theorem lf_nl (pre s:Str):linesFrom pre (10::s)=pre::linesR s:=by
 rw [linesFrom,linesR,if_pos rfl]
 dsimp only
 rw [List.append_nil]
theorem lf_cons (pre s:Str) {b:UInt8} (h:b≠10):linesFrom pre (b::s)=linesFrom (pre++[b]) s:=by
 cases s with
 | nil=>
  rw [linesFrom,linesFrom,linesR,if_neg h,if_neg (by simp)]
  rfl
 | cons c s=>
  rw [linesFrom,linesFrom,linesR,if_neg h]
  cases hl:linesR (c::s) with
  | nil=>exact absurd hl lines_ne
  | cons l r=>dsimp only; rw [List.append_assoc]; rfl
theorem lf_zero (s:Str):linesFrom [] s=linesR s:=by
 cases s with
 | nil=>rfl
 | cons b s=>
  rw [linesFrom]
  cases hl:linesR (b::s) with
  | nil=>exact absurd hl lines_ne
  | cons l r=>rfl
theorem rlines_loop (s:Str) (hs:s.length≤1000000) (n:Nat):∀ (m c d:Nat) (out:List Str),c≤d→d≤s.length→s.length - d < m→out.length≤d →
  Zbu.l4 n m s out (c:Int) (d:Int)=some (out++linesFrom ((s.take d).drop c) (s.drop d),()):=by
 intro m
 induction m with
 | zero=>intro c d _ _ _ h; omega
 | succ m ih=>
  intro c d out hc hd hm ho
  rw [Zbu.l4]
  unfold Zbu.j5
  simp only [dt,Int.toNat_natCast]
  by_cases h:d < s.length
  ·have W1:IntKind.i64.wrap ((d:Int)+1)=((d+1:Nat):Int):=by rw [w64 (by omega)]; omega
   have hdr:s.drop d=s.getD d 0::s.drop (d+1):=by
    rw [List.drop_eq_getElem_cons h,List.getD_eq_getElem?_getD,List.getElem?_eq_getElem h]; rfl
   have hb:bt s (d:Int)=((s.getD d 0).toNat:Int):=by rw [bt_nat]
   have h10:(((s.getD d 0).toNat:Int)=10)=(s.getD d 0=10):=byte_is _ 10 (by omega)
   rw [if_pos (by omega),if_pos (by omega),W1,hb,hdr]
   by_cases e:s.getD d 0=10
   ·rw [if_pos (h10.mpr e),if_pos (by omega),if_pos (by omega),if_pos (by simp; omega),ih (d+1) (d+1) _ (by omega) (by omega) (by omega) (by simp; omega),e,lf_nl]
    have:(s.take (d+1)).drop (d+1)=[]:=List.drop_eq_nil_of_le (by rw [List.length_take]; omega)
    rw [this,lf_zero,List.append_assoc]; rfl
   ·rw [if_neg (fun g=>e (h10.mp g)),ih c (d+1) out (by omega) (by omega) (by omega) (by omega),lf_cons _ _ e]
    have:(s.take (d+1)).drop c=(s.take d).drop c++[s.getD d 0]:=by
     rw [List.take_add_one,List.getElem?_eq_getElem h,List.drop_append_of_le_length (by rw [List.length_take]; omega),List.getD_eq_getElem?_getD,List.getElem?_eq_getElem h]
     rfl
    rw [this]
  ·obtain rfl:d=s.length:=by omega
   rw [if_neg (by omega),List.take_length,List.drop_length,lf_nil]
   by_cases e:c < s.length
   ·rw [if_pos (by omega),if_pos (by omega),if_pos (by simp; omega),if_neg (fun g=>by rw [List.drop_eq_nil_iff] at g; omega)]
   ·rw [if_neg (by omega),if_pos (List.drop_eq_nil_of_le (by omega)),List.append_nil]
theorem rlines_eq (s:Str) (hs:s.length≤1000000):Zbu.g s=some (linesR s,()):=by
 unfold Zbu.g Zbu.f
 have:=rlines_loop s hs (1000+s.length) (1000+s.length) 0 0 [] (by omega) (by omega) (by omega) (by simp)
 rw [show ((0:Nat):Int)=0 from rfl] at this
 have e:(s.take 0).drop 0=[]:=rfl
 rw [this,e,List.drop_zero,lf_zero]
 rfl
theorem rone_parse (s:Str) (hs:s.length≤100000):Zan.g (lineOut [] (lineR 0 s)).1=some (parseS (lineOut [] (lineR 0 s)).1):=by
 refine rparseS_eq (toks_small (by omega)) fun t ht=>?_
 have h:∀ t∈(lineOut [] (lineR 0 s)).1,t.2.2.1.length≤s.length:=by
  cases h:lineR 0 s with
  | error e=>intro t ht; cases ht
  | ok l=>
   intro t ht
   have ht:t∈l:=by simpa [lineOut] using ht
   exact lineR_text s.length 0 s l (Nat.le_refl _) h t ht
 exact Nat.le_trans (h t ht) hs
theorem reach_loop (l:List Str) (hl:l.length≤1000000) (hs:∀ s∈l,s.length≤100000) (n:Nat):∀ (m i:Nat) (out:List Ln),i≤l.length→l.length - i < m→out.length=i →
  Zcq.l8 n m l out (i:Int)=some (outE out (eachR i (l.drop i))):=by
 intro m
 induction m with
 | zero=>intro i out _ h; omega
 | succ m ih=>
  intro i out hi hm ho
  rw [Zcq.l8]
  simp only [dt,Int.toNat_natCast]
  by_cases h:i < l.length
  ·have hd:l.drop i=l.getD i []::l.drop (i+1):=by
    rw [List.drop_eq_getElem_cons h,List.getD_eq_getElem?_getD,List.getElem?_eq_getElem h]; rfl
   have hg:l.getD i []∈l:=by rw [List.getD_eq_getElem?_getD,List.getElem?_eq_getElem h]; exact List.getElem_mem h
   have W1:IntKind.i64.wrap ((i:Int)+1)=((i+1:Nat):Int):=by rw [w64 (by omega)]; omega
   have hx:=hs _ hg
   generalize l.getD i []=x at hd hx ⊢
   have hp:=rone_parse x hx
   have hone:oneR x=if (lineOut [] (lineR 0 x)).2.1≠0 then noP (lineOut [] (lineR 0 x)).2.1 else parseS (lineOut [] (lineR 0 x)).1:=rfl
   rw [if_pos (by omega),if_pos (by omega),rline_eq x (by omega),Option.bind_some,hd,eachR,W1]
   generalize lineOut [] (lineR 0 x)=y at hp hone ⊢
   by_cases hy:y.2.1≠0
   ·rw [if_pos hy] at hone
    rw [if_pos hy,hone,if_pos (show errP (noP y.2.1)≠0 from hy)]; rfl
   ·rw [if_neg hy] at hone
    rw [if_neg hy,hp,Option.bind_some,hone]
    generalize parseS y.1=q
    by_cases he:errP q≠0
    ·rw [if_pos he,if_pos he]; rfl
    ·rw [if_neg he,if_neg he,if_pos (by simp; omega),ih (i+1) _ (by omega) (by omega) (by simp [ho])]
     cases eachR (i+1) (l.drop (i+1)) with
     | error x=>rfl
     | ok r=>show some (_++r,_)=some (_++_,_); rw [List.append_assoc]; rfl
  ·obtain rfl:i=l.length:=by omega
   rw [if_neg (by omega),List.drop_length,eachR]
   simp [outE]
theorem rparseT_eq (s:Str) (hs:s.length≤100000):Zcq.g s=some (parseT s):=by
 unfold Zcq.g Zcq.f parseT
 obtain ⟨g1,g2⟩:=lines_le s
 rw [if_neg (by simp; omega),if_neg (by omega),rlines_eq s (by omega),Option.bind_some]
 dsimp only
 by_cases h:4096 < (linesR s).length
 ·rw [if_pos (by simp; omega),if_pos h]
 ·rw [if_neg (by simp; omega),if_neg h]
  have:=reach_loop (linesR s) (by omega) (fun x hx=>Nat.le_trans (g2 x hx) hs) (1000+s.length) (1000+s.length) 0 [] (by omega) (by omega) rfl
  rw [List.drop_zero] at this
  exact this
abbrev smL (x:Ln):Sm:=⟨x.2.1.1,x.2.1.2.1,x.2.1.2.2.1,x.2.1.2.2.2.1,x.2.1.2.2.2.2.1,x.2.1.2.2.2.2.2.1,x.2.1.2.2.2.2.2.2.1,x.2.1.2.2.2.2.2.2.2.1⟩
def sameL (x:Ln):Prop:=∃ p:Str×Int,printG x.1 (smL x)=some (p.1,p.2,())∧rprintG x.1 (smL x)=some (p.1,p.2,())∧p.1.length≤5000
def prE (P:Ln→Str×Int):Nat→List Ln→Except (Nat×Int) (List Str)
 | _,[]=>.ok []
 | i,x::r=>if (P x).2≠0 then .error (i+1,(P x).2) else match prE P (i+1) r with
  | .error e=>.error e
  | .ok l=>.ok ((P x).1::l)
def outS (out:List Str):Except (Nat×Int) (List Str)→List Str×Int×Int×Unit
 | .ok l=>(out++l,0,0,())
 | .error x=>([],(x.1:Int),x.2,())
def outT (out:Str):Except (Nat×Int) (List Str)→Str×Int×Int×Unit
 | .ok l=>(out++(l.map (·++[10])).flatten,0,0,())
 | .error x=>([],(x.1:Int),x.2,())
section
variable {P:Ln→Str×Int} {l:List Ln} (hl:l.length≤4096)
 (hP:∀ x∈l,printG x.1 (smL x)=some ((P x).1,(P x).2,())∧rprintG x.1 (smL x)=some ((P x).1,(P x).2,())∧(P x).1.length≤5000)
include hl hP
theorem print_loop (n:Nat):∀ (m i:Nat) (out:List Str),i≤l.length→l.length - i < m→out.length=i →
  Zdb.l5 n m out l (l.length:Int) (i:Int)=some (outS out (prE P i (l.drop i))):=by
 intro m
 induction m with
 | zero=>intro i out _ h; omega
 | succ m ih=>
  intro i out hi hm ho
  rw [Zdb.l5]
  simp only [dt,Int.toNat_natCast]
  by_cases h:i < l.length
  ·have hd:l.drop i=l.getD i zL::l.drop (i+1):=by
    rw [List.drop_eq_getElem_cons h,List.getD_eq_getElem?_getD,List.getElem?_eq_getElem h]; rfl
   have hg:l.getD i zL∈l:=by rw [List.getD_eq_getElem?_getD,List.getElem?_eq_getElem h]; exact List.getElem_mem h
   have W1:IntKind.i64.wrap ((i:Int)+1)=((i+1:Nat):Int):=by rw [w64 (by omega)]; omega
   have hx:=(hP _ hg).1
   generalize l.getD i zL=x at hd hx ⊢
   have hp1:Zee.g x.1 x.2.1.1 x.2.1.2.1 x.2.1.2.2.1 x.2.1.2.2.2.1 x.2.1.2.2.2.2.1 x.2.1.2.2.2.2.2.1 x.2.1.2.2.2.2.2.2.1 x.2.1.2.2.2.2.2.2.2.1=some ((P x).1,(P x).2,()):=by
    unfold Zee.g Zee.f
    rw [show Zad.g x.1 x.2.1.1 x.2.1.2.1 x.2.1.2.2.1 x.2.1.2.2.2.1 x.2.1.2.2.2.2.1 x.2.1.2.2.2.2.2.1 x.2.1.2.2.2.2.2.2.1 x.2.1.2.2.2.2.2.2.2.1=some ((P x).1,(P x).2,()) from hx,Option.bind_some]
   rw [if_pos (by omega),if_pos (by omega),hp1,Option.bind_some,hd,prE,W1]
   dsimp only
   by_cases he:(P x).2≠0
   ·rw [if_pos he,if_pos he]; rfl
   ·rw [if_neg he,if_neg he,if_pos (by simp; omega),ih (i+1) _ (by omega) (by omega) (by simp [ho])]
    cases prE P (i+1) (l.drop (i+1)) with
    | error x=>rfl
    | ok r=>show some (_++r,_)=some (_++_,_); rw [List.append_assoc]; rfl
  ·obtain rfl:i=l.length:=by omega
   rw [if_neg (by omega),List.drop_length,prE]
   simp [outS]
theorem rprint_loop18 (n:Nat):∀ (m i:Nat) (out:Str),i≤l.length→l.length - i < m→out.length≤5001 * i →
  Zcr.l5 n m l out (i:Int)=some (outT out (prE P i (l.drop i))):=by
 intro m
 induction m with
 | zero=>intro i out _ h; omega
 | succ m ih=>
  intro i out hi hm ho
  rw [Zcr.l5]
  simp only [dt,Int.toNat_natCast]
  by_cases h:i < l.length
  ·have hd:l.drop i=l.getD i zL::l.drop (i+1):=by
    rw [List.drop_eq_getElem_cons h,List.getD_eq_getElem?_getD,List.getElem?_eq_getElem h]; rfl
   have hg:l.getD i zL∈l:=by rw [List.getD_eq_getElem?_getD,List.getElem?_eq_getElem h]; exact List.getElem_mem h
   have W1:IntKind.i64.wrap ((i:Int)+1)=((i+1:Nat):Int):=by rw [w64 (by omega)]; omega
   obtain ⟨_,hx,hx5⟩:=hP _ hg
   generalize l.getD i zL=x at hd hx hx5 ⊢
   have hp1:Zao.g x.1 x.2.1.1 x.2.1.2.1 x.2.1.2.2.1 x.2.1.2.2.2.1 x.2.1.2.2.2.2.1 x.2.1.2.2.2.2.2.1 x.2.1.2.2.2.2.2.2.1 x.2.1.2.2.2.2.2.2.2.1=some ((P x).1,(P x).2,()):=hx
   rw [if_pos (by omega),if_pos (by omega),if_pos (by omega),hp1,Option.bind_some,hd,prE,W1]
   dsimp only
   by_cases he:(P x).2≠0
   ·rw [if_pos he,if_pos he]; rfl
   ·rw [if_neg he,if_neg he,if_pos (by omega),if_pos (by simp; omega),ih (i+1) _ (by omega) (by omega) (by simp; omega)]
    cases prE P (i+1) (l.drop (i+1)) with
    | error x=>rfl
    | ok r=>show some (_++_,_)=some (_++_,_); simp
  ·obtain rfl:i=l.length:=by omega
   rw [if_neg (by omega),List.drop_length,prE]
   simp [outT]
end
theorem prE_len {P:Ln→Str×Int}:∀ (l:List Ln) (i:Nat) (r:List Str),(∀ x∈l,(P x).1.length≤5000)→prE P i l=.ok r→r.length=l.length∧((r.map (·++[10])).flatten).length≤5001 * l.length
 | [],i,r,_,h=>by rw [prE] at h; cases h; simp
 | x::l,i,r,hx,h=>by
  rw [prE] at h
  split at h
  ·cases h
  ·cases hr:prE P (i+1) l with
   | error e=>rw [hr] at h; cases h
   | ok q=>
    rw [hr] at h; cases h
    obtain ⟨h1,h2⟩:=prE_len l (i+1) q (fun y hy=>hx y (List.mem_cons_of_mem _ hy)) hr
    have:=hx x (List.mem_cons_self ..)
    refine ⟨by simp [h1],?_⟩
    rw [List.map_cons,List.flatten_cons,List.length_append,List.length_append,List.length_singleton,List.length_cons]
    omega
theorem sjoin_nl2:∀ (l:List Str),L.sjoinR [10] (l++[[]])=(l.map (·++[10])).flatten
 | []=>rfl
 | x::l=>by
  have ih:∀ m:List Str,((m++[[]]).map (([10]:Str)++·)).flatten=[10]++(m.map (·++[10])).flatten:=by
   intro m
   induction m with
   | nil=>rfl
   | cons y m ih=>rw [List.cons_append,List.map_cons,List.flatten_cons,ih,List.map_cons,List.flatten_cons]; simp
  show x++((l++[[]]).map (([10]:Str)++·)).flatten=(x++[10])++(l.map (·++[10])).flatten
  rw [ih]; simp
theorem prE_err {P:Ln→Str×Int}:∀ (l:List Ln) (i:Nat) (e:Nat×Int),prE P i l=.error e→e.2≠0
 | [],i,r,h=>by rw [prE] at h; cases h
 | x::l,i,r,h=>by
  rw [prE] at h
  split at h
  ·rename_i g; cases h; exact g
  ·cases hr:prE P (i+1) l with
   | error e=>rw [hr] at h; cases h; exact prE_err l _ _ hr
   | ok q=>rw [hr] at h; cases h
theorem prints_same (l:List Ln) (hl:l.length≤4096) (h:∀ x∈l,sameL x):∃ r,Zef.g l=some r∧Zcr.g l=some r:=by
 have hP:∃ P:Ln→Str×Int,∀ x∈l,printG x.1 (smL x)=some ((P x).1,(P x).2,())∧rprintG x.1 (smL x)=some ((P x).1,(P x).2,())∧(P x).1.length≤5000:=
  ⟨fun x=>(((printG x.1 (smL x)).getD ([],0,())).1,((printG x.1 (smL x)).getD ([],0,())).2.1),fun x hx=>by
   obtain ⟨p,h1,h2,h3⟩:=h x hx
   show printG x.1 (smL x)=some (((printG x.1 (smL x)).getD ([],0,())).1,((printG x.1 (smL x)).getD ([],0,())).2.1,())∧rprintG x.1 (smL x)=some (((printG x.1 (smL x)).getD ([],0,())).1,((printG x.1 (smL x)).getD ([],0,())).2.1,())∧(((printG x.1 (smL x)).getD ([],0,())).1).length≤5000
   rw [h1]
   exact ⟨rfl,h2,h3⟩⟩
 obtain ⟨P,hP⟩:=hP
 have h1:=print_loop hl hP (1000+l.length) (1000+l.length) 0 [] (by omega) (by omega) rfl
 have h2:=rprint_loop18 hl hP (1000+l.length) (1000+l.length) 0 [] (by omega) (by omega) (by simp)
 rw [show ((0:Nat):Int)=0 from rfl,List.drop_zero] at h1 h2
 refine ⟨outT [] (prE P 0 l),?_,?_⟩
 ·unfold Zef.g Zef.f Zdb.g Zdb.f
  rw [if_neg (by simp; omega),h1,Option.bind_some]
  cases hr:prE P 0 l with
  | error e=>
   have:=prE_err _ _ _ hr
   unfold outS outT
   dsimp only
   rw [if_pos (by simpa using this)]
  | ok r=>
   obtain ⟨g1,g2⟩:=prE_len l 0 r (fun x hx=>(hP x hx).2.2) hr
   have hm:5001 * l.length≤5001 * 4096:=Nat.mul_le_mul_left _ hl
   unfold outS outT
   dsimp only
   rw [if_neg (show ¬ decide ((0:Int)≠0)=true by decide),if_pos (by simp; omega)]
   unfold L.sjoinO
   rw [List.nil_append,sjoin_nl2,if_pos ⟨by omega,by simp; omega⟩,Option.bind_some,List.nil_append]
 ·unfold Zcr.g Zcr.f
  rw [if_neg (by simp; omega),h2]
end Rv
namespace Rv
open Go
def smI (x:Item):Prop:=(0≤x.2.1∧x.2.1≤4294967295)∧x.2.2.1.length≤20
def smLn (x:Ln):Prop:=x.1.length≤20∧(smL x).e.length≤20∧(∀ y∈(smL x).e,smI y)∧(smL x).nm.length≤20
theorem small_same {x:Ln} (h:smLn x):sameL x:=
 print_same (by have:=h.1; omega) (by have:=h.2.1; omega) (fun y hy=>⟨(h.2.2.1 y hy).1,by have:=(h.2.2.1 y hy).2; omega⟩) (by have:=h.2.2.2; omega)
theorem mn20 (n:Nat):mn (n:Int) 20=((min n 20:Nat):Int):=by unfold mn; split <;> omega
theorem take20 (s:Str):((s.take (min s.length 20)).drop 0).length≤20:=by rw [List.drop_zero,List.length_take]; omega
theorem short_items (a b:List Ln) (c:Int) (lb:Str) (k o A B C:Int) (u:Bool) (e:List Item) (nm:Str) (he:∀ x∈e,0≤x.2.1∧x.2.1≤4294967295) (n:Nat) (rl):∀ (m i:Nat) (d:List Item),i≤20→20 - i < m→d.length=i→(∀ x∈d,smI x) →
  ∃ r,Zay.l10 n rl m a b c d (i:Int) lb k o A B C u e nm=Zay.j15 n rl a b c r lb k o A B C u e nm∧r.length≤20∧∀ x∈r,smI x:=by
 intro m
 induction m with
 | zero=>intro i d _ h; omega
 | succ m ih=>
  intro i d hi hm hd hs
  rw [Zay.l10]
  simp only [dt,Int.toNat_natCast]
  by_cases h:i < e.length
  ·rw [if_pos (by omega)]
   by_cases h2:i < 20
   ·have hg:e.getD i zI∈e:=by rw [List.getD_eq_getElem?_getD,List.getElem?_eq_getElem h]; exact List.getElem_mem h
    have hr:=he _ hg
    generalize e.getD i zI=x at hr ⊢
    have W1:IntKind.i64.wrap ((i:Int)+1)=((i+1:Nat):Int):=by rw [w64 (by omega)]; omega
    rw [if_pos (by omega),if_pos (by omega),mn20,Int.toNat_natCast,if_pos (by omega),if_pos (by simp; omega),W1]
    refine ih (i+1) _ (by omega) (by omega) (by simp [hd]) fun y hy=>?_
    rcases List.mem_append.1 hy with g | g
    ·exact hs y g
    ·rw [List.mem_singleton.1 g]
     exact ⟨hr,take20 _⟩
   ·rw [if_neg (by omega)]
    exact ⟨d,rfl,by omega,hs⟩
  ·rw [if_neg (by omega)]
   exact ⟨d,rfl,by omega,hs⟩
theorem short_loop (a:List Ln) (ha:∀ x∈a,∀ y∈(smL x).e,0≤y.2.1∧y.2.1≤4294967295) (n:Nat) (hn:100≤n):∀ (m i:Nat) (out:List Ln),i≤20→20 - i < m→out.length=i→(∀ x∈out,smLn x) →
  ∃ r,Zay.l3 n m a out (i:Int)=some (r,())∧r.length≤20∧∀ x∈r,smLn x:=by
 intro m
 induction m with
 | zero=>intro i out _ h; omega
 | succ m ih=>
  intro i out hi hm ho hs
  rw [Zay.l3]
  simp only [dt,Int.toNat_natCast]
  by_cases h:i < a.length
  ·rw [if_pos (by omega)]
   by_cases h2:i < 20
   ·have hg:a.getD i zL∈a:=by rw [List.getD_eq_getElem?_getD,List.getElem?_eq_getElem h]; exact List.getElem_mem h
    have hr:=ha _ hg
    generalize a.getD i zL=x at hr ⊢
    have W1:IntKind.i64.wrap ((i:Int)+1)=((i+1:Nat):Int):=by rw [w64 (by omega)]; omega
    rw [if_pos (by omega),if_pos (by omega),mn20,Int.toNat_natCast,if_pos (by omega),mn20,Int.toNat_natCast,if_pos (by omega)]
    obtain ⟨r,h1,h3,h4⟩:=short_items a out (i:Int) ((x.1.take (min x.1.length 20)).drop 0) x.2.1.1 x.2.1.2.1 x.2.1.2.2.1 x.2.1.2.2.2.1 x.2.1.2.2.2.2.1 x.2.1.2.2.2.2.2.1 x.2.1.2.2.2.2.2.2.1 ((x.2.1.2.2.2.2.2.2.2.1.take (min x.2.1.2.2.2.2.2.2.2.1.length 20)).drop 0) hr n (Zay.l3 n m) n 0 [] (by omega) (by omega) rfl (fun y hy=>by cases hy)
    rw [show ((0:Nat):Int)=0 from rfl] at h1
    rw [h1]
    unfold Zay.j15
    rw [if_pos (by simp; omega),W1]
    refine ih (i+1) _ (by omega) (by omega) (by simp [ho]) fun y hy=>?_
    rcases List.mem_append.1 hy with g | g
    ·exact hs y g
    ·rw [List.mem_singleton.1 g]
     exact ⟨take20 _,h3,h4,take20 _⟩
   ·rw [if_neg (by omega)]
    exact ⟨out,rfl,by omega,hs⟩
  ·rw [if_neg (by omega)]
   exact ⟨out,rfl,by omega,hs⟩
theorem short_eq (a:List Ln) (ha:∀ x∈a,∀ y∈(smL x).e,0≤y.2.1∧y.2.1≤4294967295):∃ r,Zay.g a=some (r,())∧r.length≤20∧∀ x∈r,smLn x:=by
 unfold Zay.g Zay.f
 exact short_loop a ha _ (by omega) _ 0 [] (by omega) (by omega) rfl fun x hx=>by cases hx
theorem parse_same (s:Str) (hs:s.length≤4096):Zch.g (parseT s).1 (parseT s).1=some (true,()):=by
 rw [parseT_small hs]
 have hl:=(lines_le s).1
 cases h:eachR 0 (linesR s) with
 | error e=>exact same18_refl [] (by simp) fun x hx=>by cases hx
 | ok l=>
  have:=each_len _ _ _ h
  exact same18_refl ([]++l) (by rw [List.nil_append]; omega) (by rw [List.nil_append]; exact each_short _ _ _ h)
abbrev wfE1 (l:List Item):Prop:=l.length≤maxLen∧∀ x∈l,(Lit.int .i64 x.1).wf=true∧(Lit.int .u32 x.2.1).wf=true∧x.2.2.1.length≤maxLen∧True
abbrev wfLn1 (x:Ln):Prop:=x.1.length≤maxLen∧((Lit.int .i64 x.2.1.1).wf=true∧(Lit.int .i64 x.2.1.2.1).wf=true∧(Lit.int .i64 x.2.1.2.2.1).wf=true∧(Lit.int .i64 x.2.1.2.2.2.1).wf=true∧(Lit.int .i64 x.2.1.2.2.2.2.1).wf=true∧True∧wfE1 x.2.1.2.2.2.2.2.2.1∧x.2.1.2.2.2.2.2.2.2.1.length≤maxLen∧True)∧True
theorem xall_wf {a:Str} {b:List Ln} (h:a.length≤maxLen∧(b.length≤maxLen∧∀ x∈b,wfLn1 x)∧True):rivetlaw18_TextAll.g a b=some (true,()):=by
 obtain ⟨r,hr,h20,hsm⟩:=short_eq b fun x hx y hy=>wfU32 ((h.2.1.2 x hx).2.1.2.2.2.2.2.2.1.2 y hy).2.1
 obtain ⟨p,hp1,hp2⟩:=prints_same r (by omega) fun x hx=>small_same (hsm x hx)
 have hl:(a.take 500).length≤500:=by rw [List.length_take]; omega
 unfold rivetlaw18_TextAll.g rivetlaw18_TextAll.f
 rw [shown18,Option.bind_some,few18 a (wfLen h.1),Option.bind_some]
 dsimp only
 rw [parseT_eq _ (by omega),Option.bind_some,Option.bind_some]
 dsimp only
 rw [rparseT_eq _ (by omega),Option.bind_some,hr,Option.bind_some]
 dsimp only
 rw [hp1,Option.bind_some,Option.bind_some,hp2,Option.bind_some,if_pos rfl,parse_same _ (by omega),Option.bind_some]
 simp
end Rv
