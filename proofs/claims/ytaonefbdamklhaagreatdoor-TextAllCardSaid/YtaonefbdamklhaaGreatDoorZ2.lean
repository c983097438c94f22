/- Texts put together. -/
import Derived.Test.YtaonefbdamklhaaGreatDoorC1
import Derived.Test.YtaonefbdamklhaaGreatDoorZ1
import Derived.Test.YtaonefbdamklhaaGreatDoorC6
import Derived.IntWalk
set_option linter.all false
namespace Rv
open Go
set_option maxRecDepth 100000
namespace Zem
def f (n:Nat):Option (Bool×Unit):=
  (Zbx.g ([97,58,32,77,79,86,32,82,49,44,32,49,10,66,32,43]:Str)).bind fun y1=>
  (Zbx.g ([97,58,32,77,79,86,32,82,49,44,32,49,10,10]:Str)).bind fun y2=>
  if (decide (y1.2.1=(2:Int))) then
  (if (decide (y1.2.2.1=(23:Int))) then
  (if (decide ((y2.1.length:Int)=(2:Int))) then
  (if (decide (y2.2.1=(0:Int))) then (some ((decide (y2.2.2.1=(0:Int))),()))
  else (some (false,())))
  else (some (false,())))
  else (some (false,())))
  else (some (false,()))
def g:Option (Bool×Unit):=f (1000)
end Zem
namespace Zdp
def f (n:Nat) (a:Str):Option (Str×Unit):=
  if 0≤(mn (a.length:Int) (500:Int))∧(mn (a.length:Int) (500:Int))≤(a.length:Int) then
  (some (((a.take (((mn (a.length:Int) (500:Int))).toNat)).drop 0),())) else none
def g (a:Str):Option (Str×Unit):=f (1000+a.length) a
end Zdp
namespace Zay
def j15 (n:Nat) (rl3:(List Ln)→(List Ln)→Int→Option ((List Ln)×Unit)) (a:List Ln) (b:List Ln) (c:Int) (d:List It) (e:Str) (i:Int) (j:Int) (k:Int) (l:Int) (o:Int) (p:Bool) (q:List It) (r:Str):Option ((List Ln)×Unit):=
  if (b.length+([(e,(i,j,k,l,o,p,d,r,()),())]:List Ln).length) * 104≤140737488355328∧0 < 104∧0 < 9 then
  (rl3 a (b++([(e,(i,j,k,l,o,p,d,r,()),())]:List Ln)) (IntKind.i64.wrap (c+(1:Int)))) else none
def l10 (n:Nat) (rl3:(List Ln)→(List Ln)→Int→Option ((List Ln)×Unit)):Nat→(List Ln)→(List Ln)→Int→(List It)→Int→Str→Int→Int→Int→Int→Int→Bool→(List It)→Str→Option ((List Ln)×Unit)
 | 0,_,_,_,_,_,_,_,_,_,_,_,_,_,_=>none
 | m+1,a,b,c,d,e,i,j,k,l,o,p,q,r,s=>
  if (decide (e < (r.length:Int))) then
  (if (decide (e < (20:Int))) then
  (if 0≤e∧e < (r.length:Int) then
  (if 0≤(mn (((((r.getD (e).toNat zI).2).2).1).length:Int) (20:Int))∧(mn (((((r.getD (e).toNat zI).2).2).1).length:Int) (20:Int))≤(((((r.getD (e).toNat zI).2).2).1).length:Int) then
  (if (d.length+([((r.getD (e).toNat zI).1,((r.getD (e).toNat zI).2).1,((((((r.getD (e).toNat zI).2).2).1).take (((mn (((((r.getD (e).toNat zI).2).2).1).length:Int) (20:Int))).toNat)).drop 0),())]:List It).length) * 32≤140737488355328∧0 < 32∧0 < 3 then
  ((Zay.l10 n rl3 m) a b c (d++([((r.getD (e).toNat zI).1,((r.getD (e).toNat zI).2).1,((((((r.getD (e).toNat zI).2).2).1).take (((mn (((((r.getD (e).toNat zI).2).2).1).length:Int) (20:Int))).toNat)).drop 0),())]:List It)) (IntKind.i64.wrap (e+(1:Int))) i j k l o p q r s) else none) else none) else none)
  else (Zay.j15 n rl3 a b c d i j k l o p q r s))
  else (Zay.j15 n rl3 a b c d i j k l o p q r s)
def l3 (n:Nat):Nat→(List Ln)→(List Ln)→Int→Option ((List Ln)×Unit)
 | 0,_,_,_=>none
 | m+1,a,b,c=>
  if (decide (c < (a.length:Int))) then
  (if (decide (c < (20:Int))) then
  (if 0≤c∧c < (a.length:Int) then
  (if 0≤(mn (((a.getD (c).toNat zL).1).length:Int) (20:Int))∧(mn (((a.getD (c).toNat zL).1).length:Int) (20:Int))≤(((a.getD (c).toNat zL).1).length:Int) then
  (if 0≤(mn ((((((((((((a.getD (c).toNat zL).2).1).2).2).2).2).2).2).2).1).length:Int) (20:Int))∧(mn ((((((((((((a.getD (c).toNat zL).2).1).2).2).2).2).2).2).2).1).length:Int) (20:Int))≤((((((((((((a.getD (c).toNat zL).2).1).2).2).2).2).2).2).2).1).length:Int) then
  (Zay.l10 n (Zay.l3 n m) n a b c ([]:List It) (0:Int) ((((a.getD (c).toNat zL).1).take (((mn (((a.getD (c).toNat zL).1).length:Int) (20:Int))).toNat)).drop 0) ((((a.getD (c).toNat zL).2).1).1) (((((a.getD (c).toNat zL).2).1).2).1) ((((((a.getD (c).toNat zL).2).1).2).2).1) (((((((a.getD (c).toNat zL).2).1).2).2).2).1) ((((((((a.getD (c).toNat zL).2).1).2).2).2).2).1) (((((((((a.getD (c).toNat zL).2).1).2).2).2).2).2).1) ((((((((((a.getD (c).toNat zL).2).1).2).2).2).2).2).2).1) (((((((((((((a.getD (c).toNat zL).2).1).2).2).2).2).2).2).2).1).take (((mn ((((((((((((a.getD (c).toNat zL).2).1).2).2).2).2).2).2).2).1).length:Int) (20:Int))).toNat)).drop 0)) else none) else none) else none)
  else (some (b,())))
  else (some (b,()))
def f (n:Nat) (a:List Ln):Option ((List Ln)×Unit):=
  Zay.l3 n n a ([]:List Ln) (0:Int)
def g (a:List Ln):Option ((List Ln)×Unit):=f (1000+a.length) a
end Zay
namespace rivetlaw18_TextAll
def f (n:Nat) (a:Str) (b:List Ln):Option (Bool×Unit):=
  (Zem.g).bind fun y1=>
  (Zdp.g a).bind fun y2=>
  (Zbx.g y2.1).bind fun y3=>
  (Zdp.g a).bind fun y4=>
  (Zcq.g y4.1).bind fun y5=>
  (Zay.g b).bind fun y6=>
  (Zef.g y6.1).bind fun y7=>
  (Zay.g b).bind fun y8=>
  (Zcr.g y8.1).bind fun y9=>
  if y1.1 then
  ((Zch.g y3.1 y5.1).bind fun y10=>
  if y10.1 then
  (if (decide (y3.2.1=y5.2.1)) then
  (if (decide (y3.2.2.1=y5.2.2.1)) then
  (if (decide (y7.1=y9.1)) then
  (if (decide (y7.2.1=y9.2.1)) then (some ((decide (y7.2.2.1=y9.2.2.1)),()))
  else (some (false,())))
  else (some (false,())))
  else (some (false,())))
  else (some (false,())))
  else (some (false,())))
  else (some (false,()))
def g (a:Str) (b:List Ln):Option (Bool×Unit):=f (1000+a.length+b.length) a b
end rivetlaw18_TextAll
end Rv
namespace Rv
open Go Go.Proofs
noncomputable section
set_option maxRecDepth 100000
set_option maxHeartbeats 2000000
variable {ad:LQ}
abbrev u0:Ty:=.pair (.int .i64) (.pair (.int .i64) (.pair .str (.pair (.int .u32) .nil)))
abbrev u1:Ty:=.pair (.int .i64) (.pair (.int .u32) (.pair .str .nil))
abbrev u2:Ty:=.pair .str (.pair (.pair (.int .i64) (.pair (.int .i64) (.pair (.int .i64) (.pair (.int .i64) (.pair (.int .i64) (.pair .bool (.pair (.sl (.pair (.int .i64) (.pair (.int .u32) (.pair .str .nil)))) (.pair .str .nil)))))))) .nil)
abbrev u3:Ty:=.pair (.int .i64) (.pair (.int .i64) (.pair (.int .i64) .nil))
abbrev u4:Ty:=.pair .str (.pair (.int .i64) .nil)
abbrev u5:Ty:=.pair .fn (.pair .fn .nil)
abbrev u6:Ty:=.pair (.int .i64) (.pair (.int .i64) (.pair (.int .i64) (.pair (.int .i64) (.pair (.int .i64) (.pair .bool (.pair (.sl (.pair (.int .i64) (.pair (.int .u32) (.pair .str .nil)))) (.pair .str .nil)))))))
abbrev u7:Ty:=.pair (.int .i64) (.pair (.int .i64) (.pair (.int .i64) (.pair (.int .i64) (.pair (.int .i64) (.pair (.int .i64) (.pair .bool .nil))))))
abbrev u8:Ty:=.pair (.sl (.pair (.int .i64) (.pair (.int .i64) (.pair .str (.pair (.int .u32) .nil))))) (.pair (.int .i64) (.pair (.int .i64) .nil))
abbrev u9:Ty:=.pair (.sl (.pair (.int .i64) (.pair (.int .i64) (.pair .str (.pair (.int .u32) .nil))))) (.pair (.int .i64) (.pair (.sl (.pair (.int .i64) (.pair (.int .u32) (.pair .str .nil)))) (.pair (.int .i64) .nil)))
abbrev c0:List CD:=[ki,ki,ki,ki,ki,.bool,.sl u1,.str]
abbrev c1:List CD:=[.sl u0,ki,.row 54 u1,ki]
abbrev c2:List CD:=[.str,ki,ki,ki,ki,ki,.bool,.sl u1,.str]
abbrev c3:List CD:=[ki,ki,ki,ki,ki,ki,.bool]
def types:List (TypeId×TI):=[
 tI 2 .i64 8,
 tI 3 .i64 8,
 tB 4 1,
 tI 5 .u8 1,
 tS 9 16,
 tI 21 .i32 4,
 tL 24 39 u2,
 tI 25 .i64 8,
 tL 30 48 u0,
 tL 33 54 u1,
 (35,⟨8,true,88,[.int .i64 0,.int .i64 0,.int .i64 0,.int .i64 0,.int .i64 0,.bool false,.nilS,.str []],[(0,1,false),(1,1,false),(2,1,false),(3,1,false),(4,1,false),(5,1,false),(6,1,false),(7,1,false)],none,some u6,none,false,false,false,none,none⟩),
 (39,⟨9,true,104,[.str [],.int .i64 0,.int .i64 0,.int .i64 0,.int .i64 0,.int .i64 0,.bool false,.nilS,.str []],[(0,1,false),(1,8,true)],none,some u2,none,false,false,false,none,none⟩),
 tL 40 5 (.int .u8),
 tI 46 .u32 4,
 (48,⟨4,true,40,[.int .i64 0,.int .i64 0,.str [],.int .u32 0],[(0,1,false),(1,1,false),(2,1,false),(3,1,false)],none,some u0,none,false,false,false,none,none⟩),
 (54,⟨3,true,32,[.int .i64 0,.int .u32 0,.str []],[(0,1,false),(1,1,false),(2,1,false)],none,some u1,none,false,false,false,some u1,none⟩),
 (57,⟨7,true,56,[.int .i64 0,.int .i64 0,.int .i64 0,.int .i64 0,.int .i64 0,.int .i64 0,.bool false],[(0,1,false),(1,1,false),(2,1,false),(3,1,false),(4,1,false),(5,1,false),(6,1,false)],none,some u7,none,false,false,false,some u7,none⟩),
 tL 66 9 .str,
 (76,⟨3,true,40,[.nilS,.int .i64 0,.int .i64 0],[(0,1,false),(1,1,false),(2,1,false)],none,some u8,none,false,false,false,none,none⟩),
 tL 82 90 u5,
 (87,⟨1,false,8,[.raw .nilFunc],[],none,some .fn,none,false,false,false,none,none⟩),
 (88,⟨1,false,8,[.raw .nilFunc],[],none,some .fn,none,false,false,false,none,none⟩),
 (90,⟨2,true,16,[.raw .nilFunc,.raw .nilFunc],[(0,1,false),(1,1,false)],none,some u5,none,false,false,false,none,none⟩),
 tI 106 .u64 8,
 (108,⟨1,false,16,[.raw .nilIface],[],none,none,none,false,true,false,none,none⟩),
 (118,⟨1,false,8,[.raw .nilFunc],[],none,some .fn,none,false,false,false,none,none⟩),
 (138,⟨3,true,40,[.nilS,.int .i64 0,.int .i64 0],[(0,1,false),(1,1,false),(2,1,false)],none,some u8,none,false,false,false,none,none⟩),
 tI 156 .u64 8,
 (158,⟨3,true,24,[.int .i64 0,.int .i64 0,.int .i64 0],[],none,some u3,none,false,false,false,none,some 3⟩),
 tI 168 .i64 8,
 (178,⟨1,false,8,[.raw (.pointer none)],[],none,none,none,false,false,false,none,none⟩),
 (180,⟨4,true,64,[.nilS,.int .i64 0,.nilS,.int .i64 0],[(0,1,false),(1,1,false),(2,1,false),(3,1,false)],none,some u9,none,false,false,false,none,none⟩),
 tL 181 183 u4,
 (183,⟨2,true,24,[.str [],.int .i64 0],[(0,1,false),(1,1,false)],none,some u4,none,false,false,false,none,none⟩),
 tL 191 158 u3,
 tL 197 3 (.int .i64),
 (220,⟨3,true,40,[.nilS,.int .i64 0,.int .i64 0],[(0,1,false),(1,1,false),(2,1,false)],none,some u8,none,false,false,false,none,none⟩)]
theorem types_ok:(types.all fun p=>checkTI P p.1 p.2)=true:=by kernel_rfl
def internal_strconv_underscoreOK.T (ad:LQ):TF P (LW ad):=⟨153,[],internal_strconv_underscoreOK.sp,internal_strconv_underscoreOK.sat,internal_strconv_underscoreOK.enter⟩
def strconv_toError.T (ad:LQ):TF P (LW ad):=⟨107,[],strconv_toError.sp,strconv_toError.sat,strconv_toError.enter⟩
def strings_CutPrefix.T (ad:LQ):TF P (LW ad):=⟨67,[],strings_CutPrefix.sp,strings_CutPrefix.sat,strings_CutPrefix.enter⟩
def strings_Contains.T (ad:LQ):TF P (LW ad):=⟨68,[],strings_Contains.sp,strings_Contains.sat,strings_Contains.enter⟩
def strings_IndexByte.T (ad:LQ):TF P (LW ad):=⟨40,[],strings_IndexByte.sp,strings_IndexByte.sat,strings_IndexByte.enter⟩
def strings_Trim.T (ad:LQ):TF P (LW ad):=⟨71,[],strings_Trim.sp,strings_Trim.sat,strings_Trim.enter⟩
def strconv_Itoa.T (ad:LQ):TF P (LW ad):=⟨87,[],strconv_Itoa.sp,strconv_Itoa.sat,strconv_Itoa.enter⟩
def name_Of.T (ad:LQ):TF P (LW ad):=⟨43,[],name_Of.sp,name_Of.sat,name_Of.enter⟩
def stmt_operands.T (ad:LQ):TF P (LW ad):=⟨45,[],stmt_operands.sp,stmt_operands.sat,stmt_operands.enter⟩
def strings_Split.T (ad:LQ):TF P (LW ad):=⟨33,[],strings_Split.sp,strings_Split.sat,strings_Split.enter⟩
def internal_strconv_FormatUint.T (ad:LQ):TF P (LW ad):=⟨203,[],internal_strconv_FormatUint.sp,internal_strconv_FormatUint.sat,internal_strconv_FormatUint.enter⟩
def name_Mnemonic.T (ad:LQ):TF P (LW ad):=⟨50,[],name_Mnemonic.sp,name_Mnemonic.sat,name_Mnemonic.enter⟩
def strings_Join.T (ad:LQ):TF P (LW ad):=⟨52,[],strings_Join.sp,strings_Join.sat,strings_Join.enter⟩
def mkF (ad:LQ):=@mkT P (LW ad) types mixed types_ok maps maps_ok
def mkFa (ad:LQ):=@mkTa P (LW ad) types mixed types_ok maps maps_ok
namespace Zcs
def sp:Spec:=mkSp ⟨[(0,Sb)],[]⟩ ⟨[(0,SB)],[]⟩ g
noncomputable def T (ad:LQ):=mkF ad 36 [] sp [] t0 t0 t0 21 [] f (fun a=>1000+a.toNat) (by kernel_rfl)
end Zcs
namespace Zdc
def sp:Spec:=mkSp ⟨[(0,Sb)],[]⟩ ⟨[(0,SB)],[]⟩ g
noncomputable def T (ad:LQ):=mkF ad 38 [] sp [] t0 t0 t0 9 [] f (fun a=>1000+a.toNat) (by kernel_rfl)
end Zdc
namespace Zas
def sp:Spec:=mkSp ⟨[(0,Ss)],[]⟩ ⟨[(0,Ss)],[]⟩ g
noncomputable def T (ad:LQ):=mkF ad 37 [] sp [Zcs.T ad,Zdc.T ad] (fun n=>tj 3 ⟨[(0,Ss),(3,Si)],[]⟩ (fun ms=>j3 n (l2 n ms.head!)) <| tj 4 ⟨[(0,Ss),(3,Si)],[]⟩ (fun _=>j4 n) <| tn) (fun n=>tl 2 ⟨[(0,Ss),(3,Si)],[]⟩ (fun _=>l2 n) <| tn) t0 25 [] f (fun a=>1000+a.length) (by kernel_rfl)
end Zas
namespace Zar
def sp:Spec:=mkSp ⟨[(0,Sb)],[]⟩ ⟨[(0,Sb)],[]⟩ g
noncomputable def T (ad:LQ):=mkF ad 152 [] sp [] t0 t0 t0 5 [] f (fun a=>1000+a.toNat) (by kernel_rfl)
end Zar
namespace Zaa
def sp:Spec:=mkSp ⟨[(0,Ss),(1,Si),(2,Si)],[]⟩ ⟨[(0,.c kq),(1,.c (.ifo 168 .i64))],[]⟩ g
noncomputable def T (ad:LQ):=mkF ad 106 [] sp [Zar.T ad,internal_strconv_underscoreOK.T ad] (fun n=>tj 55 ⟨[(1,Si),(8,SB),(9,Ss),(10,.c kq),(11,.c kq),(12,SB),(13,.c kq),(99,.c (.sl (.int .u8))),(100,Si),(101,Si)],[]⟩ (fun ms=>j55 n (l36 n ms.head!)) <| tj 46 ⟨[(1,Si),(8,SB),(9,Ss),(10,.c kq),(11,.c kq),(12,SB),(13,.c kq),(16,Sb),(99,.c (.sl (.int .u8))),(100,Si),(101,Si)],[]⟩ (fun ms=>j46 n (l36 n ms.head!)) <| tj 32 ⟨[(0,Ss),(1,Si),(2,Si),(8,SB),(9,Ss),(10,.c kq)],[]⟩ (fun _=>j32 n) <| tj 25 ⟨[(0,Ss),(1,Si),(2,Si),(8,SB),(9,Ss)],[]⟩ (fun _=>j25 n) <| tj 21 ⟨[(0,Ss),(1,Si),(2,Si),(8,SB),(9,Ss)],[]⟩ (fun _=>j21 n) <| tj 17 ⟨[(0,Ss),(1,Si),(2,Si),(8,SB),(9,Ss)],[]⟩ (fun _=>j17 n) <| tj 20 ⟨[(0,Ss),(1,Si),(2,Si),(8,SB),(9,Ss)],[]⟩ (fun _=>j20 n) <| tj 11 ⟨[(0,Ss),(1,Si),(2,Si),(8,SB),(9,Ss)],[]⟩ (fun _=>j11 n) <| tj 9 ⟨[(0,Ss),(1,Si),(2,Si),(8,SB),(9,Ss)],[]⟩ (fun _=>j9 n) <| tn) (fun n=>tl 36 ⟨[(1,Si),(8,SB),(9,Ss),(10,.c kq),(11,.c kq),(12,SB),(13,.c kq),(99,.c (.sl (.int .u8))),(100,Si),(101,Si)],[]⟩ (fun _=>l36 n) <| tn) t0 172 [] f (fun a b c=>1000+a.length+b.toNat+c.toNat) (by kernel_rfl)
end Zaa
namespace Zct
def sp:Spec:=mkSp ⟨[(0,Ss),(1,Si),(2,Si)],[]⟩ ⟨[(0,.c kq),(1,Se)],[]⟩ g
noncomputable def T (ad:LQ):=mkF ad 69 [] sp [Zaa.T ad,strconv_toError.T ad] t0 t0 t0 26 [] f (fun a b c=>1000+a.length+b.toNat+c.toNat) (by kernel_rfl)
end Zct
namespace Zby
def sp:Spec:=mkSp ⟨[(0,Ss)],[]⟩ ⟨[(0,Su),(1,SB)],[]⟩ g
noncomputable def T (ad:LQ):=mkF ad 39 [] sp [strings_CutPrefix.T ad,strings_Contains.T ad,Zct.T ad] (fun n=>tj 5 ⟨[(0,Ss),(4,Si)],[]⟩ (fun _=>j5 n) <| tn) t0 t0 28 [] f (fun a=>1000+a.length) (by kernel_rfl)
end Zby
namespace Zam
def sp:Spec:=mkSp ⟨[(0,Ss)],[]⟩ ⟨[(0,.c (.row 48 u0)),(1,Si)],[]⟩ g
noncomputable def T (ad:LQ):=mkF ad 18 [] sp [Zcs.T ad,Zas.T ad,Zdc.T ad,Zby.T ad,strings_IndexByte.T ad] (fun n=>tj 23 ⟨[(0,Ss),(4,.c (.row 48 u0)),(5,Si),(6,Sp 0 0)],[(some 3,[ki,ki,.str,ku])]⟩ (fun ms=>j23 n (g0 n ms.head!)) <| tn) t0 (fun n=>tl 0 ⟨[(0,Ss),(4,.c (.row 48 u0)),(5,Si)],[]⟩ (fun _=>g0 n) <| tn) 108 [] f (fun a=>1000+a.length) (by kernel_rfl)
end Zam
namespace Zae
def sp:Spec:=mkSp ⟨[(0,Ss)],[]⟩ ⟨[(0,SB)],[]⟩ g
noncomputable def T (ad:LQ):=mkF ad 42 [] sp [strings_Trim.T ad] (fun n=>tj 9 ⟨[(0,Ss),(24,Si),(25,Si)],[]⟩ (fun ms=>j9 n (l4 n ms.head!)) <| tj 3 ⟨[(0,Ss)],[]⟩ (fun _=>j3 n) <| tn) (fun n=>tl 4 ⟨[(0,Ss),(24,Si),(25,Si)],[]⟩ (fun _=>l4 n) <| tn) t0 84 [] f (fun a=>1000+a.length) (by kernel_rfl)
end Zae
namespace Zbb
def sp:Spec:=mkSp ⟨[(0,Sp 0 0),(1,SB)],[(some 0,[.sl u0,ki,ki])]⟩ ⟨[],[(none,[.sl u0,ki,ki])]⟩ g
noncomputable def T (ad:LQ):=mkF ad 41 [] sp [] t0 t0 t0 16 [] f (fun _ b c d=>1000+b.length+c.toNat+d.toNat) (by kernel_rfl)
end Zbb
namespace Zdd
def sp:Spec:=mkSp ⟨[(0,Si)],[]⟩ ⟨[(0,SB)],[]⟩ g
noncomputable def T (ad:LQ):=mkF ad 44 [] sp [] t0 t0 t0 9 [] f (fun a=>1000+a.toNat) (by kernel_rfl)
end Zdd
namespace Zde
def sp:Spec:=mkSp ⟨[(0,Sp 0 0),(1,Si)],[(some 0,[.sl u0,ki,ki])]⟩ ⟨[(0,Ss)],[(none,[.sl u0,ki,ki])]⟩ g
noncomputable def T (ad:LQ):=mkF ad 80 [] sp [] t0 t0 t0 48 [] f (fun a b c d=>1000+a.toNat+b.length+c.toNat+d.toNat) (by kernel_rfl)
end Zde
namespace Zcb
def sp:Spec:=mkSp ⟨[(0,Sp 0 0),(1,Si)],[(some 0,[.sl u0,ki,ki])]⟩ ⟨[(0,Ss)],[(none,[.sl u0,ki,ki])]⟩ g
noncomputable def T (ad:LQ):=mkF ad 46 [] sp [Zde.T ad] t0 t0 t0 17 [] f (fun a b c d=>1000+a.toNat+b.length+c.toNat+d.toNat) (by kernel_rfl)
end Zcb
namespace Zap
def sp:Spec:=mkSp ⟨[(0,Ss),(1,Si),(2,Si)],[]⟩ ⟨[(0,Si),(1,.c (.ifo 168 .i64))],[]⟩ g
noncomputable def T (ad:LQ):=mkF ad 204 [] sp [Zaa.T ad] (fun n=>tj 21 ⟨[(8,SB),(9,.c kq)],[]⟩ (fun _=>j21 n) <| tj 19 ⟨[(8,SB),(9,.c kq),(10,.c kq)],[]⟩ (fun _=>j19 n) <| tj 16 ⟨[(2,Si),(8,SB),(9,.c kq)],[]⟩ (fun _=>j16 n) <| tj 14 ⟨[(2,Si),(8,SB),(9,.c kq)],[]⟩ (fun _=>j14 n) <| tj 10 ⟨[(0,Ss),(1,Si),(2,Si),(8,SB)],[]⟩ (fun _=>j10 n) <| tn) t0 t0 73 [] f (fun a b c=>1000+a.length+b.toNat+c.toNat) (by kernel_rfl)
end Zap
namespace Zat
def sp:Spec:=mkSp ⟨[(0,Ss)],[]⟩ ⟨[(0,Si),(1,.c (.ifo 168 .i64))],[]⟩ g
noncomputable def T (ad:LQ):=mkF ad 168 [] sp [Zap.T ad] (fun n=>tj 8 ⟨[(0,Ss),(5,Ss)],[]⟩ (fun _=>j8 n) <| tj 6 ⟨[(0,Ss),(5,Ss)],[]⟩ (fun _=>j6 n) <| tj 20 ⟨[(0,Ss)],[]⟩ (fun _=>j20 n) <| tn) (fun n=>tl 10 ⟨[(5,Ss),(6,Si),(47,.c (.sl (.int .u8))),(48,Si),(49,Si)],[]⟩ (fun _=>l10 n) <| tn) t0 77 [] f (fun a=>1000+a.length) (by kernel_rfl)
end Zat
namespace Zdq
def sp:Spec:=mkSp ⟨[(0,Ss)],[]⟩ ⟨[(0,Si),(1,Se)],[]⟩ g
noncomputable def T (ad:LQ):=mkF ad 126 [] sp [Zat.T ad,strconv_toError.T ad] t0 t0 t0 18 [] f (fun a=>1000+a.length) (by kernel_rfl)
end Zdq
namespace Zaz
def sp:Spec:=mkSp ⟨[(0,Si)],[]⟩ ⟨[(0,Ss)],[]⟩ g
noncomputable def T (ad:LQ):=mkF ad 56 [] sp [strconv_Itoa.T ad] t0 t0 t0 12 [] f (fun a=>1000+a.toNat) (by kernel_rfl)
end Zaz
namespace Zci
def sp:Spec:=mkSp ⟨[(0,Ss)],[]⟩ ⟨[(0,Si),(1,SB)],[]⟩ g
noncomputable def T (ad:LQ):=mkF ad 81 [] sp [strings_CutPrefix.T ad,Zdq.T ad,Zaz.T ad] t0 t0 t0 31 [] f (fun a=>1000+a.length) (by kernel_rfl)
end Zci
namespace Zdv
def sp:Spec:=mkSp ⟨[(0,Sp 0 0),(1,Sp 1 0)],[(some 0,[.sl u0,ki,ki]),(some 1,c0)]⟩ ⟨[],[(none,[.sl u0,ki,ki]),(none,c0)]⟩ g
noncomputable def T (ad:LQ):=mkF ad 47 [] sp [Zde.T ad,Zci.T ad] t0 t0 t0 50 [] f (fun a b c d e i j k _ o p=>1000+a.length+b.toNat+c.toNat+d.toNat+e.toNat+i.toNat+j.toNat+k.toNat+o.length+p.length) (by kernel_rfl)
end Zdv
namespace Zdj
def sp:Spec:=mkSp ⟨[(0,Sp 0 0)],[(some 0,c0)]⟩ ⟨[(0,Sp 0 2)],[(none,c0)]⟩ g
noncomputable def T (ad:LQ):=mkF ad 74 [] sp [] t0 t0 t0 6 [] f (fun a b c d e _ j k=>1000+a.toNat+b.toNat+c.toNat+d.toNat+e.toNat+j.length+k.length) (by kernel_rfl)
end Zdj
namespace Zdk
def sp:Spec:=mkSp ⟨[(0,Sp 0 0)],[(some 0,c0)]⟩ ⟨[(0,Sp 0 3)],[(none,c0)]⟩ g
noncomputable def T (ad:LQ):=mkF ad 75 [] sp [] t0 t0 t0 6 [] f (fun a b c d e _ j k=>1000+a.toNat+b.toNat+c.toNat+d.toNat+e.toNat+j.length+k.length) (by kernel_rfl)
end Zdk
namespace Zdl
def sp:Spec:=mkSp ⟨[(0,Sp 0 0)],[(some 0,c0)]⟩ ⟨[(0,Sp 0 4)],[(none,c0)]⟩ g
noncomputable def T (ad:LQ):=mkF ad 76 [] sp [] t0 t0 t0 6 [] f (fun a b c d e _ j k=>1000+a.toNat+b.toNat+c.toNat+d.toNat+e.toNat+j.length+k.length) (by kernel_rfl)
end Zdl
namespace Zdf
def sp:Spec:=mkSp ⟨[(0,Sp 0 0),(1,Sp 1 0),(2,.c (.pp .fn))],[(some 0,[.sl u0,ki,ki]),(some 1,c0)]⟩ ⟨[],[(none,[.sl u0,ki,ki]),(none,c0)]⟩ g
noncomputable def T (ad:LQ):=mkF ad 119 [] sp [Zcb.T ad,Zci.T ad,Zbb.T ad,Zdj.T ad,Zdk.T ad,Zdl.T ad] t0 t0 t0 21 [K.atA,K.atB,K.atC] f (fun _ b c d e i j k l _ p q=>1000+b.length+c.toNat+d.toNat+e.toNat+i.toNat+j.toNat+k.toNat+l.toNat+p.length+q.length) (by kernel_rfl)
end Zdf
namespace Zbe
def sp:Spec:=mkSp ⟨[(0,Sp 0 0),(1,Si)],[(some 0,c1)]⟩ ⟨[],[(none,c1)]⟩ g
noncomputable def T (ad:LQ):=mkF ad 217 [] sp [] t0 t0 t0 13 [] f (fun a b c d e=>1000+a.toNat+b.length+c.toNat+d.length+e.toNat) (by kernel_rfl)
end Zbe
namespace Zbl
def sp:Spec:=mkSp ⟨[(0,Sp 0 0)],[(some 0,c1)]⟩ ⟨[(0,.agg [ki,ki,.str,ku]),(1,SB)],[(none,c1)]⟩ g
noncomputable def T (ad:LQ):=mkF ad 218 [] sp [] t0 t0 t0 39 [] f (fun a b c d=>1000+a.length+b.toNat+c.length+d.toNat) (by kernel_rfl)
end Zbl
namespace Zaq
def sp:Spec:=mkSp ⟨[(0,Sp 0 0),(1,.c (.sl .str))],[(some 0,c1)]⟩ ⟨[(0,Ss),(1,SB)],[(none,c1)]⟩ g
noncomputable def T (ad:LQ):=mkF ad 215 [] sp [Zbl.T ad] (fun n=>tj 8 ⟨[(0,Sp 0 0),(6,Sp 1 0),(7,SB),(15,.c (.sl .str)),(16,Si),(17,Si)],[(none,c1),(some 1,[ki,ki,.str,ku])]⟩ (fun ms=>j8 n (l3 n ms.head!)) <| tn) (fun n=>tl 3 ⟨[(0,Sp 0 0),(6,Sp 1 0),(7,SB),(15,.c (.sl .str)),(16,Si),(17,Si)],[(none,c1),(some 1,[ki,ki,.str,ku])]⟩ (fun _=>l3 n) <| tn) t0 42 [] f (fun a b c d e=>1000+a.length+b.length+c.toNat+d.length+e.toNat) (by kernel_rfl)
end Zaq
namespace Zbf
def sp:Spec:=mkSp ⟨[(0,Sp 0 0),(1,.agg [ki,ku,.str])],[(some 0,c1)]⟩ ⟨[],[(none,c1)]⟩ g
noncomputable def T (ad:LQ):=mkF ad 216 [] sp [] t0 t0 t0 14 [] f (fun a b c d e i j=>1000+a.toNat+b.toNat+c.length+d.length+e.toNat+i.length+j.toNat) (by kernel_rfl)
end Zbf
def expr_parser_sum.spq (q:Nat):Spec:=mkSp ⟨[(0,Sp 0 0),(1,Si)],[(some 0,c1)]⟩ ⟨[],[(none,c1)]⟩ (rec_expr_parser_sum q).expr_parser_sum
def expr_parser_row_c200.spq (q:Nat):Spec:=mkSp ⟨[(0,Sp 0 0),(1,.clo 200 [.ptr 1 0,.ptr 2 0]),(2,.c (.sl .str))],[(some 0,c1),(some 1,[.ptr 0 0]),(some 2,[ki])]⟩ ⟨[],[(none,c1),(none,[.ptr 0 0]),(none,[ki])]⟩ (rec_expr_parser_sum q).expr_parser_row_c200
def expr_parser_sum_1.spq (q:Nat):Spec:=mkSp ⟨[(0,Sp 0 0),(1,Sp 1 0)],[(some 0,[.ptr 2 0]),(some 1,[ki]),(some 2,c1)]⟩ ⟨[],[(none,[.ptr 2 0]),(none,[ki]),(none,c1)]⟩ (rec_expr_parser_sum q).expr_parser_sum_1
def expr_parser_row_c201.spq (q:Nat):Spec:=mkSp ⟨[(0,Sp 0 0),(1,.clo 201 [.ptr 1 0,.ptr 2 0]),(2,.c (.sl .str))],[(some 0,c1),(some 1,[.ptr 0 0]),(some 2,[ki])]⟩ ⟨[],[(none,c1),(none,[.ptr 0 0]),(none,[ki])]⟩ (rec_expr_parser_sum q).expr_parser_row_c201
def expr_parser_sum_1_1.spq (q:Nat):Spec:=mkSp ⟨[(0,Sp 0 0),(1,Sp 1 0)],[(some 0,[.ptr 2 0]),(some 1,[ki]),(some 2,c1)]⟩ ⟨[],[(none,[.ptr 2 0]),(none,[ki]),(none,c1)]⟩ (rec_expr_parser_sum q).expr_parser_sum_1_1
def expr_parser_factor.spq (q:Nat):Spec:=mkSp ⟨[(0,Sp 0 0),(1,Si)],[(some 0,c1)]⟩ ⟨[],[(none,c1)]⟩ (rec_expr_parser_sum q).expr_parser_factor
namespace expr_parser_sum
theorem step (q:Nat) (ih:Sat P (LW ad) 165 (expr_parser_sum.spq q)∧Sat P (LW ad) 199 (expr_parser_row_c200.spq q)∧Sat P (LW ad) 200 (expr_parser_sum_1.spq q)∧Sat P (LW ad) 199 (expr_parser_row_c201.spq q)∧Sat P (LW ad) 201 (expr_parser_sum_1_1.spq q)∧Sat P (LW ad) 202 (expr_parser_factor.spq q)∧True):Sat P (LW ad) 165 (spq (q+1)):=sat_q mixed types_ok maps_ok 165 (spq (q+1)) [((199,[200]),expr_parser_row_c200.spq q)] (specs_cons ih.2.1 (enter_of (by kernel_rfl)) specs_nil) t0 t0 t0 8 [] (fun n=>f n (rec_expr_parser_sum q)) (fun a b c d e=>1000+a.toNat+b.length+c.toNat+d.length+e.toNat) (by kernel_rfl) (by kernel_rfl)
end expr_parser_sum
namespace expr_parser_row_c200
theorem step (q:Nat) (ih:Sat P (LW ad) 165 (expr_parser_sum.spq q)∧Sat P (LW ad) 199 (expr_parser_row_c200.spq q)∧Sat P (LW ad) 200 (expr_parser_sum_1.spq q)∧Sat P (LW ad) 199 (expr_parser_row_c201.spq q)∧Sat P (LW ad) 201 (expr_parser_sum_1_1.spq q)∧Sat P (LW ad) 202 (expr_parser_factor.spq q)∧True):Sat P (LW ad) 199 (spq (q+1)):=sat_q mixed types_ok maps_ok 199 (spq (q+1)) [((200,[]),expr_parser_sum_1.spq q),(Zaq.T ad).kv,(Zbf.T ad).kv] (specs_cons ih.2.2.1 (enter_of (by kernel_rfl)) (specs_T (Zaq.T ad) (specs_T (Zbf.T ad) specs_nil))) t0 (fun n=>tl 1 ⟨[(0,Sp 0 0),(1,.clo 200 [.ptr 1 0,.ptr 2 0]),(2,.c (.sl .str))],[(none,c1),(none,[.ptr 0 0]),(none,[ki])]⟩ (fun _=>l1 n (rec_expr_parser_sum q)) <| tn) t0 26 [] (fun n=>f n (rec_expr_parser_sum q)) (fun a b c d e i=>1000+a.length+b.length+c.toNat+d.length+e.toNat+i.toNat) (by kernel_rfl) (by kernel_rfl)
end expr_parser_row_c200
namespace expr_parser_sum_1
theorem step (q:Nat) (ih:Sat P (LW ad) 165 (expr_parser_sum.spq q)∧Sat P (LW ad) 199 (expr_parser_row_c200.spq q)∧Sat P (LW ad) 200 (expr_parser_sum_1.spq q)∧Sat P (LW ad) 199 (expr_parser_row_c201.spq q)∧Sat P (LW ad) 201 (expr_parser_sum_1_1.spq q)∧Sat P (LW ad) 202 (expr_parser_factor.spq q)∧True):Sat P (LW ad) 200 (spq (q+1)):=sat_q mixed types_ok maps_ok 200 (spq (q+1)) [((199,[201]),expr_parser_row_c201.spq q)] (specs_cons ih.2.2.2.1 (enter_of (by kernel_rfl)) specs_nil) t0 t0 t0 6 [] (fun n=>f n (rec_expr_parser_sum q)) (fun a b c d e=>1000+a.toNat+b.length+c.toNat+d.length+e.toNat) (by kernel_rfl) (by kernel_rfl)
end expr_parser_sum_1
namespace expr_parser_row_c201
theorem step (q:Nat) (ih:Sat P (LW ad) 165 (expr_parser_sum.spq q)∧Sat P (LW ad) 199 (expr_parser_row_c200.spq q)∧Sat P (LW ad) 200 (expr_parser_sum_1.spq q)∧Sat P (LW ad) 199 (expr_parser_row_c201.spq q)∧Sat P (LW ad) 201 (expr_parser_sum_1_1.spq q)∧Sat P (LW ad) 202 (expr_parser_factor.spq q)∧True):Sat P (LW ad) 199 (spq (q+1)):=sat_q mixed types_ok maps_ok 199 (spq (q+1)) [((201,[]),expr_parser_sum_1_1.spq q),(Zaq.T ad).kv,(Zbf.T ad).kv] (specs_cons ih.2.2.2.2.1 (enter_of (by kernel_rfl)) (specs_T (Zaq.T ad) (specs_T (Zbf.T ad) specs_nil))) t0 (fun n=>tl 1 ⟨[(0,Sp 0 0),(1,.clo 201 [.ptr 1 0,.ptr 2 0]),(2,.c (.sl .str))],[(none,c1),(none,[.ptr 0 0]),(none,[ki])]⟩ (fun _=>l1 n (rec_expr_parser_sum q)) <| tn) t0 26 [] (fun n=>f n (rec_expr_parser_sum q)) (fun a b c d e i=>1000+a.length+b.length+c.toNat+d.length+e.toNat+i.toNat) (by kernel_rfl) (by kernel_rfl)
end expr_parser_row_c201
namespace expr_parser_sum_1_1
theorem step (q:Nat) (ih:Sat P (LW ad) 165 (expr_parser_sum.spq q)∧Sat P (LW ad) 199 (expr_parser_row_c200.spq q)∧Sat P (LW ad) 200 (expr_parser_sum_1.spq q)∧Sat P (LW ad) 199 (expr_parser_row_c201.spq q)∧Sat P (LW ad) 201 (expr_parser_sum_1_1.spq q)∧Sat P (LW ad) 202 (expr_parser_factor.spq q)∧True):Sat P (LW ad) 201 (spq (q+1)):=sat_q mixed types_ok maps_ok 201 (spq (q+1)) [((202,[]),expr_parser_factor.spq q)] (specs_cons ih.2.2.2.2.2.1 (enter_of (by kernel_rfl)) specs_nil) t0 t0 t0 5 [] (fun n=>f n (rec_expr_parser_sum q)) (fun a b c d e=>1000+a.toNat+b.length+c.toNat+d.length+e.toNat) (by kernel_rfl) (by kernel_rfl)
end expr_parser_sum_1_1
namespace expr_parser_factor
theorem step (q:Nat) (ih:Sat P (LW ad) 165 (expr_parser_sum.spq q)∧Sat P (LW ad) 199 (expr_parser_row_c200.spq q)∧Sat P (LW ad) 200 (expr_parser_sum_1.spq q)∧Sat P (LW ad) 199 (expr_parser_row_c201.spq q)∧Sat P (LW ad) 201 (expr_parser_sum_1_1.spq q)∧Sat P (LW ad) 202 (expr_parser_factor.spq q)∧True):Sat P (LW ad) 202 (spq (q+1)):=sat_q mixed types_ok maps_ok 202 (spq (q+1)) [(Zbe.T ad).kv,(Zaq.T ad).kv,((202,[]),expr_parser_factor.spq q),(Zbf.T ad).kv,((165,[]),expr_parser_sum.spq q),(Zbl.T ad).kv,(Zae.T ad).kv] (specs_T (Zbe.T ad) (specs_T (Zaq.T ad) (specs_cons ih.2.2.2.2.2.1 (enter_of (by kernel_rfl)) (specs_T (Zbf.T ad) (specs_cons ih.1 (enter_of (by kernel_rfl)) (specs_T (Zbl.T ad) (specs_T (Zae.T ad) specs_nil))))))) (fun n=>tj 19 ⟨[(0,Sp 0 0)],[(none,c1)]⟩ (fun _=>j19 n (rec_expr_parser_sum q)) <| tn) t0 t0 94 [] (fun n=>f n (rec_expr_parser_sum q)) (fun a b c d e=>1000+a.toNat+b.length+c.toNat+d.length+e.toNat) (by kernel_rfl) (by kernel_rfl)
end expr_parser_factor
theorem rec_expr_parser_sum_sat:∀ q,Sat P (LW ad) 165 (expr_parser_sum.spq q)∧Sat P (LW ad) 199 (expr_parser_row_c200.spq q)∧Sat P (LW ad) 200 (expr_parser_sum_1.spq q)∧Sat P (LW ad) 199 (expr_parser_row_c201.spq q)∧Sat P (LW ad) 201 (expr_parser_sum_1_1.spq q)∧Sat P (LW ad) 202 (expr_parser_factor.spq q)∧True
 | 0=>⟨sat_none fun _=>rfl,sat_none fun _=>rfl,sat_none fun _=>rfl,sat_none fun _=>rfl,sat_none fun _=>rfl,sat_none fun _=>rfl,trivial⟩
 | q+1=>⟨expr_parser_sum.step q (rec_expr_parser_sum_sat q),expr_parser_row_c200.step q (rec_expr_parser_sum_sat q),expr_parser_sum_1.step q (rec_expr_parser_sum_sat q),expr_parser_row_c201.step q (rec_expr_parser_sum_sat q),expr_parser_sum_1_1.step q (rec_expr_parser_sum_sat q),expr_parser_factor.step q (rec_expr_parser_sum_sat q),trivial⟩
def expr_parser_sum.sp:Spec:=mkSp ⟨[(0,Sp 0 0),(1,Si)],[(some 0,c1)]⟩ ⟨[],[(none,c1)]⟩ expr_parser_sum.g
noncomputable def expr_parser_sum.T (ad:LQ):TF P (LW ad):=⟨165,[],expr_parser_sum.sp,sat_fq (F:=fun q=>(rec_expr_parser_sum q).expr_parser_sum) (fun a b c d e=>1000+a.toNat+b.length+c.toNat+d.length+e.toNat) (fun q=>(rec_expr_parser_sum_sat q).1) (fun _=>by kernel_rfl),enter_of (by kernel_rfl)⟩
def expr_parser_row_c200.sp:Spec:=mkSp ⟨[(0,Sp 0 0),(1,.clo 200 [.ptr 1 0,.ptr 2 0]),(2,.c (.sl .str))],[(some 0,c1),(some 1,[.ptr 0 0]),(some 2,[ki])]⟩ ⟨[],[(none,c1),(none,[.ptr 0 0]),(none,[ki])]⟩ expr_parser_row_c200.g
noncomputable def expr_parser_row_c200.T (ad:LQ):TF P (LW ad):=⟨199,[200],expr_parser_row_c200.sp,sat_fq (F:=fun q=>(rec_expr_parser_sum q).expr_parser_row_c200) (fun a b c d e i=>1000+a.length+b.length+c.toNat+d.length+e.toNat+i.toNat) (fun q=>(rec_expr_parser_sum_sat q).2.1) (fun _=>by kernel_rfl),enter_of (by kernel_rfl)⟩
def expr_parser_sum_1.sp:Spec:=mkSp ⟨[(0,Sp 0 0),(1,Sp 1 0)],[(some 0,[.ptr 2 0]),(some 1,[ki]),(some 2,c1)]⟩ ⟨[],[(none,[.ptr 2 0]),(none,[ki]),(none,c1)]⟩ expr_parser_sum_1.g
noncomputable def expr_parser_sum_1.T (ad:LQ):TF P (LW ad):=⟨200,[],expr_parser_sum_1.sp,sat_fq (F:=fun q=>(rec_expr_parser_sum q).expr_parser_sum_1) (fun a b c d e=>1000+a.toNat+b.length+c.toNat+d.length+e.toNat) (fun q=>(rec_expr_parser_sum_sat q).2.2.1) (fun _=>by kernel_rfl),enter_of (by kernel_rfl)⟩
def expr_parser_row_c201.sp:Spec:=mkSp ⟨[(0,Sp 0 0),(1,.clo 201 [.ptr 1 0,.ptr 2 0]),(2,.c (.sl .str))],[(some 0,c1),(some 1,[.ptr 0 0]),(some 2,[ki])]⟩ ⟨[],[(none,c1),(none,[.ptr 0 0]),(none,[ki])]⟩ expr_parser_row_c201.g
noncomputable def expr_parser_row_c201.T (ad:LQ):TF P (LW ad):=⟨199,[201],expr_parser_row_c201.sp,sat_fq (F:=fun q=>(rec_expr_parser_sum q).expr_parser_row_c201) (fun a b c d e i=>1000+a.length+b.length+c.toNat+d.length+e.toNat+i.toNat) (fun q=>(rec_expr_parser_sum_sat q).2.2.2.1) (fun _=>by kernel_rfl),enter_of (by kernel_rfl)⟩
def expr_parser_sum_1_1.sp:Spec:=mkSp ⟨[(0,Sp 0 0),(1,Sp 1 0)],[(some 0,[.ptr 2 0]),(some 1,[ki]),(some 2,c1)]⟩ ⟨[],[(none,[.ptr 2 0]),(none,[ki]),(none,c1)]⟩ expr_parser_sum_1_1.g
noncomputable def expr_parser_sum_1_1.T (ad:LQ):TF P (LW ad):=⟨201,[],expr_parser_sum_1_1.sp,sat_fq (F:=fun q=>(rec_expr_parser_sum q).expr_parser_sum_1_1) (fun a b c d e=>1000+a.toNat+b.length+c.toNat+d.length+e.toNat) (fun q=>(rec_expr_parser_sum_sat q).2.2.2.2.1) (fun _=>by kernel_rfl),enter_of (by kernel_rfl)⟩
def expr_parser_factor.sp:Spec:=mkSp ⟨[(0,Sp 0 0),(1,Si)],[(some 0,c1)]⟩ ⟨[],[(none,c1)]⟩ expr_parser_factor.g
noncomputable def expr_parser_factor.T (ad:LQ):TF P (LW ad):=⟨202,[],expr_parser_factor.sp,sat_fq (F:=fun q=>(rec_expr_parser_sum q).expr_parser_factor) (fun a b c d e=>1000+a.toNat+b.length+c.toNat+d.length+e.toNat) (fun q=>(rec_expr_parser_sum_sat q).2.2.2.2.2.1) (fun _=>by kernel_rfl),enter_of (by kernel_rfl)⟩
namespace Zbz
def sp:Spec:=mkSp ⟨[(0,.c (.sl u0)),(1,Si)],[]⟩ ⟨[(0,.c (.row 54 u1)),(1,Si),(2,Si)],[]⟩ g
noncomputable def T (ad:LQ):=mkF ad 122 [] sp [expr_parser_sum.T ad] (fun n=>tj 5 ⟨[(7,Sp 0 0)],[(some 0,c1)]⟩ (fun _=>j5 n) <| tn) t0 t0 47 [] f (fun a b=>1000+a.length+b.toNat) (by kernel_rfl)
end Zbz
namespace Zbr
def sp:Spec:=mkSp ⟨[(0,Sp 0 0),(1,Sp 1 0),(2,.c (.pp .str))],[(some 0,[.sl u0,ki,ki]),(some 1,c0)]⟩ ⟨[],[(none,[.sl u0,ki,ki]),(none,c0)]⟩ g
noncomputable def T (ad:LQ):=mkF ad 121 [] sp [Zcb.T ad,Zbb.T ad,Zbz.T ad] (fun n=>tj 2 ⟨[(0,Sp 0 0),(1,Sp 1 0)],[(none,[.sl u0,ki,ki]),(none,c0)]⟩ (fun _=>j2 n) <| tn) t0 t0 40 [] f (fun a b c d e i j k l _ p q=>1000+a.length+b.length+c.toNat+d.toNat+e.toNat+i.toNat+j.toNat+k.toNat+l.toNat+p.length+q.length) (by kernel_rfl)
end Zbr
namespace Zcf
def sp:Spec:=mkSp ⟨[(0,Sb),(1,SB)],[]⟩ ⟨[(0,SB)],[]⟩ g
noncomputable def T (ad:LQ):=mkF ad 86 [] sp [] (fun n=>tj 4 ⟨[(0,Sb),(1,SB)],[]⟩ (fun _=>j4 n) <| tn) t0 t0 32 [] f (fun a _=>1000+a.toNat) (by kernel_rfl)
end Zcf
namespace Zba
def sp:Spec:=mkSp ⟨[(0,Ss)],[]⟩ ⟨[(0,SB)],[]⟩ g
noncomputable def T (ad:LQ):=mkF ad 55 [] sp [Zcf.T ad,strings_Trim.T ad] t0 (fun n=>tl 4 ⟨[(0,Ss),(14,Si),(15,Si)],[]⟩ (fun _=>l4 n) <| tn) t0 47 [] f (fun a=>1000+a.length) (by kernel_rfl)
end Zba
namespace Zdw
def sp:Spec:=mkSp ⟨[(0,Sp 0 0),(1,Sp 1 0)],[(some 0,[.sl u0,ki,ki]),(some 1,c0)]⟩ ⟨[],[(none,[.sl u0,ki,ki]),(none,c0)]⟩ g
noncomputable def T (ad:LQ):=mkF ad 78 [] sp [Zcb.T ad,Zba.T ad,Zbb.T ad] t0 t0 t0 16 [] f (fun a b c d e i j k _ o p=>1000+a.length+b.toNat+c.toNat+d.toNat+e.toNat+i.toNat+j.toNat+k.toNat+o.length+p.length) (by kernel_rfl)
end Zdw
namespace Zab
def sp:Spec:=mkSp ⟨[(0,.c (.sl u0))],[]⟩ ⟨[(0,Ss),(1,.agg c0),(2,Si)],[]⟩ g
noncomputable def T (ad:LQ):=mkF ad 19 [] sp [Zae.T ad,Zbb.T ad,name_Of.T ad,Zdd.T ad,stmt_operands.T ad,Zcb.T ad,Zdv.T ad,Zdf.T ad,Zbr.T ad,Zdw.T ad] (fun n=>tj 20 ⟨[(0,.c (.sl u0)),(2,Ss),(3,Sp 0 0),(5,Sp 1 0),(8,Si),(11,Si),(116,Si),(117,Si)],[(some 2,c0),(some 3,[.sl u0,ki,ki])]⟩ (fun ms=>j20 n (l13 n ms.head!)) <| tj 19 ⟨[(0,.c (.sl u0)),(2,Ss),(3,Sp 0 0),(5,Sp 1 0),(8,Si),(11,Si),(12,Si),(116,Si),(117,Si)],[(some 2,c0),(some 3,[.sl u0,ki,ki])]⟩ (fun ms=>j19 n (l13 n ms.head!)) <| tj 17 ⟨[(0,.c (.sl u0)),(2,Ss),(3,Sp 0 0),(5,Sp 1 0),(8,Si),(11,Si),(12,Si),(116,Si),(117,Si)],[(some 2,c0),(some 3,[.sl u0,ki,ki])]⟩ (fun ms=>j17 n (l13 n ms.head!)) <| tj 22 ⟨[(2,Ss),(3,Sp 0 0),(5,Sp 1 0)],[(some 1,c0),(some 2,[.sl u0,ki,ki])]⟩ (fun _=>j22 n) <| tj 9 ⟨[(0,.c (.sl u0)),(2,Ss),(3,Sp 0 0),(5,Sp 1 0),(7,Si),(8,Si),(9,SB)],[(some 2,c0),(some 3,[.sl u0,ki,ki])]⟩ (fun _=>j9 n) <| tj 5 ⟨[(0,.c (.sl u0)),(2,Ss),(3,Sp 0 0),(5,Sp 1 0)],[(some 2,c0),(some 3,[.sl u0,ki,ki])]⟩ (fun _=>j5 n) <| tn) (fun n=>tl 13 ⟨[(0,.c (.sl u0)),(2,Ss),(3,Sp 0 0),(5,Sp 1 0),(8,Si),(11,Si),(116,Si),(117,Si)],[(some 2,c0),(some 3,[.sl u0,ki,ki])]⟩ (fun _=>l13 n) <| tn) t0 165 [K.rdA,K.rdB,K.rdC,K.rdE,K.rdQ,K.rdN] f (fun a=>1000+a.length) (by kernel_rfl)
end Zab
namespace Zed
def sp:Spec:=mkSp ⟨[(0,Ss)],[]⟩ ⟨[(0,.agg c2),(1,Si)],[]⟩ g
noncomputable def T (ad:LQ):=mkF ad 35 [] sp [Zam.T ad,Zab.T ad] t0 t0 t0 27 [] f (fun a=>1000+a.length) (by kernel_rfl)
end Zed
namespace Zcp
def sp:Spec:=mkSp ⟨[(0,.c (.sl .str)),(1,.c (.raw (.func (.func 35) #[] #[])))],[]⟩ ⟨[(0,.c (.row 39 u2)),(1,Si),(2,Si)],[]⟩ g
noncomputable def T (ad:LQ):=mkF ad 34 [] sp [Zed.T ad] t0 (fun n=>tl 5 ⟨[(1,.c (.raw (.func (.func 35) #[] #[]))),(7,.c (.row 39 u2)),(15,.c (.sl .str)),(16,Si),(17,Si)],[]⟩ (fun _=>l5 n) <| tn) t0 39 [] f (fun a=>1000+a.length) (by kernel_rfl)
end Zcp
namespace Zbx
def sp:Spec:=mkSp ⟨[(0,Ss)],[]⟩ ⟨[(0,.c (.row 39 u2)),(1,Si),(2,Si)],[]⟩ g
noncomputable def T (ad:LQ):=mkF ad 16 [] sp [strings_Split.T ad,Zcp.T ad] (fun n=>tj 7 ⟨[(5,.c (.sl .str))],[]⟩ (fun _=>j7 n) <| tn) t0 t0 28 [] f (fun a=>1000+a.length) (by kernel_rfl)
end Zbx
namespace Zem
def sp:Spec:=mkSp ⟨[],[]⟩ ⟨[(0,SB)],[]⟩ g
noncomputable def T (ad:LQ):=mkF ad 14 [] sp [Zbx.T ad] t0 t0 t0 36 [] f (1000:Nat) (by kernel_rfl)
end Zem
namespace Zdp
def sp:Spec:=mkSp ⟨[(0,Ss)],[]⟩ ⟨[(0,Ss)],[]⟩ g
noncomputable def T (ad:LQ):=mkF ad 15 [] sp [] t0 t0 t0 8 [] f (fun a=>1000+a.length) (by kernel_rfl)
end Zdp
namespace Zbu
def sp:Spec:=mkSp ⟨[(0,Ss)],[]⟩ ⟨[(0,.c (.row 9 .str))],[]⟩ g
noncomputable def T (ad:LQ):=mkF ad 60 [] sp [] (fun n=>tj 5 ⟨[(0,Ss),(3,.c (.row 9 .str)),(4,Si),(5,Si)],[]⟩ (fun ms=>j5 n (l4 n ms.head!)) <| tn) (fun n=>tl 4 ⟨[(0,Ss),(3,.c (.row 9 .str)),(4,Si),(5,Si)],[]⟩ (fun _=>l4 n) <| tn) t0 37 [] f (fun a=>1000+a.length) (by kernel_rfl)
end Zbu
namespace Zcu
def sp:Spec:=mkSp ⟨[(0,Sb)],[]⟩ ⟨[(0,SB)],[]⟩ g
noncomputable def T (ad:LQ):=mkF ad 91 [] sp [] t0 t0 t0 21 [] f (fun a=>1000+a.toNat) (by kernel_rfl)
end Zcu
namespace Zcj
def sp:Spec:=mkSp ⟨[(0,Sb)],[]⟩ ⟨[(0,SB)],[]⟩ g
noncomputable def T (ad:LQ):=mkF ad 93 [] sp [] t0 t0 t0 9 [] f (fun a=>1000+a.toNat) (by kernel_rfl)
end Zcj
namespace Zbg
def sp:Spec:=mkSp ⟨[(0,Ss)],[]⟩ ⟨[(0,Si)],[]⟩ g
noncomputable def T (ad:LQ):=mkF ad 92 [] sp [Zcu.T ad,Zcj.T ad] (fun n=>tj 3 ⟨[(0,Ss),(3,Si)],[]⟩ (fun ms=>j3 n (l2 n ms.head!)) <| tn) (fun n=>tl 2 ⟨[(0,Ss),(3,Si)],[]⟩ (fun _=>l2 n) <| tn) t0 23 [] f (fun a=>1000+a.length) (by kernel_rfl)
end Zbg
namespace Zeg
def sp:Spec:=mkSp ⟨[(0,Sb)],[]⟩ ⟨[(0,Si),(1,SB)],[]⟩ g
noncomputable def T (ad:LQ):=mkF ad 135 [] sp [Zcj.T ad] t0 t0 t0 32 [] f (fun a=>1000+a.toNat) (by kernel_rfl)
end Zeg
namespace Zbh
def sp:Spec:=mkSp ⟨[(0,Ss)],[]⟩ ⟨[(0,Su),(1,SB)],[]⟩ g
noncomputable def T (ad:LQ):=mkF ad 94 [] sp [Zeg.T ad] (fun n=>tj 6 ⟨[(0,Ss),(4,Si),(5,Si)],[]⟩ (fun _=>j6 n) <| tn) (fun n=>tl 8 ⟨[(0,Ss),(4,Si),(6,Si),(7,Si)],[]⟩ (fun _=>l8 n) <| tn) t0 53 [] f (fun a=>1000+a.length) (by kernel_rfl)
end Zbh
namespace Zcv
def sp:Spec:=mkSp ⟨[(0,Sb)],[]⟩ ⟨[(0,SB)],[]⟩ g
noncomputable def T (ad:LQ):=mkF ad 95 [] sp [] t0 (fun n=>tl 3 ⟨[(0,Sb),(3,Ss),(4,Si)],[]⟩ (fun _=>l3 n) <| tn) t0 16 [] f (fun a=>1000+a.toNat) (by kernel_rfl)
end Zcv
namespace Zah
def sp:Spec:=mkSp ⟨[(0,Ss)],[]⟩ ⟨[(0,.c (.row 48 u0)),(1,Si)],[]⟩ g
noncomputable def T (ad:LQ):=mkF ad 61 [] sp [Zcu.T ad,Zbg.T ad,Zcj.T ad,Zbh.T ad,Zcv.T ad] (fun n=>tj 26 ⟨[(0,Ss),(4,.c (.row 48 u0)),(5,Si),(7,Sp 0 0)],[(some 3,[ki,ki,.str,ku])]⟩ (fun ms=>j26 n (l3 n ms.head!)) <| tj 25 ⟨[(0,Ss),(4,.c (.row 48 u0)),(5,Si),(7,Sp 0 0)],[(some 3,[ki,ki,.str,ku])]⟩ (fun ms=>j25 n (l3 n ms.head!)) <| tn) (fun n=>tl 3 ⟨[(0,Ss),(4,.c (.row 48 u0)),(5,Si)],[]⟩ (fun _=>l3 n) <| tn) t0 126 [] f (fun a=>1000+a.length) (by kernel_rfl)
end Zah
namespace Zdi
def sp:Spec:=mkSp ⟨[(0,Sb)],[]⟩ ⟨[(0,SB)],[]⟩ g
noncomputable def T (ad:LQ):=mkF ad 177 [] sp [] t0 t0 t0 17 [] f (fun a=>1000+a.toNat) (by kernel_rfl)
end Zdi
namespace Zcw
def sp:Spec:=mkSp ⟨[(0,Sb)],[]⟩ ⟨[(0,SB)],[]⟩ g
noncomputable def T (ad:LQ):=mkF ad 179 [] sp [] t0 t0 t0 9 [] f (fun a=>1000+a.toNat) (by kernel_rfl)
end Zcw
namespace Zdr
def sp:Spec:=mkSp ⟨[(0,Ss)],[]⟩ ⟨[(0,SB)],[]⟩ g
noncomputable def T (ad:LQ):=mkF ad 178 [] sp [Zcw.T ad] t0 t0 t0 29 [] f (fun a=>1000+a.length) (by kernel_rfl)
end Zdr
namespace Zau
def sp:Spec:=mkSp ⟨[(0,Ss)],[]⟩ ⟨[(0,SB)],[]⟩ g
noncomputable def T (ad:LQ):=mkF ad 136 [] sp [Zdi.T ad,Zdr.T ad,Zcw.T ad] (fun n=>tj 5 ⟨[(0,Ss),(3,Si)],[]⟩ (fun ms=>j5 n (l4 n ms.head!)) <| tn) (fun n=>tl 4 ⟨[(0,Ss),(3,Si)],[]⟩ (fun _=>l4 n) <| tn) t0 46 [] f (fun a=>1000+a.length) (by kernel_rfl)
end Zau
namespace Zbi
def sp:Spec:=mkSp ⟨[(0,Ss)],[]⟩ ⟨[(0,SB)],[]⟩ g
noncomputable def T (ad:LQ):=mkF ad 96 [] sp [Zau.T ad] (fun n=>tj 3 ⟨[(0,Ss)],[]⟩ (fun _=>j3 n) <| tn) t0 t0 17 [] f (fun a=>1000+a.length) (by kernel_rfl)
end Zbi
namespace Zek
def sp:Spec:=mkSp ⟨[(0,Ss),(1,Si)],[]⟩ ⟨[(0,Ss)],[]⟩ g
noncomputable def T (ad:LQ):=mkF ad 180 [] sp [] t0 t0 t0 12 [] f (fun a b=>1000+a.length+b.toNat) (by kernel_rfl)
end Zek
namespace Zac
def sp:Spec:=mkSp ⟨[(0,Si),(1,Si),(2,SB)],[]⟩ ⟨[(0,Ss)],[]⟩ g
noncomputable def T (ad:LQ):=mkF ad 137 [] sp [Zek.T ad] (fun n=>tj 6 ⟨[(1,Si),(7,Ss),(8,Ss)],[]⟩ (fun _=>j6 n) <| tj 23 ⟨[(0,Si),(1,Si)],[]⟩ (fun _=>j23 n) <| tj 21 ⟨[(0,Si),(1,Si)],[]⟩ (fun _=>j21 n) <| tj 17 ⟨[(0,Si),(1,Si),(2,SB)],[]⟩ (fun _=>j17 n) <| tj 15 ⟨[(0,Si),(1,Si),(2,SB)],[]⟩ (fun _=>j15 n) <| tj 13 ⟨[(0,Si),(1,Si),(2,SB)],[]⟩ (fun _=>j13 n) <| tj 11 ⟨[(0,Si),(1,Si),(2,SB)],[]⟩ (fun _=>j11 n) <| tj 9 ⟨[(0,Si),(1,Si),(2,SB)],[]⟩ (fun _=>j9 n) <| tn) t0 t0 119 [] f (fun a b _=>1000+a.toNat+b.toNat) (by kernel_rfl)
end Zac
namespace Zav
def sp:Spec:=mkSp ⟨[(0,Ss)],[]⟩ ⟨[(0,Si),(1,Si),(2,SB),(3,SB)],[]⟩ g
noncomputable def T (ad:LQ):=mkF ad 97 [] sp [Zac.T ad] t0 (fun n=>tl 7 ⟨[(0,Ss),(6,Si),(7,Si)],[]⟩ (fun ms=>l7 n (l4 n ms.head!)) <| tl 4 ⟨[(0,Ss),(6,Si)],[]⟩ (fun _=>l4 n) <| tn) t0 32 [] f (fun a=>1000+a.length) (by kernel_rfl)
end Zav
namespace Zbv
def sp:Spec:=mkSp ⟨[(0,Sp 0 0),(1,Si)],[(some 0,[.sl u0,ki,ki])]⟩ ⟨[(0,Ss)],[(none,[.sl u0,ki,ki])]⟩ g
noncomputable def T (ad:LQ):=mkF ad 142 [] sp [] t0 t0 t0 48 [] f (fun a b c d=>1000+a.toNat+b.length+c.toNat+d.toNat) (by kernel_rfl)
end Zbv
namespace Zbo
def sp:Spec:=mkSp ⟨[(0,Si)],[]⟩ ⟨[(0,Ss)],[]⟩ g
noncomputable def T (ad:LQ):=mkF ad 146 [] sp [] t0 t0 t0 24 [] f (fun a=>1000+a.toNat) (by kernel_rfl)
end Zbo
namespace Zca
def sp:Spec:=mkSp ⟨[(0,Ss)],[]⟩ ⟨[(0,Si),(1,SB)],[]⟩ g
noncomputable def T (ad:LQ):=mkF ad 181 [] sp [Zbo.T ad] t0 (fun n=>tl 2 ⟨[(0,Ss),(4,Si)],[]⟩ (fun _=>l2 n) <| tn) t0 14 [] f (fun a=>1000+a.length) (by kernel_rfl)
end Zca
namespace Zax
def sp:Spec:=mkSp ⟨[(0,Sp 0 0)],[(some 0,[.sl u0,ki,ki])]⟩ ⟨[(0,Si)],[(none,[.sl u0,ki,ki])]⟩ g
noncomputable def T (ad:LQ):=mkF ad 138 [] sp [Zbv.T ad,Zca.T ad] (fun n=>tj 4 ⟨[(0,Sp 0 0),(3,Si)],[(none,[.sl u0,ki,ki])]⟩ (fun _=>j4 n) <| tn) t0 t0 31 [] f (fun a b c=>1000+a.length+b.toNat+c.toNat) (by kernel_rfl)
end Zax
namespace Zbn
def sp:Spec:=mkSp ⟨[(0,Sp 0 0),(1,Ss)],[(some 0,[.sl u0,ki,ki])]⟩ ⟨[],[(none,[.sl u0,ki,ki])]⟩ g
noncomputable def T (ad:LQ):=mkF ad 139 [] sp [Zbv.T ad] (fun n=>tj 2 ⟨[(0,Sp 0 0)],[(none,[.sl u0,ki,ki])]⟩ (fun _=>j2 n) <| tn) t0 t0 25 [] f (fun a b c d=>1000+a.length+b.length+c.toNat+d.toNat) (by kernel_rfl)
end Zbn
namespace Zbj
def sp:Spec:=mkSp ⟨[(0,Sp 0 0),(1,Ss)],[(some 0,[.sl u0,ki,ki])]⟩ ⟨[(0,SB)],[(none,[.sl u0,ki,ki])]⟩ g
noncomputable def T (ad:LQ):=mkF ad 225 [] sp [] t0 t0 t0 58 [] f (fun a b c d=>1000+a.length+b.length+c.toNat+d.toNat) (by kernel_rfl)
end Zbj
def rivetref15_parser_sum.spq (q:Nat):Spec:=mkSp ⟨[(0,Sp 0 0),(1,Si)],[(some 0,[.sl u0,ki,ki])]⟩ ⟨[(0,.c (.row 54 u1))],[(none,[.sl u0,ki,ki])]⟩ (rec_rivetref15_parser_sum q).rivetref15_parser_sum
def rivetref15_parser_term.spq (q:Nat):Spec:=mkSp ⟨[(0,Sp 0 0),(1,Si)],[(some 0,[.sl u0,ki,ki])]⟩ ⟨[(0,.c (.row 54 u1))],[(none,[.sl u0,ki,ki])]⟩ (rec_rivetref15_parser_sum q).rivetref15_parser_term
def rivetref15_parser_factor.spq (q:Nat):Spec:=mkSp ⟨[(0,Sp 0 0),(1,Si)],[(some 0,[.sl u0,ki,ki])]⟩ ⟨[(0,.c (.row 54 u1))],[(none,[.sl u0,ki,ki])]⟩ (rec_rivetref15_parser_sum q).rivetref15_parser_factor
namespace rivetref15_parser_sum
theorem step (q:Nat) (ih:Sat P (LW ad) 210 (rivetref15_parser_sum.spq q)∧Sat P (LW ad) 224 (rivetref15_parser_term.spq q)∧Sat P (LW ad) 228 (rivetref15_parser_factor.spq q)∧True):Sat P (LW ad) 210 (spq (q+1)):=sat_q mixed types_ok maps_ok 210 (spq (q+1)) [((224,[]),rivetref15_parser_term.spq q),(Zbj.T ad).kv] (specs_cons ih.2.1 (enter_of (by kernel_rfl)) (specs_T (Zbj.T ad) specs_nil)) (fun n=>tj 8 ⟨[(0,Sp 0 0),(1,Si),(5,.c (.row 54 u1)),(6,Si)],[(none,[.sl u0,ki,ki])]⟩ (fun ms=>j8 n (rec_rivetref15_parser_sum q) (l2 n (rec_rivetref15_parser_sum q) ms.head!)) <| tn) (fun n=>tl 2 ⟨[(0,Sp 0 0),(1,Si),(5,.c (.row 54 u1))],[(none,[.sl u0,ki,ki])]⟩ (fun _=>l2 n (rec_rivetref15_parser_sum q)) <| tn) t0 32 [] (fun n=>f n (rec_rivetref15_parser_sum q)) (fun a b c d=>1000+a.toNat+b.length+c.toNat+d.toNat) (by kernel_rfl) (by kernel_rfl)
end rivetref15_parser_sum
namespace rivetref15_parser_term
theorem step (q:Nat) (ih:Sat P (LW ad) 210 (rivetref15_parser_sum.spq q)∧Sat P (LW ad) 224 (rivetref15_parser_term.spq q)∧Sat P (LW ad) 228 (rivetref15_parser_factor.spq q)∧True):Sat P (LW ad) 224 (spq (q+1)):=sat_q mixed types_ok maps_ok 224 (spq (q+1)) [((228,[]),rivetref15_parser_factor.spq q),(Zbj.T ad).kv] (specs_cons ih.2.2.1 (enter_of (by kernel_rfl)) (specs_T (Zbj.T ad) specs_nil)) t0 (fun n=>tl 2 ⟨[(0,Sp 0 0),(1,Si),(5,.c (.row 54 u1))],[(none,[.sl u0,ki,ki])]⟩ (fun _=>l2 n (rec_rivetref15_parser_sum q)) <| tn) t0 27 [] (fun n=>f n (rec_rivetref15_parser_sum q)) (fun a b c d=>1000+a.toNat+b.length+c.toNat+d.toNat) (by kernel_rfl) (by kernel_rfl)
end rivetref15_parser_term
namespace rivetref15_parser_factor
theorem step (q:Nat) (ih:Sat P (LW ad) 210 (rivetref15_parser_sum.spq q)∧Sat P (LW ad) 224 (rivetref15_parser_term.spq q)∧Sat P (LW ad) 228 (rivetref15_parser_factor.spq q)∧True):Sat P (LW ad) 228 (spq (q+1)):=sat_q mixed types_ok maps_ok 228 (spq (q+1)) [(Zbj.T ad).kv,((228,[]),rivetref15_parser_factor.spq q),((210,[]),rivetref15_parser_sum.spq q),(Zbi.T ad).kv] (specs_T (Zbj.T ad) (specs_cons ih.2.2.1 (enter_of (by kernel_rfl)) (specs_cons ih.1 (enter_of (by kernel_rfl)) (specs_T (Zbi.T ad) specs_nil)))) (fun n=>tj 20 ⟨[(0,Sp 0 0)],[(none,[.sl u0,ki,ki])]⟩ (fun _=>j20 n (rec_rivetref15_parser_sum q)) <| tn) t0 t0 100 [] (fun n=>f n (rec_rivetref15_parser_sum q)) (fun a b c d=>1000+a.toNat+b.length+c.toNat+d.toNat) (by kernel_rfl) (by kernel_rfl)
end rivetref15_parser_factor
theorem rec_rivetref15_parser_sum_sat:∀ q,Sat P (LW ad) 210 (rivetref15_parser_sum.spq q)∧Sat P (LW ad) 224 (rivetref15_parser_term.spq q)∧Sat P (LW ad) 228 (rivetref15_parser_factor.spq q)∧True
 | 0=>⟨sat_none fun _=>rfl,sat_none fun _=>rfl,sat_none fun _=>rfl,trivial⟩
 | q+1=>⟨rivetref15_parser_sum.step q (rec_rivetref15_parser_sum_sat q),rivetref15_parser_term.step q (rec_rivetref15_parser_sum_sat q),rivetref15_parser_factor.step q (rec_rivetref15_parser_sum_sat q),trivial⟩
def rivetref15_parser_sum.sp:Spec:=mkSp ⟨[(0,Sp 0 0),(1,Si)],[(some 0,[.sl u0,ki,ki])]⟩ ⟨[(0,.c (.row 54 u1))],[(none,[.sl u0,ki,ki])]⟩ rivetref15_parser_sum.g
noncomputable def rivetref15_parser_sum.T (ad:LQ):TF P (LW ad):=⟨210,[],rivetref15_parser_sum.sp,sat_fq (F:=fun q=>(rec_rivetref15_parser_sum q).rivetref15_parser_sum) (fun a b c d=>1000+a.toNat+b.length+c.toNat+d.toNat) (fun q=>(rec_rivetref15_parser_sum_sat q).1) (fun _=>by kernel_rfl),enter_of (by kernel_rfl)⟩
def rivetref15_parser_term.sp:Spec:=mkSp ⟨[(0,Sp 0 0),(1,Si)],[(some 0,[.sl u0,ki,ki])]⟩ ⟨[(0,.c (.row 54 u1))],[(none,[.sl u0,ki,ki])]⟩ rivetref15_parser_term.g
noncomputable def rivetref15_parser_term.T (ad:LQ):TF P (LW ad):=⟨224,[],rivetref15_parser_term.sp,sat_fq (F:=fun q=>(rec_rivetref15_parser_sum q).rivetref15_parser_term) (fun a b c d=>1000+a.toNat+b.length+c.toNat+d.toNat) (fun q=>(rec_rivetref15_parser_sum_sat q).2.1) (fun _=>by kernel_rfl),enter_of (by kernel_rfl)⟩
def rivetref15_parser_factor.sp:Spec:=mkSp ⟨[(0,Sp 0 0),(1,Si)],[(some 0,[.sl u0,ki,ki])]⟩ ⟨[(0,.c (.row 54 u1))],[(none,[.sl u0,ki,ki])]⟩ rivetref15_parser_factor.g
noncomputable def rivetref15_parser_factor.T (ad:LQ):TF P (LW ad):=⟨228,[],rivetref15_parser_factor.sp,sat_fq (F:=fun q=>(rec_rivetref15_parser_sum q).rivetref15_parser_factor) (fun a b c d=>1000+a.toNat+b.length+c.toNat+d.toNat) (fun q=>(rec_rivetref15_parser_sum_sat q).2.2.1) (fun _=>by kernel_rfl),enter_of (by kernel_rfl)⟩
namespace Zds
def sp:Spec:=mkSp ⟨[(0,.c (.sl u0)),(1,Si)],[]⟩ ⟨[(0,.c (.row 54 u1)),(1,Si),(2,Si)],[]⟩ g
noncomputable def T (ad:LQ):=mkF ad 182 [] sp [rivetref15_parser_sum.T ad] t0 t0 t0 32 [] f (fun a b=>1000+a.length+b.toNat) (by kernel_rfl)
end Zds
namespace Zbw
def sp:Spec:=mkSp ⟨[(0,Sp 0 0)],[(some 0,[.sl u0,ki,ki])]⟩ ⟨[(0,.c (.row 54 u1))],[(none,[.sl u0,ki,ki])]⟩ g
noncomputable def T (ad:LQ):=mkF ad 140 [] sp [Zds.T ad] t0 t0 t0 33 [] f (fun a b c=>1000+a.length+b.toNat+c.toNat) (by kernel_rfl)
end Zbw
namespace Zcc
def sp:Spec:=mkSp ⟨[(0,Sp 0 0),(1,.agg c0),(2,Si),(3,Si)],[(some 0,[.sl u0,ki,ki])]⟩ ⟨[(0,.agg c0)],[(none,[.sl u0,ki,ki])]⟩ g
noncomputable def T (ad:LQ):=mkF ad 141 [] sp [Zbv.T ad,Zca.T ad,Zax.T ad,Zbw.T ad] (fun n=>tj 7 ⟨[(5,Sp 1 0),(8,Sp 2 0)],[(none,[.sl u0,ki,ki]),(some 0,c0),(some 1,c0)]⟩ (fun _=>j7 n) <| tn) t0 t0 29 [] f (fun a b c d e _ j k l o p q r=>1000+a.toNat+b.toNat+c.toNat+d.toNat+e.toNat+j.length+k.length+l.toNat+o.toNat+p.length+q.toNat+r.toNat) (by kernel_rfl)
end Zcc
namespace Zaj
def sp:Spec:=mkSp ⟨[(0,Sp 0 0),(1,.agg c0)],[(some 0,[.sl u0,ki,ki])]⟩ ⟨[(0,.agg c0)],[(none,[.sl u0,ki,ki])]⟩ g
noncomputable def T (ad:LQ):=mkF ad 98 [] sp [Zax.T ad,Zbn.T ad,Zbw.T ad,Zcc.T ad,Zbv.T ad,Zau.T ad] (fun n=>tj 16 ⟨[(0,Sp 0 0),(3,Sp 1 0),(4,Sp 2 0)],[(none,[.sl u0,ki,ki]),(some 1,c0),(some 2,c0)]⟩ (fun _=>j16 n) <| tj 12 ⟨[(0,Sp 0 0),(3,Sp 1 0),(4,Sp 2 0)],[(none,[.sl u0,ki,ki]),(some 1,c0),(some 2,c0)]⟩ (fun _=>j12 n) <| tj 35 ⟨[(3,Sp 1 0),(4,Sp 2 0)],[(none,[.sl u0,ki,ki]),(some 0,c0),(some 1,c0)]⟩ (fun _=>j35 n) <| tj 22 ⟨[(0,Sp 0 0),(3,Sp 1 0),(4,Sp 2 0)],[(none,[.sl u0,ki,ki]),(some 1,c0),(some 2,c0)]⟩ (fun _=>j22 n) <| tj 30 ⟨[(0,Sp 0 0),(3,Sp 1 0),(4,Sp 2 0)],[(none,[.sl u0,ki,ki]),(some 1,c0),(some 2,c0)]⟩ (fun _=>j30 n) <| tj 5 ⟨[(0,Sp 0 0),(3,Sp 1 0),(4,Sp 2 0)],[(none,[.sl u0,ki,ki]),(some 1,c0),(some 2,c0)]⟩ (fun _=>j5 n) <| tj 3 ⟨[(0,Sp 0 0),(3,Sp 1 0),(4,Sp 2 0)],[(none,[.sl u0,ki,ki]),(some 1,c0),(some 2,c0)]⟩ (fun _=>j3 n) <| tn) t0 t0 105 [] f (fun a b c d e _ j k l o p=>1000+a.toNat+b.toNat+c.toNat+d.toNat+e.toNat+j.length+k.length+l.length+o.toNat+p.toNat) (by kernel_rfl)
end Zaj
namespace Zan
def sp:Spec:=mkSp ⟨[(0,.c (.sl u0))],[]⟩ ⟨[(0,Ss),(1,.agg c0),(2,Si)],[]⟩ g
noncomputable def T (ad:LQ):=mkF ad 62 [] sp [Zbi.T ad,Zav.T ad,Zaj.T ad] (fun n=>tj 19 ⟨[(3,Sp 0 0),(5,Sp 1 0),(6,Ss),(13,Sp 2 0)],[(some 0,c0),(some 1,[.sl u0,ki,ki]),(some 3,c0)]⟩ (fun _=>j19 n) <| tj 15 ⟨[(0,.c (.sl u0)),(3,Sp 0 0),(5,Sp 1 0),(6,Ss),(8,Si),(9,Si),(10,SB)],[(some 1,c0),(some 2,[.sl u0,ki,ki])]⟩ (fun _=>j15 n) <| tj 13 ⟨[(0,.c (.sl u0)),(3,Sp 0 0),(5,Sp 1 0),(6,Ss),(7,Sp 2 0),(8,Si),(9,Si),(10,SB),(11,SB),(12,SB)],[(some 1,c0),(some 2,[.sl u0,ki,ki]),(some 4,[ki,ki,.str,ku])]⟩ (fun _=>j13 n) <| tj 8 ⟨[(0,.c (.sl u0)),(3,Sp 0 0),(5,Sp 1 0),(6,Ss)],[(some 1,c0),(some 2,[.sl u0,ki,ki])]⟩ (fun _=>j8 n) <| tn) t0 t0 144 [] f (fun a=>1000+a.length) (by kernel_rfl)
end Zan
namespace Zcq
def sp:Spec:=mkSp ⟨[(0,Ss)],[]⟩ ⟨[(0,.c (.row 39 u2)),(1,Si),(2,Si)],[]⟩ g
noncomputable def T (ad:LQ):=mkF ad 28 [] sp [Zbu.T ad,Zah.T ad,Zan.T ad] t0 (fun n=>tl 8 ⟨[(5,.c (.row 9 .str)),(6,.c (.row 39 u2)),(7,Si)],[]⟩ (fun _=>l8 n) <| tn) t0 59 [] f (fun a=>1000+a.length) (by kernel_rfl)
end Zcq
namespace Zay
def sp:Spec:=mkSp ⟨[(0,.c (.sl u2))],[]⟩ ⟨[(0,.c (.row 39 u2))],[]⟩ g
noncomputable def T (ad:LQ):=mkF ad 30 [] sp [] (fun n=>tj 15 ⟨[(0,.c (.sl u2)),(3,.c (.row 39 u2)),(4,Si),(5,Sp 0 0),(6,.c (.row 54 u1))],[(some 3,c2)]⟩ (fun ms=>j15 n (l3 n ms.head!)) <| tn) (fun n=>tl 10 ⟨[(0,.c (.sl u2)),(3,.c (.row 39 u2)),(4,Si),(5,Sp 0 0),(6,.c (.row 54 u1)),(7,Si)],[(some 3,c2)]⟩ (fun ms=>l10 n (l3 n ms.head!)) <| tl 3 ⟨[(0,.c (.sl u2)),(3,.c (.row 39 u2)),(4,Si)],[]⟩ (fun _=>l3 n) <| tn) t0 82 [] f (fun a=>1000+a.length) (by kernel_rfl)
end Zay
namespace Zdm
def sp:Spec:=mkSp ⟨[(0,Si)],[]⟩ ⟨[(0,SB)],[]⟩ g
noncomputable def T (ad:LQ):=mkF ad 53 [] sp [] t0 t0 t0 10 [] f (fun a=>1000+a.toNat) (by kernel_rfl)
end Zdm
namespace Zcd
def sp:Spec:=mkSp ⟨[(0,.agg [ki,ku,.str])],[]⟩ ⟨[(0,Si),(1,SB)],[]⟩ g
noncomputable def T (ad:LQ):=mkF ad 85 [] sp [Zae.T ad] (fun n=>tj 2 ⟨[(1,Sp 0 0),(4,SB)],[(some 0,[ki,ku,.str])]⟩ (fun _=>j2 n) <| tn) t0 t0 38 [] f (fun a b c=>1000+a.toNat+b.toNat+c.length) (by kernel_rfl)
end Zcd
namespace Zbp
def sp:Spec:=mkSp ⟨[(0,.c (.sl u1))],[]⟩ ⟨[(0,SB)],[]⟩ g
noncomputable def T (ad:LQ):=mkF ad 54 [] sp [Zcd.T ad] t0 (fun n=>tl 3 ⟨[(0,.c (.sl u1)),(3,Si),(8,.c (.sl u1)),(9,Si),(10,Si)],[]⟩ (fun _=>l3 n) <| tn) t0 38 [] f (fun a=>1000+a.length) (by kernel_rfl)
end Zbp
namespace Zdg
def sp:Spec:=mkSp ⟨[(0,Si),(1,Si),(2,Si)],[]⟩ ⟨[(0,SB)],[]⟩ g
noncomputable def T (ad:LQ):=mkF ad 88 [] sp [] t0 t0 t0 15 [] f (fun a b c=>1000+a.toNat+b.toNat+c.toNat) (by kernel_rfl)
end Zdg
namespace Zel
def sp:Spec:=mkSp ⟨[(0,SB)],[]⟩ ⟨[(0,Su)],[]⟩ g
noncomputable def T (ad:LQ):=mkF ad 176 [] sp [] t0 t0 t0 4 [] f (fun _=>(1000:Nat)) (by kernel_rfl)
end Zel
namespace Zbs
def sp:Spec:=mkSp ⟨[(0,Si),(1,SB),(2,SB)],[]⟩ ⟨[(0,.agg [ki,ki,ki])],[]⟩ g
noncomputable def T (ad:LQ):=mkF ad 134 [] sp [Zel.T ad] t0 t0 t0 19 [] f (fun a _ _=>1000+a.toNat) (by kernel_rfl)
end Zbs
namespace Zdx
def sp:Spec:=mkSp ⟨[(0,Si),(1,Si),(2,Sp 0 0),(3,Sp 1 0)],[(some 2,[ku]),(some 3,[ku])]⟩ ⟨[],[(none,[ku]),(none,[ku])]⟩ g
noncomputable def T (ad:LQ):=mkF ad 209 [] sp [] t0 t0 t0 17 [] f (fun a b c d=>1000+a.toNat+b.toNat+c.toNat+d.toNat) (by kernel_rfl)
end Zdx
namespace Zcx
def sp:Spec:=mkSp ⟨[(0,Si),(1,Si),(2,.clo 209 [.ptr 0 0,.ptr 1 0])],[(some 2,[ku]),(some 3,[ku])]⟩ ⟨[],[(none,[ku]),(none,[ku])]⟩ g
noncomputable def T (ad:LQ):=mkF ad 172 [209] sp [Zdx.T ad] t0 (fun n=>tl 2 ⟨[(0,Si),(1,Si),(2,.clo 209 [.ptr 0 0,.ptr 1 0]),(6,Si)],[(none,[ku]),(none,[ku])]⟩ (fun _=>l2 n) <| tn) t0 38 [] f (fun a b c d=>1000+a.toNat+b.toNat+c.toNat+d.toNat) (by kernel_rfl)
end Zcx
namespace Zdy
def sp:Spec:=mkSp ⟨[(0,Su),(1,Si),(2,Si),(3,Su)],[]⟩ ⟨[(0,Su)],[]⟩ g
noncomputable def T (ad:LQ):=mkF ad 175 [] sp [Zcx.T ad] t0 t0 t0 14 [] f (fun a b c d=>1000+a.toNat+b.toNat+c.toNat+d.toNat) (by kernel_rfl)
end Zdy
namespace Zaw
def sp:Spec:=mkSp ⟨[(0,.c (.sl u3))],[]⟩ ⟨[(0,Su)],[]⟩ g
noncomputable def T (ad:LQ):=mkF ad 133 [] sp [Zdy.T ad] t0 (fun n=>tl 3 ⟨[(3,Su),(6,.c (.sl u3)),(7,Si),(8,Si)],[]⟩ (fun _=>l3 n) <| tn) t0 23 [] f (fun a=>1000+a.length) (by kernel_rfl)
end Zaw
namespace Zcl
def sp:Spec:=mkSp ⟨[(0,.agg c3)],[]⟩ ⟨[(0,Su)],[]⟩ g
noncomputable def T (ad:LQ):=mkF ad 90 [] sp [Zbs.T ad,Zaw.T ad] (fun n=>tj 14 ⟨[(1,Sp 0 0),(6,Sp 1 0)],[(some 0,c3),(some 1,[ki,ki,ki])]⟩ (fun _=>j14 n) <| tn) t0 t0 97 [] f (fun a b c d e i _=>1000+a.toNat+b.toNat+c.toNat+d.toNat+e.toNat+i.toNat) (by kernel_rfl)
end Zcl
namespace Zdz
def sp:Spec:=mkSp ⟨[(0,Si),(1,Si),(2,Sp 0 0),(3,Sp 1 0)],[(some 2,[ku]),(some 3,[ku])]⟩ ⟨[],[(none,[ku]),(none,[ku])]⟩ g
noncomputable def T (ad:LQ):=mkF ad 173 [] sp [] t0 t0 t0 14 [] f (fun a b c d=>1000+a.toNat+b.toNat+c.toNat+d.toNat) (by kernel_rfl)
end Zdz
namespace Zcy
def sp:Spec:=mkSp ⟨[(0,Si),(1,Si),(2,.clo 173 [.ptr 0 0,.ptr 1 0])],[(some 2,[ku]),(some 3,[ku])]⟩ ⟨[],[(none,[ku]),(none,[ku])]⟩ g
noncomputable def T (ad:LQ):=mkF ad 172 [173] sp [Zdz.T ad] t0 (fun n=>tl 2 ⟨[(0,Si),(1,Si),(2,.clo 173 [.ptr 0 0,.ptr 1 0]),(6,Si)],[(none,[ku]),(none,[ku])]⟩ (fun _=>l2 n) <| tn) t0 38 [] f (fun a b c d=>1000+a.toNat+b.toNat+c.toNat+d.toNat) (by kernel_rfl)
end Zcy
namespace Zea
def sp:Spec:=mkSp ⟨[(0,Su),(1,Si),(2,Si)],[]⟩ ⟨[(0,Su)],[]⟩ g
noncomputable def T (ad:LQ):=mkF ad 131 [] sp [Zcy.T ad] t0 t0 t0 13 [] f (fun a b c=>1000+a.toNat+b.toNat+c.toNat) (by kernel_rfl)
end Zea
namespace Zbc
def sp:Spec:=mkSp ⟨[(0,Si),(1,Si),(2,.c (.pp (.int .u32)))],[]⟩ ⟨[(0,Si)],[]⟩ g
noncomputable def T (ad:LQ):=mkF ad 130 [] sp [Zea.T ad] t0 t0 t0 11 [] f (fun a b c=>1000+a.toNat+b.toNat+c.toNat) (by kernel_rfl)
end Zbc
namespace Zeh
def sp:Spec:=mkSp ⟨[(0,Si)],[]⟩ ⟨[(0,Si)],[]⟩ g
noncomputable def T (ad:LQ):=mkF ad 174 [] sp [] t0 t0 t0 6 [] f (fun a=>1000+a.toNat) (by kernel_rfl)
end Zeh
namespace Zdn
def sp:Spec:=mkSp ⟨[(0,Su),(1,Si)],[]⟩ ⟨[(0,Si)],[]⟩ g
noncomputable def T (ad:LQ):=mkF ad 132 [] sp [Zeh.T ad] t0 t0 t0 16 [] f (fun a b=>1000+a.toNat+b.toNat) (by kernel_rfl)
end Zdn
namespace Zbt
def sp:Spec:=mkSp ⟨[(0,Su)],[]⟩ ⟨[(0,.agg c3)],[]⟩ g
noncomputable def T (ad:LQ):=mkF ad 89 [] sp [Zbc.T ad,Zdn.T ad] (fun n=>tj 16 ⟨[(2,Sp 0 0),(6,Sp 1 0)],[(some 0,c3),(some 1,c3)]⟩ (fun _=>j16 n) <| tn) t0 t0 80 [] f (fun a=>1000+a.toNat) (by kernel_rfl)
end Zbt
namespace Zbd
def sp:Spec:=mkSp ⟨[(0,.agg c3)],[]⟩ ⟨[(0,SB)],[]⟩ g
noncomputable def T (ad:LQ):=mkF ad 57 [] sp [Zdg.T ad,Zcl.T ad,Zbt.T ad] (fun n=>tj 10 ⟨[(1,Sp 0 0)],[(some 0,c3)]⟩ (fun _=>j10 n) <| tn) t0 t0 64 [] f (fun a b c d e i _=>1000+a.toNat+b.toNat+c.toNat+d.toNat+e.toNat+i.toNat) (by kernel_rfl)
end Zbd
namespace Zag
def sp:Spec:=mkSp ⟨[(0,.agg c0)],[]⟩ ⟨[(0,SB)],[]⟩ g
noncomputable def T (ad:LQ):=mkF ad 24 [] sp [Zdm.T ad,Zbp.T ad,Zba.T ad,Zaz.T ad,Zbd.T ad] (fun n=>tj 12 ⟨[(3,Sp 0 0)],[(some 0,c3)]⟩ (fun _=>j12 n) <| tj 4 ⟨[(1,Sp 0 0),(3,Sp 1 0)],[(some 0,c0),(some 1,c3)]⟩ (fun _=>j4 n) <| tn) t0 t0 84 [] f (fun a b c d e _ j k=>1000+a.toNat+b.toNat+c.toNat+d.toNat+e.toNat+j.length+k.length) (by kernel_rfl)
end Zag
namespace Zeb
def sp:Spec:=mkSp ⟨[(0,Si)],[]⟩ ⟨[(0,Si)],[]⟩ g
noncomputable def T (ad:LQ):=mkF ad 51 [] sp [] t0 t0 t0 9 [] f (fun a=>1000+a.toNat) (by kernel_rfl)
end Zeb
namespace Zcg
def sp:Spec:=mkSp ⟨[(0,.agg c0),(1,.c (.pp .fn))],[]⟩ ⟨[(0,Ss)],[]⟩ g
noncomputable def T (ad:LQ):=mkF ad 120 [] sp [Zdj.T ad,Zaz.T ad,Zdk.T ad,Zdl.T ad] t0 t0 t0 9 [K.atA,K.atB,K.atC] f (fun a b c d e _ j k _=>1000+a.toNat+b.toNat+c.toNat+d.toNat+e.toNat+j.length+k.length) (by kernel_rfl)
end Zcg
namespace Zdt
def sp:Spec:=mkSp ⟨[(0,.c kq),(1,Si)],[]⟩ ⟨[(0,Ss)],[]⟩ g
noncomputable def T (ad:LQ):=mkF ad 166 [] sp [internal_strconv_FormatUint.T ad] t0 t0 t0 8 [] f (fun a b=>1000+a.toNat+b.toNat) (by kernel_rfl)
end Zdt
namespace Zbk
def sp:Spec:=mkSp ⟨[(0,.agg [.str,ki]),(1,Si)],[]⟩ ⟨[(0,Ss)],[]⟩ g
noncomputable def T (ad:LQ):=mkF ad 167 [] sp [] t0 t0 t0 15 [] f (fun a b c=>1000+a.length+b.toNat+c.toNat) (by kernel_rfl)
end Zbk
namespace Zai
def sp:Spec:=mkSp ⟨[(0,.c (.sl u1))],[]⟩ ⟨[(0,Ss),(1,Si)],[]⟩ g
noncomputable def T (ad:LQ):=mkF ad 124 [] sp [Zbp.T ad,Zcd.T ad,Zdt.T ad,Zbk.T ad] (fun n=>tj 23 ⟨[(4,.c (.row 183 u4)),(7,Si),(10,Sp 0 0),(14,.c (.sl u1)),(15,Si),(16,Si)],[(some 2,[.str,ki])]⟩ (fun ms=>j23 n (l5 n ms.head!)) <| tn) (fun n=>tl 5 ⟨[(4,.c (.row 183 u4)),(14,.c (.sl u1)),(15,Si),(16,Si)],[]⟩ (fun _=>l5 n) <| tn) t0 106 [] f (fun a=>1000+a.length) (by kernel_rfl)
end Zai
namespace Zcm
def sp:Spec:=mkSp ⟨[(0,Ss),(1,Sb)],[]⟩ ⟨[(0,Ss)],[]⟩ g
noncomputable def T (ad:LQ):=mkF ad 109 [] sp [] t0 (fun n=>tl 1 ⟨[(0,Ss),(1,Sb)],[]⟩ (fun _=>l1 n) <| tn) t0 17 [] f (fun a b=>1000+a.length+b.toNat) (by kernel_rfl)
end Zcm
namespace Zdh
def sp:Spec:=mkSp ⟨[(0,Ss),(1,Ss)],[]⟩ ⟨[(0,Ss)],[]⟩ g
noncomputable def T (ad:LQ):=mkF ad 125 [] sp [Zcm.T ad] (fun n=>tj 5 ⟨[(0,Ss),(1,Ss)],[]⟩ (fun _=>j5 n) <| tn) t0 t0 37 [] f (fun a b=>1000+a.length+b.length) (by kernel_rfl)
end Zdh
namespace Zdo
def sp:Spec:=mkSp ⟨[(0,.agg c0),(1,.c (.pp .str))],[]⟩ ⟨[(0,Ss)],[]⟩ g
noncomputable def T (ad:LQ):=mkF ad 123 [] sp [Zai.T ad,Zdh.T ad] t0 t0 t0 17 [] f (fun a b c d e _ j k l=>1000+a.toNat+b.toNat+c.toNat+d.toNat+e.toNat+j.length+k.length+l.length) (by kernel_rfl)
end Zdo
namespace Zei
def sp:Spec:=mkSp ⟨[(0,.agg c0)],[]⟩ ⟨[(0,Ss)],[]⟩ g
noncomputable def T (ad:LQ):=mkF ad 79 [] sp [] t0 t0 t0 5 [] f (fun a b c d e _ j k=>1000+a.toNat+b.toNat+c.toNat+d.toNat+e.toNat+j.length+k.length) (by kernel_rfl)
end Zei
namespace Zad
def sp:Spec:=mkSp ⟨[(0,Ss),(1,.agg c0)],[]⟩ ⟨[(0,Ss),(1,Si)],[]⟩ g
noncomputable def T (ad:LQ):=mkF ad 23 [] sp [Zae.T ad,Zag.T ad,Zeb.T ad,name_Mnemonic.T ad,Zdd.T ad,stmt_operands.T ad,strings_Join.T ad,Zcg.T ad,Zdo.T ad,Zei.T ad] (fun n=>tj 15 ⟨[(3,Sp 0 0),(6,.c (.row 9 .str)),(7,Ss),(8,.c (.row 9 .str)),(50,.c (.sl u5)),(51,Si),(52,Si)],[(some 0,c0)]⟩ (fun ms=>j15 n (l12 n ms.head!)) <| tj 17 ⟨[(6,.c (.row 9 .str))],[]⟩ (fun _=>j17 n) <| tj 10 ⟨[(3,Sp 0 0),(6,.c (.row 9 .str)),(7,Ss)],[(some 0,c0)]⟩ (fun _=>j10 n) <| tj 6 ⟨[(3,Sp 0 0),(6,.c (.row 9 .str))],[(some 0,c0)]⟩ (fun _=>j6 n) <| tj 3 ⟨[(0,Ss),(3,Sp 0 0)],[(some 1,c0)]⟩ (fun _=>j3 n) <| tn) (fun n=>tl 12 ⟨[(3,Sp 0 0),(6,.c (.row 9 .str)),(7,Ss),(8,.c (.row 9 .str)),(50,.c (.sl u5)),(51,Si),(52,Si)],[(some 0,c0)]⟩ (fun _=>l12 n) <| tn) t0 72 [K.wrA,K.wrB,K.wrC,K.wrE,K.wrQ,K.wrN] f (fun a b c d e i _ k l=>1000+a.length+b.toNat+c.toNat+d.toNat+e.toNat+i.toNat+k.length+l.length) (by kernel_rfl)
end Zad
namespace Zee
def sp:Spec:=mkSp ⟨[(0,.agg c2)],[]⟩ ⟨[(0,Ss),(1,Si)],[]⟩ g
noncomputable def T (ad:LQ):=mkF ad 64 [] sp [Zad.T ad] t0 t0 t0 11 [] f (fun a b c d e i _ k l=>1000+a.length+b.toNat+c.toNat+d.toNat+e.toNat+i.toNat+k.length+l.length) (by kernel_rfl)
end Zee
namespace Zdb
def sp:Spec:=mkSp ⟨[(0,.c (.sl u2)),(1,.c (.raw (.func (.func 64) #[] #[])))],[]⟩ ⟨[(0,.c (.row 9 .str)),(1,Si),(2,Si)],[]⟩ g
noncomputable def T (ad:LQ):=mkF ad 63 [] sp [Zee.T ad] t0 (fun n=>tl 5 ⟨[(1,.c (.raw (.func (.func 64) #[] #[]))),(7,.c (.row 9 .str)),(15,.c (.sl u2)),(16,Si),(17,Si)],[]⟩ (fun _=>l5 n) <| tn) t0 39 [] f (fun a=>1000+a.length) (by kernel_rfl)
end Zdb
namespace Zef
def sp:Spec:=mkSp ⟨[(0,.c (.sl u2))],[]⟩ ⟨[(0,Ss),(1,Si),(2,Si)],[]⟩ g
noncomputable def T (ad:LQ):=mkF ad 29 [] sp [Zdb.T ad,strings_Join.T ad] t0 t0 t0 20 [] f (fun a=>1000+a.length) (by kernel_rfl)
end Zef
namespace Zcn
def sp:Spec:=mkSp ⟨[(0,.agg c0)],[]⟩ ⟨[(0,.agg c3)],[]⟩ g
noncomputable def T (ad:LQ):=mkF ad 58 [] sp [] t0 t0 t0 16 [] f (fun a b c d e _ j k=>1000+a.toNat+b.toNat+c.toNat+d.toNat+e.toNat+j.length+k.length) (by kernel_rfl)
end Zcn
namespace Zco
def sp:Spec:=mkSp ⟨[(0,Si)],[]⟩ ⟨[(0,SB)],[]⟩ g
noncomputable def T (ad:LQ):=mkF ad 183 [] sp [] t0 t0 t0 9 [] f (fun a=>1000+a.toNat) (by kernel_rfl)
end Zco
namespace Zej
def sp:Spec:=mkSp ⟨[(0,Si),(1,Si)],[]⟩ ⟨[(0,SB)],[]⟩ g
noncomputable def T (ad:LQ):=mkF ad 184 [] sp [] t0 t0 t0 21 [] f (fun a b=>1000+a.toNat+b.toNat) (by kernel_rfl)
end Zej
namespace Zak
def sp:Spec:=mkSp ⟨[(0,.agg c3)],[]⟩ ⟨[(0,SB)],[]⟩ g
noncomputable def T (ad:LQ):=mkF ad 143 [] sp [Zco.T ad,Zej.T ad] (fun n=>tj 22 ⟨[(1,Sp 0 0),(3,Sp 1 0),(5,SB)],[(some 0,c3),(some 1,c3)]⟩ (fun _=>j22 n) <| tj 21 ⟨[(1,Sp 0 0),(3,Sp 1 0)],[(some 0,c3),(some 1,c3)]⟩ (fun _=>j21 n) <| tj 15 ⟨[(1,Sp 0 0),(3,Sp 1 0)],[(some 0,c3),(some 1,c3)]⟩ (fun _=>j15 n) <| tj 13 ⟨[(1,Sp 0 0),(3,Sp 1 0),(4,SB)],[(some 0,c3),(some 1,c3)]⟩ (fun _=>j13 n) <| tj 8 ⟨[(1,Sp 0 0),(3,Sp 1 0),(4,SB)],[(some 0,c3),(some 1,c3)]⟩ (fun _=>j8 n) <| tj 25 ⟨[(1,Sp 0 0),(3,Sp 1 0)],[(some 0,c3),(some 1,c3)]⟩ (fun _=>j25 n) <| tj 26 ⟨[(1,Sp 0 0),(3,Sp 1 0),(36,Si)],[(some 0,c3),(some 1,c3)]⟩ (fun _=>j26 n) <| tj 23 ⟨[(1,Sp 0 0),(3,Sp 1 0),(36,Si)],[(some 0,c3),(some 1,c3)]⟩ (fun _=>j23 n) <| tj 5 ⟨[(1,Sp 0 0),(3,Sp 1 0),(4,SB)],[(some 0,c3),(some 1,c3)]⟩ (fun _=>j5 n) <| tn) t0 t0 186 [] f (fun a b c d e i _=>1000+a.toNat+b.toNat+c.toNat+d.toNat+e.toNat+i.toNat) (by kernel_rfl)
end Zak
namespace Zdu
def sp:Spec:=mkSp ⟨[(0,.agg [ki,ku,.str])],[]⟩ ⟨[(0,Si)],[]⟩ g
noncomputable def T (ad:LQ):=mkF ad 185 [] sp [Zbi.T ad] t0 t0 t0 39 [] f (fun a b c=>1000+a.toNat+b.toNat+c.length) (by kernel_rfl)
end Zdu
namespace Zbq
def sp:Spec:=mkSp ⟨[(0,.c (.sl u1))],[]⟩ ⟨[(0,SB)],[]⟩ g
noncomputable def T (ad:LQ):=mkF ad 144 [] sp [Zdu.T ad] t0 (fun n=>tl 3 ⟨[(0,.c (.sl u1)),(3,Si),(4,Si)],[]⟩ (fun _=>l3 n) <| tn) t0 35 [] f (fun a=>1000+a.length) (by kernel_rfl)
end Zbq
namespace Zal
def sp:Spec:=mkSp ⟨[(0,.agg c0)],[]⟩ ⟨[(0,SB)],[]⟩ g
noncomputable def T (ad:LQ):=mkF ad 99 [] sp [Zcn.T ad,Zau.T ad,Zak.T ad,Zbq.T ad] (fun n=>tj 8 ⟨[(1,Sp 0 0),(3,Sp 1 0),(4,SB)],[(some 0,c0),(some 1,c3)]⟩ (fun _=>j8 n) <| tj 13 ⟨[(1,Sp 0 0),(3,Sp 1 0)],[(some 0,c0),(some 1,c3)]⟩ (fun _=>j13 n) <| tj 17 ⟨[(1,Sp 0 0),(3,Sp 1 0)],[(some 0,c0),(some 1,c3)]⟩ (fun _=>j17 n) <| tj 18 ⟨[(1,Sp 0 0),(3,Sp 1 0),(16,Si)],[(some 0,c0),(some 1,c3)]⟩ (fun _=>j18 n) <| tj 14 ⟨[(1,Sp 0 0),(3,Sp 1 0),(16,Si)],[(some 0,c0),(some 1,c3)]⟩ (fun _=>j14 n) <| tj 9 ⟨[(1,Sp 0 0),(3,Sp 1 0),(16,Si)],[(some 0,c0),(some 1,c3)]⟩ (fun _=>j9 n) <| tn) t0 t0 100 [] f (fun a b c d e _ j k=>1000+a.toNat+b.toNat+c.toNat+d.toNat+e.toNat+j.length+k.length) (by kernel_rfl)
end Zal
namespace Zcz
def sp:Spec:=mkSp ⟨[(0,.agg c0)],[]⟩ ⟨[(0,Ss)],[]⟩ g
noncomputable def T (ad:LQ):=mkF ad 100 [] sp [Zac.T ad] (fun n=>tj 9 ⟨[(1,Sp 0 0)],[(some 0,c0)]⟩ (fun _=>j9 n) <| tn) t0 t0 33 [] f (fun a b c d e _ j k=>1000+a.toNat+b.toNat+c.toNat+d.toNat+e.toNat+j.length+k.length) (by kernel_rfl)
end Zcz
namespace Zce
def sp:Spec:=mkSp ⟨[(0,Su)],[]⟩ ⟨[(0,Ss)],[]⟩ g
noncomputable def T (ad:LQ):=mkF ad 186 [] sp [] t0 (fun n=>tl 2 ⟨[(0,Su),(3,Ss)],[]⟩ (fun _=>l2 n) <| tn) t0 23 [] f (fun a=>1000+a.toNat) (by kernel_rfl)
end Zce
namespace Zbm
def sp:Spec:=mkSp ⟨[(0,Ss),(1,Si),(2,.c (.sl (.int .i64)))],[]⟩ ⟨[(0,Ss)],[]⟩ g
noncomputable def T (ad:LQ):=mkF ad 187 [] sp [] t0 (fun n=>tl 2 ⟨[(0,Ss),(1,Si),(2,.c (.sl (.int .i64))),(7,Si)],[]⟩ (fun _=>l2 n) <| tn) t0 24 [] f (fun a b c=>1000+a.length+b.toNat+c.length) (by kernel_rfl)
end Zbm
namespace Zaf
def sp:Spec:=mkSp ⟨[(0,.c (.sl u1))],[]⟩ ⟨[(0,Ss),(1,Si)],[]⟩ g
noncomputable def T (ad:LQ):=mkF ad 145 [] sp [Zbq.T ad,Zce.T ad,Zbm.T ad] (fun n=>tj 27 ⟨[(0,.c (.sl u1)),(4,.c (.row 9 .str)),(5,.c (.row 3 (.int .i64))),(6,Si),(7,Si),(8,Si),(9,Ss)],[]⟩ (fun ms=>j27 n (l6 n ms.head!)) <| tj 16 ⟨[(0,.c (.sl u1)),(4,.c (.row 9 .str)),(5,.c (.row 3 (.int .i64))),(6,Si),(7,Si),(8,Si),(10,Ss)],[]⟩ (fun ms=>j16 n (l6 n ms.head!)) <| tn) (fun n=>tl 6 ⟨[(0,.c (.sl u1)),(4,.c (.row 9 .str)),(5,.c (.row 3 (.int .i64))),(6,Si)],[]⟩ (fun _=>l6 n) <| tn) t0 130 [] f (fun a=>1000+a.length) (by kernel_rfl)
end Zaf
namespace Zda
def sp:Spec:=mkSp ⟨[(0,.agg c0)],[]⟩ ⟨[(0,.c (.row 9 .str))],[]⟩ g
noncomputable def T (ad:LQ):=mkF ad 101 [] sp [Zaf.T ad,Zbo.T ad] (fun n=>tj 26 ⟨[(3,Ss)],[]⟩ (fun _=>j26 n) <| tn) t0 t0 77 [] f (fun a b c d e _ j k=>1000+a.toNat+b.toNat+c.toNat+d.toNat+e.toNat+j.length+k.length) (by kernel_rfl)
end Zda
namespace Zao
def sp:Spec:=mkSp ⟨[(0,Ss),(1,.agg c0)],[]⟩ ⟨[(0,Ss),(1,Si)],[]⟩ g
noncomputable def T (ad:LQ):=mkF ad 65 [] sp [Zbi.T ad,Zal.T ad,Zcz.T ad,Zda.T ad] (fun n=>tj 17 ⟨[(6,Ss),(7,.c (.row 9 .str)),(8,Si)],[]⟩ (fun ms=>j17 n (l13 n ms.head!)) <| tj 10 ⟨[(3,Sp 0 0),(6,Ss)],[(some 0,c0)]⟩ (fun _=>j10 n) <| tj 6 ⟨[(0,Ss),(3,Sp 0 0),(6,Ss)],[(some 1,c0)]⟩ (fun _=>j6 n) <| tj 3 ⟨[(0,Ss),(3,Sp 0 0)],[(some 1,c0)]⟩ (fun _=>j3 n) <| tn) (fun n=>tl 13 ⟨[(6,Ss),(7,.c (.row 9 .str)),(8,Si)],[]⟩ (fun _=>l13 n) <| tn) t0 57 [] f (fun a b c d e i _ k l=>1000+a.length+b.toNat+c.toNat+d.toNat+e.toNat+i.toNat+k.length+l.length) (by kernel_rfl)
end Zao
namespace Zcr
def sp:Spec:=mkSp ⟨[(0,.c (.sl u2))],[]⟩ ⟨[(0,Ss),(1,Si),(2,Si)],[]⟩ g
noncomputable def T (ad:LQ):=mkF ad 31 [] sp [Zao.T ad] t0 (fun n=>tl 5 ⟨[(0,.c (.sl u2)),(5,Ss),(6,Si)],[]⟩ (fun _=>l5 n) <| tn) t0 42 [] f (fun a=>1000+a.length) (by kernel_rfl)
end Zcr
namespace Zck
def sp:Spec:=mkSp ⟨[(0,.c (.sl u1)),(1,.c (.sl u1))],[]⟩ ⟨[(0,SB)],[]⟩ g
noncomputable def T (ad:LQ):=mkF ad 59 [] sp [] t0 (fun n=>tl 4 ⟨[(0,.c (.sl u1)),(1,.c (.sl u1)),(5,Si)],[]⟩ (fun _=>l4 n) <| tn) t0 26 [] f (fun a b=>1000+a.length+b.length) (by kernel_rfl)
end Zck
namespace Zec
def sp:Spec:=mkSp ⟨[(0,.agg c0),(1,.agg c0)],[]⟩ ⟨[(0,SB)],[]⟩ g
noncomputable def T (ad:LQ):=mkF ad 25 [] sp [Zcn.T ad,Zck.T ad] t0 t0 t0 24 [] f (fun a b c d e _ j k l o p q r _ t u=>1000+a.toNat+b.toNat+c.toNat+d.toNat+e.toNat+j.length+k.length+l.toNat+o.toNat+p.toNat+q.toNat+r.toNat+t.length+u.length) (by kernel_rfl)
end Zec
namespace Zch
def sp:Spec:=mkSp ⟨[(0,.c (.sl u2)),(1,.c (.sl u2))],[]⟩ ⟨[(0,SB)],[]⟩ g
noncomputable def T (ad:LQ):=mkF ad 17 [] sp [Zec.T ad] t0 (fun n=>tl 4 ⟨[(0,.c (.sl u2)),(1,.c (.sl u2)),(5,Si)],[]⟩ (fun _=>l4 n) <| tn) t0 44 [] f (fun a b=>1000+a.length+b.length) (by kernel_rfl)
end Zch
namespace rivetlaw18_TextAll
def sp:Spec:=mkSp ⟨[(0,Ss),(1,.c (.sl u2))],[]⟩ ⟨[(0,SB)],[]⟩ g
noncomputable def T (ad:LQ):=mkF ad 12 [] sp [Zem.T ad,Zdp.T ad,Zbx.T ad,Zcq.T ad,Zay.T ad,Zef.T ad,Zcr.T ad,Zch.T ad] t0 t0 t0 78 [] f (fun a b=>1000+a.length+b.length) (by kernel_rfl)
end rivetlaw18_TextAll
theorem rivetlaw18_TextAll.sat:Sat P (LW ad) 12 rivetlaw18_TextAll.sp:=(rivetlaw18_TextAll.T ad).sat
end
end Rv
namespace Rv
open Go
theorem w64 {x:Int} (h:-9223372036854775808≤x∧x≤9223372036854775807):IntKind.i64.wrap x=x:=IntWalk.i64_in _ h
theorem w32u {x:Int} (h:0≤x∧x≤4294967295):IntKind.u32.wrap x=x:=IntWalk.u32_in _ h
theorem w8u {x:Int} (h:0≤x∧x≤255):IntKind.u8.wrap x=x:=IntWalk.u8_in _ h
theorem w64u {x:Int} (h:0≤x∧x≤18446744073709551615):IntKind.u64.wrap x=x:=IntWalk.u64_in _ h
theorem dt {p:Prop} [Decidable p]:(decide p=true)=p:=by simp
theorem df {p:Prop} [Decidable p]:(decide p=false)=¬ p:=by simp
theorem bt_nat (s:Str) (k:Nat):bt s (k:Int)=((s.getD k 0).toNat:Int):=rfl
theorem byte_lt (b:UInt8):(b.toNat:Int) < 256:=by have:=b.toNat_lt; omega
theorem drop_cons {s:Str} {k:Nat} (h:k < s.length):s.drop k=s.getD k 0::s.drop (k+1):=by
 rw [List.drop_eq_getElem_cons h]
 congr 1
 simp [List.getD,h]
theorem byte_is (b:UInt8) (n:Nat) (hn:n < 256):((b.toNat:Int)=(n:Int))=(b=UInt8.ofNat n):=by
 apply propext
 constructor
 ·intro h
  apply UInt8.toNat_inj.1
  rw [UInt8.toNat_ofNat',Nat.mod_eq_of_lt hn]
  omega
 ·intro h
  rw [h,UInt8.toNat_ofNat',Nat.mod_eq_of_lt hn]
theorem wfU32 {n:Int} (h:(Lit.int .u32 n).wf=true):0≤n∧n≤4294967295:=by
 simp [Lit.wf,IntKind.min,IntKind.max,IntKind.signed,IntKind.bits] at h; omega
theorem wfLen {n:Nat} (h:n≤maxLen):n≤9223372036854775807:=by unfold maxLen at h; omega
end Rv
namespace Rv
open Go
abbrev W32:=BitVec 32
theorem ofI (W:W32):BitVec.ofInt 32 (W.toNat:Int)=W:=by simp
theorem wr32 (x:Int):IntKind.u32.wrap x=((BitVec.ofInt 32 x).toNat:Int):=by
 rw [IntKind.wrap_u32,BitVec.toNat_ofInt]
 omega
theorem w32n (W:W32):IntKind.u32.wrap (W.toNat:Int)=(W.toNat:Int):=by rw [wr32,ofI]
theorem or32 (A B:W32):bitsI .or .u32 (A.toNat:Int) (B.toNat:Int)=((A ||| B).toNat:Int):=by
 show IntKind.u32.wrap (((BitVec.ofInt 32 (A.toNat:Int) ||| BitVec.ofInt 32 (B.toNat:Int)).toNat:Nat):Int)=_
 rw [ofI,ofI,w32n]
theorem and32 (A B:W32):bitsI .and .u32 (A.toNat:Int) (B.toNat:Int)=((A &&& B).toNat:Int):=by
 show IntKind.u32.wrap (((BitVec.ofInt 32 (A.toNat:Int) &&& BitVec.ofInt 32 (B.toNat:Int)).toNat:Nat):Int)=_
 rw [ofI,ofI,w32n]
theorem andNot32 (A B:W32):bitsI .andNot .u32 (A.toNat:Int) (B.toNat:Int)=((A &&& ~~~B).toNat:Int):=by
 show IntKind.u32.wrap (((BitVec.ofInt 32 (A.toNat:Int) &&& ~~~BitVec.ofInt 32 (B.toNat:Int)).toNat:Nat):Int)=_
 rw [ofI,ofI,w32n]
theorem shl32 (A:W32) (b:Nat) (hb:b≤32):IntKind.u32.wrap ((A.toNat:Int) * 2 ^ (min ((b:Int)).toNat IntKind.u32.bits))=((A <<< b).toNat:Int):=by
 have e:min ((b:Int)).toNat IntKind.u32.bits=b:=by show min ((b:Int)).toNat 32=b; omega
 rw [e,IntKind.wrap_u32,BitVec.toNat_shiftLeft,Nat.shiftLeft_eq]
 have:(A.toNat:Int) * 2 ^ b=((A.toNat * 2 ^ b:Nat):Int):=by rw [Int.natCast_mul,Int.natCast_pow]; rfl
 rw [this]
 generalize A.toNat * 2 ^ b=q
 omega
theorem shr32 (A:W32) (b:Nat) (hb:b≤32):(A.toNat:Int).fdiv (2 ^ (min ((b:Int)).toNat IntKind.u32.bits))=((A >>> b).toNat:Int):=by
 have e:min ((b:Int)).toNat IntKind.u32.bits=b:=by show min ((b:Int)).toNat 32=b; omega
 rw [e,BitVec.toNat_ushiftRight,Nat.shiftRight_eq_div_pow,Int.fdiv_eq_ediv_of_nonneg _ (Int.le_of_lt (Int.pow_pos (by decide))),Int.natCast_ediv,Int.natCast_pow]
 rfl
def setStep (W X:W32) (b p:Nat):W32:=(W &&& ~~~(1#32 <<< b)) ||| (((X >>> p) &&& 1#32) <<< b)
def setV (W X:W32) (a:Nat):Nat→W32
 | 0=>W
 | k+1=>setStep (setV W X a k) X (a+k) k
def getV (W:W32) (a:Nat):Nat→W32
 | 0=>0
 | k+1=>getV W a k ||| (((W >>> (a+k)) &&& 1#32) <<< k)
theorem one_bit (j:Nat):(1#32).getLsbD j=decide (j=0):=by
 rw [BitVec.getLsbD_one]; simp
theorem setStep_bit (W X:W32) {b p:Nat} (hb:b < 32) {j:Nat} (hj:j < 32):(setStep W X b p).getLsbD j=if j=b then X.getLsbD p else W.getLsbD j:=by
 unfold setStep
 rw [BitVec.getLsbD_or,BitVec.getLsbD_and,BitVec.getLsbD_not,BitVec.getLsbD_shiftLeft,BitVec.getLsbD_shiftLeft,BitVec.getLsbD_and,BitVec.getLsbD_ushiftRight,one_bit]
 by_cases h:j=b
 ·subst h
  simp [hj]
 ·rw [if_neg h]
  by_cases h2:j < b
  ·simp [hj,h2]
  ·have:¬ j - b=0:=by omega
   simp [hj,this]
theorem setV_bit (W X:W32) {a:Nat}:∀ {n:Nat},a+n≤32→∀ {j:Nat},j < 32→(setV W X a n).getLsbD j=if a≤j∧j < a+n then X.getLsbD (j - a) else W.getLsbD j
 | 0,_,j,_=>by rw [if_neg (by omega)]; rfl
 | n+1,h,j,hj=>by
  rw [setV,setStep_bit _ _ (by omega) hj]
  by_cases e:j=a+n
  ·rw [if_pos e,if_pos (by omega),e,Nat.add_sub_cancel_left]
  ·rw [if_neg e,setV_bit W X (by omega) hj]
   by_cases e2:a≤j∧j < a+n
   ·rw [if_pos e2,if_pos (by omega)]
   ·rw [if_neg e2,if_neg (by omega)]
theorem getV_bit (W:W32) {a:Nat}:∀ {n:Nat},n≤32→∀ {j:Nat},j < 32→(getV W a n).getLsbD j=(decide (j < n) && W.getLsbD (a+j))
 | 0,_,j,_=>by simp [getV]
 | n+1,h,j,hj=>by
  rw [getV,BitVec.getLsbD_or,getV_bit W (by omega) hj,BitVec.getLsbD_shiftLeft,BitVec.getLsbD_and,BitVec.getLsbD_ushiftRight,one_bit]
  by_cases e:j=n
  ·subst e
   simp [hj]
  ·by_cases e2:j < n
   ·simp [e2]; omega
   ·have h1:¬ j - n=0:=by omega
    have h2:¬ j < n+1:=by omega
    simp [e2,h1,h2]
theorem bits_eq {A B:W32} (h:∀ j,j < 32→A.getLsbD j=B.getLsbD j):A=B:=BitVec.eq_of_getLsbD_eq fun j hj=>h j hj
theorem get_in (W X:W32) {a n b m:Nat} (h:a+n≤32) (h1:a≤b) (h2:b+m≤a+n):getV (setV W X a n) b m=getV X (b - a) m:=bits_eq fun j hj=>by
 rw [getV_bit _ (by omega) hj,getV_bit _ (by omega) hj]
 by_cases e:j < m
 ·rw [setV_bit _ _ h (by omega),if_pos (by omega),show b+j - a=b - a+j by omega]
 ·simp [e]
theorem get_out (W X:W32) {a n b m:Nat} (h:a+n≤32) (hb:b+m≤32) (h1:b+m≤a∨a+n≤b):getV (setV W X a n) b m=getV W b m:=bits_eq fun j hj=>by
 rw [getV_bit _ (by omega) hj,getV_bit _ (by omega) hj]
 by_cases e:j < m
 ·rw [setV_bit _ _ h (by omega),if_neg (by omega)]
 ·simp [e]
theorem get_zero (b m:Nat) (hm:m≤32):getV 0 b m=0:=bits_eq fun j hj=>by
 rw [getV_bit _ hm hj]; simp
theorem get_all {X:W32} {n:Nat} (hn:n≤32) (hx:X.toNat < 2 ^ n):getV X 0 n=X:=bits_eq fun j hj=>by
 rw [getV_bit _ hn hj,Nat.zero_add]
 by_cases e:j < n
 ·simp [e]
 ·have:X.getLsbD j=false:=by
   show X.toNat.testBit j=false
   exact Nat.testBit_lt_two_pow (Nat.lt_of_lt_of_le hx (Nat.pow_le_pow_right (by decide) (by omega)))
  simp [e,this]
theorem get_lt (W:W32) (a:Nat) {n:Nat} (hn:n≤32):(getV W a n).toNat < 2 ^ n:=by
 refine Nat.lt_pow_two_of_testBit _ fun j hj=>?_
 by_cases h:j < 32
 ·have:=getV_bit W (a:=a) hn h
  show (getV W a n).getLsbD j=false
  rw [this]; simp; omega
 ·exact BitVec.getLsbD_of_ge _ _ (by omega)
theorem set1_eq (W X:W32) {b p:Nat} (hb:b < 32) (hp:p < 32):Zdx.g (b:Int) (p:Int) (W.toNat:Int) (X.toNat:Int)=some (((setStep W X b p).toNat:Int),(X.toNat:Int),()):=by
 unfold Zdx.g Zdx.f
 have e1:(1:Int)=((1#32).toNat:Int):=rfl
 rw [if_neg (by omega),if_neg (by omega),if_neg (by omega),shr32 X p (by omega),e1,shl32 (1#32) b (by omega),and32,shl32 _ b (by omega),andNot32,or32]
 rfl
theorem each_set (n:Nat) (X W:W32) {a c:Nat} (hc:1≤c) (h:a+c≤32):∀ (m k:Nat),k≤c→c - k < m→Zcx.l2 n m (a:Int) (c:Int) ((a+k:Nat):Int) ((setV W X a k).toNat:Int) (X.toNat:Int)=some (((setV W X a c).toNat:Int),(X.toNat:Int),()):=by
 intro m
 induction m with
 | zero=>intro k _ hm; omega
 | succ m ih=>
  intro k hk hm
  rw [Zcx.l2]
  simp only [dt]
  by_cases e:k=c
  ·subst e
   by_cases e2:a+k < 32
   ·rw [if_pos (by omega),if_neg (by rw [w64 (by omega)]; omega)]
   ·rw [if_neg (by omega)]
  ·rw [if_pos (by omega),w64 (by omega),if_pos (by omega),show ((a+k:Nat):Int) - (a:Int)=(k:Int) by omega,set1_eq _ X (by omega) (by omega),Option.bind_some]
   dsimp only
   rw [w64 (by omega),show ((a+k:Nat):Int)+1=((a+(k+1):Nat):Int) by omega]
   exact ih (k+1) (by omega) (by omega)
theorem set_eq (W X:W32) {a c:Nat} (hc:1≤c) (h:a+c≤32):Zdy.g (W.toNat:Int) (a:Int) (c:Int) (X.toNat:Int)=some (((setV W X a c).toNat:Int),()):=by
 unfold Zdy.g Zdy.f Zcx.g Zcx.f
 simp only [dt,df]
 rw [if_pos (by omega),if_pos (by omega),w64 (by omega),if_neg (by omega)]
 have hmx:mx (a:Int) 0=((a+0:Nat):Int):=by unfold mx; split <;> omega
 rw [hmx]
 have:=each_set (1000+((a:Int)).toNat+((c:Int)).toNat+((W.toNat:Int)).toNat+((X.toNat:Int)).toNat) X W hc h (1000+((a:Int)).toNat+((c:Int)).toNat+((W.toNat:Int)).toNat+((X.toNat:Int)).toNat) 0 (by omega) (by omega)
 rw [show setV W X a 0=W from rfl] at this
 rw [this,Option.bind_some]
theorem get1_eq (O W:W32) {b p:Nat} (hb:b < 32) (hp:p < 32):Zdz.g (b:Int) (p:Int) (O.toNat:Int) (W.toNat:Int)=some (((O ||| (((W >>> b) &&& 1#32) <<< p)).toNat:Int),(W.toNat:Int),()):=by
 unfold Zdz.g Zdz.f
 have e1:(1:Int)=((1#32).toNat:Int):=rfl
 rw [if_neg (by omega),if_neg (by omega),shr32 W b (by omega),e1,and32,shl32 _ p (by omega),or32]
theorem each_get (n:Nat) (W:W32) {a c:Nat} (hc:1≤c) (h:a+c≤32):∀ (m k:Nat),k≤c→c - k < m→Zcy.l2 n m (a:Int) (c:Int) ((a+k:Nat):Int) ((getV W a k).toNat:Int) (W.toNat:Int)=some (((getV W a c).toNat:Int),(W.toNat:Int),()):=by
 intro m
 induction m with
 | zero=>intro k _ hm; omega
 | succ m ih=>
  intro k hk hm
  rw [Zcy.l2]
  simp only [dt]
  by_cases e:k=c
  ·subst e
   by_cases e2:a+k < 32
   ·rw [if_pos (by omega),if_neg (by rw [w64 (by omega)]; omega)]
   ·rw [if_neg (by omega)]
  ·rw [if_pos (by omega),w64 (by omega),if_pos (by omega),show ((a+k:Nat):Int) - (a:Int)=(k:Int) by omega,get1_eq _ W (by omega) (by omega),Option.bind_some]
   dsimp only
   rw [w64 (by omega),show ((a+k:Nat):Int)+1=((a+(k+1):Nat):Int) by omega]
   exact ih (k+1) (by omega) (by omega)
theorem get_eq (W:W32) {a c:Nat} (hc:1≤c) (h:a+c≤32):Zea.g (W.toNat:Int) (a:Int) (c:Int)=some (((getV W a c).toNat:Int),()):=by
 unfold Zea.g Zea.f Zcy.g Zcy.f
 simp only [dt,df]
 rw [if_pos (by omega),if_pos (by omega),w64 (by omega),if_neg (by omega)]
 have hmx:mx (a:Int) 0=((a+0:Nat):Int):=by unfold mx; split <;> omega
 rw [hmx]
 have:=each_get (1000+((a:Int)).toNat+((c:Int)).toNat+((0:Int)).toNat+((W.toNat:Int)).toNat) W hc h (1000+((a:Int)).toNat+((c:Int)).toNat+((0:Int)).toNat+((W.toNat:Int)).toNat) 0 (by omega) (by omega)
 rw [show ((getV W a 0).toNat:Int)=0 from rfl] at this
 rw [this,Option.bind_some]
end Rv
namespace Rv
open Go
def layF:W32→List (Nat×Nat×Int)→W32
 | W,[]=>W
 | W,(a,n,x)::r=>layF (setV W (BitVec.ofInt 32 x) a n) r
abbrev fld (f:Nat×Nat×Int):Int×Int×Int×Unit:=((f.1:Int),(f.2.1:Int),f.2.2,())
abbrev dFld:Int×Int×Int×Unit:=((0:Int),((0:Int),((0:Int),())))
theorem lay_loop (n:Nat) (fs:List (Nat×Nat×Int)) (hf:∀ f∈fs,1≤f.2.1∧f.1+f.2.1≤32) (hl:fs.length≤1000):∀ (m i:Nat) (W:W32),i≤fs.length→fs.length - i < m →
  Zaw.l3 n m (W.toNat:Int) (fs.map fld) ((fs.map fld).length:Int) (i:Int)=some (((layF W (fs.drop i)).toNat:Int),()):=by
 intro m
 induction m with
 | zero=>intro i _ _ h; omega
 | succ m ih=>
  intro i W hi hm
  rw [Zaw.l3]
  simp only [dt,List.length_map]
  by_cases h:i < fs.length
  ·have hd:fs.drop i=fs[i]::fs.drop (i+1):=List.drop_eq_getElem_cons h
   have hg:(fs.map fld).getD ((i:Int)).toNat dFld=fld fs[i]:=by
    rw [Int.toNat_natCast,List.getD_eq_getElem?_getD,List.getElem?_eq_getElem (by simpa using h)]; simp
   obtain ⟨h1,h2⟩:=hf fs[i] (List.getElem_mem h)
   rw [if_pos (by omega),if_pos (by omega),if_pos (by decide),if_pos (by decide),if_pos (by decide),hg]
   have q1:∀ x y z:Int,([x,y,z]:List Int).getD ((0:Int)).toNat 0=x:=fun _ _ _=>rfl
   have q2:∀ x y z:Int,([x,y,z]:List Int).getD ((1:Int)).toNat 0=y:=fun _ _ _=>rfl
   have q3:∀ x y z:Int,([x,y,z]:List Int).getD ((2:Int)).toNat 0=z:=fun _ _ _=>rfl
   rw [q1,q2,q3]
   dsimp only [fld]
   rw [wr32,set_eq _ _ h1 h2,Option.bind_some]
   dsimp only
   rw [w64 (by omega),show (i:Int)+1=((i+1:Nat):Int) by omega,hd]
   have:=ih (i+1) (setV W (BitVec.ofInt 32 fs[i].2.2) fs[i].1 fs[i].2.1) (by omega) (by omega)
   rw [List.length_map] at this
   exact this
  ·rw [if_neg (by omega),List.drop_eq_nil_of_le (by omega)]; rfl
theorem lay_eq (fs:List (Nat×Nat×Int)) (hf:∀ f∈fs,1≤f.2.1∧f.1+f.2.1≤32) (hl:fs.length≤1000) (l:List (Int×Int×Int×Unit)) (e:l=fs.map fld):Zaw.g l=some (((layF 0 fs).toNat:Int),()):=by
 subst e
 unfold Zaw.g Zaw.f
 have:=lay_loop (1000+(fs.map fld).length) fs hf hl (1000+(fs.map fld).length) 0 0 (by omega) (by rw [List.length_map]; omega)
 rw [List.drop_zero] at this
 exact this
def hdN (f:Nat) (u v:Bool):Nat:=f * 4+(if u then 2 else 0)+(if v then 1 else 0)
theorem ihead_eq (f:Nat) (hf:f < 4) (u v:Bool):Zbs.g (f:Int) u v=some (28,4,(hdN f u v:Int),()):=by
 have:∀ f:Nat,f < 4→∀ u v:Bool,Zbs.g (f:Int) u v=some (28,4,(hdN f u v:Int),()):=by decide +kernel
 exact this f hf u v
def flds (k o a b c i:Int) (u:Bool):List (Nat×Nat×Int):=
 if k=1 then [(28,4,(hdN 0 u false:Int)),(24,4,a),(20,4,b),(16,4,o),(0,4,c)] else
 if k=3∨k=4 then [(28,4,(hdN 0 true (decide (k=4)):Int)),(24,4,a)] else
 if k=2 then [(28,4,(hdN 1 u (decide (i < 0)):Int)),(24,4,a),(20,4,b),(16,4,o),(0,16,i)] else
 if k=5 then [(28,4,(hdN 2 (decide (2≤o)) (decide (Int.tmod o 2=1)):Int)),(24,4,a),(20,4,b),(0,20,i)] else
 if k=6 then [(28,4,(hdN 3 false u:Int)),(24,4,o),(0,4,c)] else
 [(28,4,(hdN 3 true u:Int)),(24,4,o),(0,24,i)]
theorem flds_ok (k o a b c i:Int) (u:Bool):(∀ f∈flds k o a b c i u,1≤f.2.1∧f.1+f.2.1≤32)∧(flds k o a b c i u).length≤1000:=by
 unfold flds
 split
 ·exact ⟨by simp,by simp⟩
 ·split
  ·exact ⟨by simp,by simp⟩
  ·split
   ·exact ⟨by simp,by simp⟩
   ·split
    ·exact ⟨by simp,by simp⟩
    ·split
     ·exact ⟨by simp,by simp⟩
     ·exact ⟨by simp,by simp⟩
def wordV (k o a b c i:Int) (u:Bool):W32:=layF 0 (flds k o a b c i u)
theorem lay_fl (k o a b c i:Int) (u:Bool) (l:List (Int×Int×Int×Unit)) (e:l=(flds k o a b c i u).map fld):Zaw.g l=some (((wordV k o a b c i u).toNat:Int),()):=
 lay_eq _ (flds_ok k o a b c i u).1 (flds_ok k o a b c i u).2 l e
theorem iword_eq (k o a b c i:Int) (u:Bool):Zcl.g k o a b c i u=some (((wordV k o a b c i u).toNat:Int),()):=by
 have J:∀ n,k≠1→k≠2→k≠3→k≠4→k≠5→k≠6→Zcl.j14 n k o a b c i u 24 4 o=some (((wordV k o a b c i u).toNat:Int),()):=fun n h1 h2 h3 h4 h5 h6=>by
  unfold Zcl.j14
  rw [show (3:Int)=((3:Nat):Int) from rfl,ihead_eq 3 (by decide),Option.bind_some,lay_fl k o a b c i u _ (by unfold flds; simp [h1,h2,h3,h4,h5,h6]),Option.bind_some]
 unfold Zcl.g
 generalize 1000+k.toNat+o.toNat+a.toNat+b.toNat+c.toNat+i.toNat=n
 unfold Zcl.f
 simp only [dt]
 have e0:(0:Int)=((0:Nat):Int):=rfl
 by_cases h1:k=1
 ·rw [if_pos h1]
  have:=ihead_eq 0 (by decide) u false
  rw [show ((0:Nat):Int)=0 from rfl] at this
  rw [this,Option.bind_some,lay_fl k o a b c i u _ (by unfold flds; simp [h1]),Option.bind_some]
 ·rw [if_neg h1]
  have h0:=ihead_eq 0 (by decide) true (decide (k=4))
  rw [show ((0:Nat):Int)=0 from rfl] at h0
  have g2:=ihead_eq 1 (by decide) u (decide (i < 0))
  rw [show ((1:Nat):Int)=1 from rfl] at g2
  have g5:=ihead_eq 2 (by decide) (decide (2≤o)) (decide (Int.tmod o 2=1))
  rw [show ((2:Nat):Int)=2 from rfl] at g5
  have g6:=ihead_eq 3 (by decide) false u
  rw [show ((3:Nat):Int)=3 from rfl] at g6
  rw [h0,g2,g5,g6]
  simp only [Option.bind_some]
  by_cases h3:k=3
  ·rw [if_pos h3,if_pos h3,lay_fl k o a b c i u _ (by unfold flds; simp [h3]),Option.bind_some]
  ·rw [if_neg h3]
   by_cases h4:k=4
   ·rw [if_pos h4,lay_fl k o a b c i u _ (by unfold flds; simp [h4]),Option.bind_some]
   ·rw [if_neg h4]
    by_cases h2:k=2
    ·rw [if_pos h2,lay_fl k o a b c i u _ (by unfold flds; simp [h2]),Option.bind_some]
    ·rw [if_neg h2]
     by_cases h5:k=5
     ·rw [if_pos h5,lay_fl k o a b c i u _ (by unfold flds; simp [h5]),Option.bind_some]
     ·rw [if_neg h5]
      by_cases h6:k=6
      ·rw [if_pos h6,lay_fl k o a b c i u _ (by unfold flds; simp [h6]),Option.bind_some]
      ·rw [if_neg h6]
       exact J n h1 h2 h3 h4 h5 h6
abbrev Gn (W:W32) (a n:Nat):Int:=((getV W a n).toNat:Int)
theorem gn_range (W:W32) (a:Nat) {n:Nat} (hn:n≤32):0≤Gn W a n∧Gn W a n < 2 ^ n:=by
 have:=get_lt W a hn
 refine ⟨Int.natCast_nonneg _,?_⟩
 have h2:((2 ^ n:Nat):Int)=2 ^ n:=by rw [Int.natCast_pow]; rfl
 rw [← h2]
 exact Int.ofNat_lt.2 this
theorem read1_eq (W:W32) (a n:Nat) (hn:1≤n) (h:a+n≤32):Zbc.g (a:Int) (n:Int) (W.toNat:Int)=some (Gn W a n,()):=by
 unfold Zbc.g Zbc.f
 rw [get_eq W hn h,Option.bind_some]
 dsimp only
 have:=gn_range W a (n:=n) (by omega)
 have h32:(getV W a n).toNat < 2 ^ 32:=(getV W a n).isLt
 rw [w64 (by omega)]
def sgV (W:W32) (n:Nat):Int:=IntKind.i64.wrap ((IntKind.i32.wrap ((W <<< (32 - n)).toNat:Int)).fdiv (2 ^ (32 - n)))
theorem signed_eq (W:W32) (n:Nat) (h:1≤n) (h2:n≤32):Zdn.g (W.toNat:Int) (n:Int)=some (sgV W n,()):=by
 unfold Zdn.g Zdn.f Zeh.g Zeh.f
 have hk:mn (mx (n:Int) 1) 32=(n:Int):=by unfold mn mx; split <;> split <;> omega
 rw [hk,Option.bind_some]
 dsimp only
 rw [w64 (by omega),show (32:Int) - (n:Int)=((32 - n:Nat):Int) by omega,if_neg (by omega),if_neg (by omega),shl32 W (32 - n) (by omega)]
 have e:min (((32 - n:Nat):Int)).toNat IntKind.i32.bits=32 - n:=by show min (((32 - n:Nat):Int)).toNat 32=_; omega
 rw [e]
 rfl
theorem sg_zero {W:W32} {n:Nat} (h:n≤32) (h0:getV W 0 n=0):sgV W n=0:=by
 have:W <<< (32 - n)=0:=bits_eq fun j hj=>by
  rw [BitVec.getLsbD_shiftLeft]
  by_cases e:j < 32 - n
  ·simp [e]
  ·have:=congrArg (fun V:W32=>V.getLsbD (j - (32 - n))) h0
   simp only [getV_bit W h (show j - (32 - n) < 32 by omega)] at this
   rw [Nat.zero_add] at this
   have h3:j - (32 - n) < n:=by omega
   simp [h3] at this
   simp [e,hj,this]
 unfold sgV
 rw [this]
 show IntKind.i64.wrap ((IntKind.i32.wrap 0).fdiv (2 ^ (32 - n)))=0
 rw [show IntKind.i32.wrap 0=0 from rfl,Int.zero_fdiv]
 rfl
def readT (W:W32):Int×Int×Int×Int×Int×Int×Bool×Unit:=
 if Gn W 30 2=0 then
  (if Gn W 29 1=1∧Gn W 16 4=0 then (3+Gn W 28 1,0,Gn W 24 4,0,0,0,false,()) else (1,Gn W 16 4,Gn W 24 4,Gn W 20 4,Gn W 0 4,0,decide (Gn W 29 1=1),()))
 else if Gn W 30 2=1 then (2,Gn W 16 4,Gn W 24 4,Gn W 20 4,0,Gn W 0 16 - Gn W 28 1 * 65536,decide (Gn W 29 1=1),())
 else if Gn W 30 2=2 then (5,Gn W 29 1 * 2+Gn W 28 1,Gn W 24 4,Gn W 20 4,0,sgV W 20,false,())
 else if Gn W 29 1=1 then (7,Gn W 24 4,0,0,0,sgV W 24,decide (Gn W 28 1=1),())
 else (6,Gn W 24 4,0,0,Gn W 0 4,0,decide (Gn W 28 1=1),())
theorem iread_eq (W:W32):Zbt.g (W.toNat:Int)=some (readT W):=by
 unfold Zbt.g Zbt.f
 have r1:=read1_eq W 29 1 (by decide) (by decide)
 have r2:=read1_eq W 28 1 (by decide) (by decide)
 have r3:=read1_eq W 24 4 (by decide) (by decide)
 have r4:=read1_eq W 20 4 (by decide) (by decide)
 have r5:=read1_eq W 16 4 (by decide) (by decide)
 have r6:=read1_eq W 30 2 (by decide) (by decide)
 have r7:=read1_eq W 0 4 (by decide) (by decide)
 have r8:=read1_eq W 0 16 (by decide) (by decide)
 have s1:=signed_eq W 20 (by decide) (by decide)
 have s2:=signed_eq W 24 (by decide) (by decide)
 have b1:=gn_range W 29 (n:=1) (by decide)
 have b2:=gn_range W 28 (n:=1) (by decide)
 have b8:=gn_range W 0 (n:=16) (by decide)
 have p16:IntKind.i64.wrap (Gn W 28 1 * 2 ^ (min (16:Int).toNat IntKind.i64.bits))=Gn W 28 1 * 65536:=by
  show IntKind.i64.wrap (Gn W 28 1 * 65536)=_
  rw [w64 (by omega)]
 simp only [Int.cast_ofNat_Int] at r1 r2 r3 r4 r5 r6 r7 r8 s1 s2
 simp only [r1,r2,r3,r4,r5,r6,r7,r8,s1,s2,Option.bind_some,dt,Zbt.j16,p16]
 unfold readT
 by_cases h1:Gn W 30 2=0
 ·rw [if_pos h1,if_pos h1]
  by_cases h2:Gn W 29 1=1
  ·rw [if_pos h2]
   by_cases h3:Gn W 16 4=0
   ·rw [if_pos h3,if_pos ⟨h2,h3⟩,w64 (by omega)]
   ·rw [if_neg h3,if_neg (fun h=>h3 h.2)]
  ·rw [if_neg h2,if_neg (fun h=>h2 h.1)]
 ·rw [if_neg h1,if_neg h1]
  by_cases h2:Gn W 30 2=1
  ·rw [if_pos h2,if_pos h2,w64 (by omega)]
  ·rw [if_neg h2,if_neg h2]
   by_cases h3:Gn W 30 2=2
   ·rw [if_pos h3,if_pos h3,w64 (x:=Gn W 29 1 * 2) (by omega),w64 (by omega)]
   ·rw [if_neg h3,if_neg h3]
    by_cases h4:Gn W 29 1=1
    ·rw [if_pos h4,if_pos h4]
    ·rw [if_neg h4,if_neg h4]
theorem gn_out (W X:W32) {a n b m:Nat} (h:a+n≤32) (hb:b+m≤32) (h1:b+m≤a∨a+n≤b):Gn (setV W X a n) b m=Gn W b m:=by unfold Gn; rw [get_out W X h hb h1]
theorem gn_in (W:W32) {x:Int} {a n:Nat} (h:a+n≤32) (hx:0≤x∧x < 2 ^ n):Gn (setV W (BitVec.ofInt 32 x) a n) a n=x:=by
 have h1:(2:Int) ^ n=((2 ^ n:Nat):Int):=by rw [Int.natCast_pow]; rfl
 have h2:2 ^ n≤2 ^ 32:=Nat.pow_le_pow_right (by decide) (by omega)
 have h3:(BitVec.ofInt 32 x).toNat=x.toNat:=by
  rw [BitVec.toNat_ofInt]
  rw [h1] at hx
  generalize 2 ^ n=q at *
  omega
 unfold Gn
 rw [get_in W _ h (Nat.le_refl _) (Nat.le_refl _),Nat.sub_self,get_all (by omega) (by rw [h3]; rw [h1] at hx; omega),h3]
 omega
theorem gn_r (W:W32) {x:Int} {a:Nat} (h:a+4≤32) (hx:0≤x∧x < 16):Gn (setV W (BitVec.ofInt 32 x) a 4) a 4=x:=gn_in W h hx
theorem gn_sub (W X:W32) {a n b m:Nat} (h:a+n≤32) (h1:a≤b) (h2:b+m≤a+n):Gn (setV W X a n) b m=Gn X (b - a) m:=by unfold Gn; rw [get_in W X h h1 h2]
theorem gn_zero (b m:Nat) (hm:m≤32):Gn 0 b m=0:=by unfold Gn; rw [get_zero b m hm]; rfl
theorem hd_gn:∀ f:Nat,f < 4→∀ u v:Bool,Gn (BitVec.ofInt 32 (hdN f u v:Int)) 2 2=f∧Gn (BitVec.ofInt 32 (hdN f u v:Int)) 1 1=(if u then 1 else 0)∧Gn (BitVec.ofInt 32 (hdN f u v:Int)) 0 1=(if v then 1 else 0):=by decide +kernel
def rg (x:Int):Prop:=0≤x∧x < 16
inductive GoodI0:Int→Int→Int→Int→Int→Bool→Prop
 | reg {o a b c:Int} {u:Bool}:0 < o→o < 12→rg a→rg b→rg c→(u=true→8≤o∧o≤10)→GoodI0 1 o a b c u
 | mov {a c:Int}:rg a→rg c→GoodI0 1 0 a 0 c false
 | imm {o a b:Int} {u:Bool}:0 < o→o < 12→rg a→rg b→(u=true→8≤o∧o≤10)→GoodI0 2 o a b 0 u
 | movi {a:Int} {u:Bool}:rg a→GoodI0 2 0 a 0 0 u
 | hi {a:Int}:rg a→GoodI0 3 0 a 0 0 false
 | fl {a:Int}:rg a→GoodI0 4 0 a 0 0 false
 | mem {o a b:Int}:0≤o→o < 4→rg a→rg b→GoodI0 5 o a b 0 false
 | br {o c:Int} {u:Bool}:rg o→rg c→GoodI0 6 o 0 0 c u
 | jmp {o:Int} {u:Bool}:rg o→GoodI0 7 o 0 0 0 u
theorem read_reg {o a b c:Int} {u:Bool} (ho:rg o) (ha:rg a) (hb:rg b) (hc:rg c) (hu:u=true→o≠0):readT (wordV 1 o a b c 0 u)=(1,o,a,b,c,0,u,()):=by
 obtain ⟨h1,h2,h3⟩:=hd_gn 0 (by decide) u false
 generalize hW:wordV 1 o a b c 0 u=W
 unfold wordV flds at hW
 rw [if_pos rfl] at hW
 simp only [layF] at hW
 have w1:Gn W 30 2=0:=by rw [← hW,gn_out _ _ (by decide) (by decide) (by decide),gn_out _ _ (by decide) (by decide) (by decide),gn_out _ _ (by decide) (by decide) (by decide),gn_out _ _ (by decide) (by decide) (by decide),gn_sub _ _ (by decide) (by decide) (by decide)]; exact h1
 have w2:Gn W 29 1=if u then 1 else 0:=by rw [← hW,gn_out _ _ (by decide) (by decide) (by decide),gn_out _ _ (by decide) (by decide) (by decide),gn_out _ _ (by decide) (by decide) (by decide),gn_out _ _ (by decide) (by decide) (by decide),gn_sub _ _ (by decide) (by decide) (by decide)]; exact h2
 have w3:Gn W 24 4=a:=by rw [← hW,gn_out _ _ (by decide) (by decide) (by decide),gn_out _ _ (by decide) (by decide) (by decide),gn_out _ _ (by decide) (by decide) (by decide),gn_r _ (by decide) ha]
 have w4:Gn W 20 4=b:=by rw [← hW,gn_out _ _ (by decide) (by decide) (by decide),gn_out _ _ (by decide) (by decide) (by decide),gn_r _ (by decide) hb]
 have w5:Gn W 16 4=o:=by rw [← hW,gn_out _ _ (by decide) (by decide) (by decide),gn_r _ (by decide) ho]
 have w6:Gn W 0 4=c:=by rw [← hW,gn_r _ (by decide) hc]
 unfold readT
 rw [w1,w2,w3,w4,w5,w6,if_pos rfl]
 cases u with
 | false=>simp
 | true=>simp [hu rfl]
theorem read_imm {o a b:Int} {u:Bool} (ho:rg o) (ha:rg a) (hb:rg b):readT (wordV 2 o a b 0 0 u)=(2,o,a,b,0,0,u,()):=by
 obtain ⟨h1,h2,h3⟩:=hd_gn 1 (by decide) u false
 generalize hW:wordV 2 o a b 0 0 u=W
 unfold wordV flds at hW
 rw [if_neg (by decide),if_neg (by decide),if_pos rfl] at hW
 simp only [layF] at hW
 rw [show decide ((0:Int) < 0)=false from rfl] at hW
 have w1:Gn W 30 2=1:=by rw [← hW,gn_out _ _ (by decide) (by decide) (by decide),gn_out _ _ (by decide) (by decide) (by decide),gn_out _ _ (by decide) (by decide) (by decide),gn_out _ _ (by decide) (by decide) (by decide),gn_sub _ _ (by decide) (by decide) (by decide)]; exact h1
 have w2:Gn W 29 1=if u then 1 else 0:=by rw [← hW,gn_out _ _ (by decide) (by decide) (by decide),gn_out _ _ (by decide) (by decide) (by decide),gn_out _ _ (by decide) (by decide) (by decide),gn_out _ _ (by decide) (by decide) (by decide),gn_sub _ _ (by decide) (by decide) (by decide)]; exact h2
 have w7:Gn W 28 1=0:=by rw [← hW,gn_out _ _ (by decide) (by decide) (by decide),gn_out _ _ (by decide) (by decide) (by decide),gn_out _ _ (by decide) (by decide) (by decide),gn_out _ _ (by decide) (by decide) (by decide),gn_sub _ _ (by decide) (by decide) (by decide)]; exact h3
 have w3:Gn W 24 4=a:=by rw [← hW,gn_out _ _ (by decide) (by decide) (by decide),gn_out _ _ (by decide) (by decide) (by decide),gn_out _ _ (by decide) (by decide) (by decide),gn_r _ (by decide) ha]
 have w4:Gn W 20 4=b:=by rw [← hW,gn_out _ _ (by decide) (by decide) (by decide),gn_out _ _ (by decide) (by decide) (by decide),gn_r _ (by decide) hb]
 have w5:Gn W 16 4=o:=by rw [← hW,gn_out _ _ (by decide) (by decide) (by decide),gn_r _ (by decide) ho]
 have w6:Gn W 0 16=0:=by rw [← hW,gn_in _ (by decide) (by decide)]
 unfold readT
 rw [w1,w2,w3,w4,w5,w6,w7,if_neg (by decide),if_pos rfl]
 cases u <;> simp
theorem read_hi {k a:Int} (hk:k=3∨k=4) (ha:rg a):readT (wordV k 0 a 0 0 0 false)=(k,0,a,0,0,0,false,()):=by
 obtain ⟨h1,h2,h3⟩:=hd_gn 0 (by decide) true (decide (k=4))
 generalize hW:wordV k 0 a 0 0 0 false=W
 unfold wordV flds at hW
 rw [if_neg (by omega),if_pos hk] at hW
 simp only [layF] at hW
 have w1:Gn W 30 2=0:=by rw [← hW,gn_out _ _ (by decide) (by decide) (by decide),gn_sub _ _ (by decide) (by decide) (by decide)]; exact h1
 have w2:Gn W 29 1=1:=by rw [← hW,gn_out _ _ (by decide) (by decide) (by decide),gn_sub _ _ (by decide) (by decide) (by decide)]; exact h2
 have w7:Gn W 28 1=if decide (k=4) then 1 else 0:=by rw [← hW,gn_out _ _ (by decide) (by decide) (by decide),gn_sub _ _ (by decide) (by decide) (by decide)]; exact h3
 have w3:Gn W 24 4=a:=by rw [← hW,gn_r _ (by decide) ha]
 have w5:Gn W 16 4=0:=by rw [← hW,gn_out _ _ (by decide) (by decide) (by decide),gn_out _ _ (by decide) (by decide) (by decide),gn_zero _ _ (by decide)]
 unfold readT
 rw [w1,w2,w3,w5,w7,if_pos rfl,if_pos ⟨rfl,rfl⟩]
 rcases hk with rfl | rfl <;> simp
theorem read_mem {o a b:Int} (ho:0≤o∧o < 4) (ha:rg a) (hb:rg b):readT (wordV 5 o a b 0 0 false)=(5,o,a,b,0,0,false,()):=by
 obtain ⟨h1,h2,h3⟩:=hd_gn 2 (by decide) (decide (2≤o)) (decide (Int.tmod o 2=1))
 generalize hW:wordV 5 o a b 0 0 false=W
 unfold wordV flds at hW
 rw [if_neg (by decide),if_neg (by decide),if_neg (by decide),if_pos rfl] at hW
 simp only [layF] at hW
 have w1:Gn W 30 2=2:=by rw [← hW,gn_out _ _ (by decide) (by decide) (by decide),gn_out _ _ (by decide) (by decide) (by decide),gn_out _ _ (by decide) (by decide) (by decide),gn_sub _ _ (by decide) (by decide) (by decide)]; exact h1
 have w2:Gn W 29 1=if decide (2≤o) then 1 else 0:=by rw [← hW,gn_out _ _ (by decide) (by decide) (by decide),gn_out _ _ (by decide) (by decide) (by decide),gn_out _ _ (by decide) (by decide) (by decide),gn_sub _ _ (by decide) (by decide) (by decide)]; exact h2
 have w7:Gn W 28 1=if decide (Int.tmod o 2=1) then 1 else 0:=by rw [← hW,gn_out _ _ (by decide) (by decide) (by decide),gn_out _ _ (by decide) (by decide) (by decide),gn_out _ _ (by decide) (by decide) (by decide),gn_sub _ _ (by decide) (by decide) (by decide)]; exact h3
 have w3:Gn W 24 4=a:=by rw [← hW,gn_out _ _ (by decide) (by decide) (by decide),gn_out _ _ (by decide) (by decide) (by decide),gn_r _ (by decide) ha]
 have w4:Gn W 20 4=b:=by rw [← hW,gn_out _ _ (by decide) (by decide) (by decide),gn_r _ (by decide) hb]
 have w6:sgV W 20=0:=sg_zero (by decide) (by
  rw [← hW]
  have:=gn_in (x:=0) (a:=0) (n:=20) (setV (setV (setV 0 (BitVec.ofInt 32 ((hdN 2 (decide (2≤o)) (decide (Int.tmod o 2=1)):Nat):Int)) 28 4) (BitVec.ofInt 32 a) 24 4) (BitVec.ofInt 32 b) 20 4) (by decide) (by decide)
  exact BitVec.eq_of_toNat_eq (by unfold Gn at this; simpa using this))
 have:o=0∨o=1∨o=2∨o=3:=by omega
 unfold readT
 rw [w1,w2,w3,w4,w6,w7,if_neg (by decide),if_neg (by decide),if_pos rfl]
 rcases this with rfl | rfl | rfl | rfl <;> rfl
theorem read_br {o c:Int} {u:Bool} (ho:rg o) (hc:rg c):readT (wordV 6 o 0 0 c 0 u)=(6,o,0,0,c,0,u,()):=by
 obtain ⟨h1,h2,h3⟩:=hd_gn 3 (by decide) false u
 generalize hW:wordV 6 o 0 0 c 0 u=W
 unfold wordV flds at hW
 rw [if_neg (by decide),if_neg (by decide),if_neg (by decide),if_neg (by decide),if_pos rfl] at hW
 simp only [layF] at hW
 have w1:Gn W 30 2=3:=by rw [← hW,gn_out _ _ (by decide) (by decide) (by decide),gn_out _ _ (by decide) (by decide) (by decide),gn_sub _ _ (by decide) (by decide) (by decide)]; exact h1
 have w2:Gn W 29 1=0:=by rw [← hW,gn_out _ _ (by decide) (by decide) (by decide),gn_out _ _ (by decide) (by decide) (by decide),gn_sub _ _ (by decide) (by decide) (by decide)]; exact h2
 have w7:Gn W 28 1=if u then 1 else 0:=by rw [← hW,gn_out _ _ (by decide) (by decide) (by decide),gn_out _ _ (by decide) (by decide) (by decide),gn_sub _ _ (by decide) (by decide) (by decide)]; exact h3
 have w3:Gn W 24 4=o:=by rw [← hW,gn_out _ _ (by decide) (by decide) (by decide),gn_r _ (by decide) ho]
 have w6:Gn W 0 4=c:=by rw [← hW,gn_r _ (by decide) hc]
 unfold readT
 rw [w1,w2,w3,w6,w7,if_neg (by decide),if_neg (by decide),if_neg (by decide),if_neg (by decide)]
 cases u <;> simp
theorem read_jmp {o:Int} {u:Bool} (ho:rg o):readT (wordV 7 o 0 0 0 0 u)=(7,o,0,0,0,0,u,()):=by
 obtain ⟨h1,h2,h3⟩:=hd_gn 3 (by decide) true u
 generalize hW:wordV 7 o 0 0 0 0 u=W
 unfold wordV flds at hW
 rw [if_neg (by decide),if_neg (by decide),if_neg (by decide),if_neg (by decide),if_neg (by decide)] at hW
 simp only [layF] at hW
 have w1:Gn W 30 2=3:=by rw [← hW,gn_out _ _ (by decide) (by decide) (by decide),gn_out _ _ (by decide) (by decide) (by decide),gn_sub _ _ (by decide) (by decide) (by decide)]; exact h1
 have w2:Gn W 29 1=1:=by rw [← hW,gn_out _ _ (by decide) (by decide) (by decide),gn_out _ _ (by decide) (by decide) (by decide),gn_sub _ _ (by decide) (by decide) (by decide)]; exact h2
 have w7:Gn W 28 1=if u then 1 else 0:=by rw [← hW,gn_out _ _ (by decide) (by decide) (by decide),gn_out _ _ (by decide) (by decide) (by decide),gn_sub _ _ (by decide) (by decide) (by decide)]; exact h3
 have w3:Gn W 24 4=o:=by rw [← hW,gn_out _ _ (by decide) (by decide) (by decide),gn_r _ (by decide) ho]
 have w6:sgV W 24=0:=sg_zero (by decide) (by
  rw [← hW]
  have:=gn_in (x:=0) (a:=0) (n:=24) (setV (setV 0 (BitVec.ofInt 32 ((hdN 3 true u:Nat):Int)) 28 4) (BitVec.ofInt 32 o) 24 4) (by decide) (by decide)
  exact BitVec.eq_of_toNat_eq (by unfold Gn at this; simpa using this))
 unfold readT
 rw [w1,w2,w3,w6,w7,if_neg (by decide),if_neg (by decide),if_neg (by decide),if_pos rfl]
 cases u <;> simp
theorem read_good {k o a b c:Int} {u:Bool} (h:GoodI0 k o a b c u):readT (wordV k o a b c 0 u)=(k,o,a,b,c,0,u,()):=by
 have z:rg 0:=⟨by decide,by decide⟩
 cases h with
 | reg h1 h2 ha hb hc hu=>exact read_reg ⟨by omega,by omega⟩ ha hb hc (fun _=>by omega)
 | mov ha hc=>exact read_reg z ha z hc (fun h=>by cases h)
 | imm h1 h2 ha hb hu=>exact read_imm ⟨by omega,by omega⟩ ha hb
 | movi ha=>exact read_imm z ha z
 | hi ha=>exact read_hi (.inl rfl) ha
 | fl ha=>exact read_hi (.inr rfl) ha
 | mem h1 h2 ha hb=>exact read_mem ⟨h1,h2⟩ ha hb
 | br ho hc=>exact read_br ho hc
 | jmp ho=>exact read_jmp ho
theorem between_eq (n l h:Int):Zdg.g n l h=some (decide (l≤n) && decide (n≤h),()):=by
 unfold Zdg.g Zdg.f
 by_cases e:l≤n
 ·rw [if_pos (by simpa using e),decide_eq_true e]; rfl
 ·rw [if_neg (by simpa using e),decide_eq_false e]; rfl
theorem i0_range {k o a b c:Int} {u:Bool} (h:GoodI0 k o a b c u):1≤k∧k≤7∧0≤o∧o≤15:=by
 cases h <;> refine ⟨by decide,by decide,?_,?_⟩ <;> first | decide | omega | (rename_i h _; exact h.1) | (rename_i h _; have:=h.2; omega) | (rename_i h; exact h.1) | (rename_i h; have:=h.2; omega)
theorem isa_good {k o a b c:Int} {u:Bool} (h:GoodI0 k o a b c u):Zbd.g k o a b c 0 u=some (true,()):=by
 have hr:=read_good h
 have hk:=i0_range h
 unfold Zbd.g
 generalize 1000+k.toNat+o.toNat+a.toNat+b.toNat+c.toNat+(0:Int).toNat=n
 unfold Zbd.f
 rw [between_eq,Option.bind_some]
 dsimp only
 rw [decide_eq_true hk.1,decide_eq_true hk.2.1,if_pos (by decide),between_eq,Option.bind_some]
 dsimp only
 rw [decide_eq_true hk.2.2.1,decide_eq_true hk.2.2.2,if_pos (by decide),iword_eq,Option.bind_some]
 dsimp only
 rw [iread_eq,Option.bind_some,hr]
 dsimp only
 rw [if_neg (by simp)]
 simp only [dt,df,Zbd.j10,between_eq,Option.bind_some]
 cases h with
 | reg h1 h2 ha hb hc hu=>
  rw [if_pos rfl,if_pos rfl,if_neg (by omega),if_neg (by omega)]
  cases u with
  | false=>rfl
  | true=>simp [hu rfl]
 | mov ha hc=>rfl
 | imm h1 h2 ha hb hu=>
  rw [if_neg (by decide),if_pos rfl,if_neg (by omega),if_neg (by omega)]
  cases u with
  | false=>rfl
  | true=>simp [hu rfl]
 | movi ha=>cases u <;> rfl
 | hi ha=>rfl
 | fl ha=>rfl
 | mem h1 h2 ha hb=>rfl
 | br ho hc=>rfl
 | jmp ho=>rfl
theorem readT_range (W:W32):rg (readT W).2.2.1∧rg (readT W).2.2.2.1∧rg (readT W).2.2.2.2.1:=by
 have z:rg 0:=⟨by decide,by decide⟩
 have a:∀ p,rg (Gn W p 4):=fun p=>gn_range W p (n:=4) (by decide)
 unfold readT
 split
 ·split
  ·exact ⟨a _,z,z⟩
  ·exact ⟨a _,a _,a _⟩
 ·split
  ·exact ⟨a _,a _,z⟩
  ·split
   ·exact ⟨a _,a _,z⟩
   ·split
    ·exact ⟨z,z,z⟩
    ·exact ⟨z,z,a _⟩
theorem isa_total (k o a b c i:Int) (u:Bool):∃ r,Zbd.g k o a b c i u=some (r,())∧(r=true→(1≤k∧k≤7)∧rg a∧rg b∧rg c):=by
 unfold Zbd.g
 generalize 1000+k.toNat+o.toNat+a.toNat+b.toNat+c.toNat+i.toNat=n
 unfold Zbd.f
 rw [between_eq,Option.bind_some]
 dsimp only
 by_cases hk:1≤k∧k≤7
 case neg=>rw [if_neg (by simp; omega)]; exact ⟨_,rfl,fun h=>by cases h⟩
 rw [if_pos (by simp [hk]),between_eq,Option.bind_some]
 dsimp only
 by_cases ho:0≤o∧o≤15
 case neg=>rw [if_neg (by simp; omega)]; exact ⟨_,rfl,fun h=>by cases h⟩
 rw [if_pos (by simp [ho]),iword_eq,Option.bind_some]
 dsimp only
 rw [iread_eq,Option.bind_some]
 obtain ⟨r1,r2,r3⟩:=readT_range (wordV k o a b c i u)
 generalize readT (wordV k o a b c i u)=y at *
 split
 ·exact ⟨_,rfl,fun h=>by cases h⟩
 ·rename_i he
  simp only [Bool.not_eq_true',Bool.not_eq_false,Bool.and_eq_true,decide_eq_true_eq] at he
  have hg:(1≤k∧k≤7)∧rg a∧rg b∧rg c:=⟨hk,he.2.2.1 ▸ r1,he.2.2.2.1 ▸ r2,he.2.2.2.2.1 ▸ r3⟩
  simp only [dt,df,Zbd.j10,between_eq,Option.bind_some]
  repeat' split
  all_goals exact ⟨_,rfl,fun _=>hg⟩
end Rv
namespace Rv
open Go
def isL (b:UInt8):Bool:=decide (65≤b.toNat∧b.toNat≤90∨97≤b.toNat∧b.toNat≤122∨b.toNat=95)
def isD (b:UInt8):Bool:=decide (48≤b.toNat∧b.toNat≤57)
def isW (b:UInt8):Bool:=isL b || isD b
def wordOf (s:Str):Str:=s.takeWhile isW
theorem some_tt {p:Prop} [Decidable p] (h:p):some (true,())=some (decide p,()):=by simp [h]
theorem some_ff {p:Prop} [Decidable p] (h:¬ p):some (false,())=some (decide p,()):=by simp [h]
theorem some_pq {p q:Prop} [Decidable p] [Decidable q] (h:p↔q):some (decide p,())=some (decide q,()):=by simp [h]
theorem letter_eq (b:UInt8):Zcs.g (b.toNat:Int)=some (isL b,()):=by
 unfold Zcs.g Zcs.f isL
 simp only [dt,df]
 (repeat' split) <;> first | (refine some_tt ?_; omega) | (refine some_ff ?_; omega) | (refine some_pq ?_; omega)
theorem digit_eq (b:UInt8):Zdc.g (b.toNat:Int)=some (isD b,()):=by
 unfold Zdc.g Zdc.f isD
 simp only [dt,df]
 (repeat' split) <;> first | (refine some_tt ?_; omega) | (refine some_ff ?_; omega) | (refine some_pq ?_; omega)
theorem word_loop (s:Str) (hs:s.length≤9223372036854775807) (n:Nat):∀ (m k:Nat),k≤s.length→s.length - k < m→Zas.l2 n m s (k:Int)=some (s.take (k+(wordOf (s.drop k)).length),()):=by
 intro m
 induction m with
 | zero=>intro k _ h; omega
 | succ m ih=>
  intro k hk hm
  have hend:Zas.j4 n s (k:Int)=some (s.take k,()):=by
   unfold Zas.j4
   rw [if_pos (by omega)]
   simp
  simp only [Zas.l2,dt,df]
  by_cases hlt:k < s.length
  ·have hd:=drop_cons hlt
   have step:Zas.j3 n (Zas.l2 n m) s (k:Int)=some (s.take (k+1+(wordOf (s.drop (k+1))).length),()):=by
    unfold Zas.j3
    rw [w64 (by omega)]
    exact ih (k+1) (by omega) (by omega)
   rw [if_pos (by omega),if_pos (by omega),bt_nat,letter_eq,Option.bind_some]
   cases hl:isL (s.getD k 0) with
   | true=>
    rw [if_neg (by simp),step,hd]
    simp only [wordOf,List.takeWhile_cons,isW,hl,Bool.true_or,if_true,List.length_cons]
    rw [show k+1+((s.drop (k+1)).takeWhile isW).length=k+(((s.drop (k+1)).takeWhile isW).length+1) by omega]
   | false=>
    rw [if_pos rfl,if_pos (by omega),digit_eq,Option.bind_some]
    cases hdg:isD (s.getD k 0) with
    | true=>
     rw [if_pos rfl,step,hd]
     simp only [wordOf,List.takeWhile_cons,isW,hl,hdg,Bool.or_true,if_true,List.length_cons]
     rw [show k+1+((s.drop (k+1)).takeWhile isW).length=k+(((s.drop (k+1)).takeWhile isW).length+1) by omega]
    | false=>
     rw [if_neg (by simp),hend,hd]
     simp only [wordOf,List.takeWhile_cons,isW,hl,hdg,Bool.or_self,Bool.false_eq_true,if_false,List.length_nil,Nat.add_zero]
  ·have:k=s.length:=by omega
   subst this
   rw [if_neg (by omega),hend]
   simp [wordOf]
theorem word_eq (s:Str) (hs:s.length≤9223372036854775807):Zas.g s=some (wordOf s,()):=by
 unfold Zas.g Zas.f
 have:=word_loop s hs (1000+s.length) (1000+s.length) 0 (by omega) (by omega)
 rw [show ((0:Nat):Int)=0 from rfl] at this
 rw [this]
 congr 2
 simp only [List.drop_zero,Nat.zero_add]
 exact (List.prefix_iff_eq_take.1 (List.takeWhile_prefix isW)).symm
def lowN (c:Int):Int:=if c / 32 % 2=1 then c else c+32
theorem lower_tab:((List.range 256).all fun n=>decide (bitsI .or .u8 (n:Int) 32=lowN n))=true:=by decide +kernel
theorem lower_eq (b:UInt8):Zar.g (b.toNat:Int)=some (lowN b.toNat,()):=by
 unfold Zar.g Zar.f
 have:=List.all_eq_true.1 lower_tab b.toNat (by have:=b.toNat_lt; simpa using this)
 rw [of_decide_eq_true this]
def digOf (b:UInt8):Option Nat:=
 if 48≤b.toNat∧b.toNat≤57 then some (b.toNat - 48) else if 97≤b.toNat∧b.toNat≤122 then some (b.toNat - 87) else if 65≤b.toNat∧b.toNat≤90 then some (b.toNat - 55) else none
def numFrom (base:Nat):Nat→Str→Option Nat
 | n,[]=>some n
 | n,c::r=>match digOf c with
  | some d=>if d < base then (if n * base+d < 4294967296 then numFrom base (n * base+d) r else none) else none
  | none=>none
def PuR (o:Option Nat) (r:Option (Int×Option Int×Unit)):Prop:=
 (∀ v,o=some v→r=some ((v:Int),none,()))∧(o=none→∃ x e,r=some (x,some e,())∧(e=1∨e=2))
theorem PuR.bad {x e:Int} (h:e=1∨e=2):PuR none (some (x,some e,())):=⟨fun _ e=>(by cases e),fun _=>⟨x,e,rfl,h⟩⟩
theorem map_getD (s:Str) (k:Nat) (h:k < s.length):(s.map fun b=>(b.toNat:Int)).getD ((k:Int)).toNat 0=((s.getD k 0).toNat:Int):=by
 simp [List.getD,h]
theorem pu_digit {n:Nat} {rl:Int→Bool→Str→Int→Int→Bool→Int→(List Int)→Int→Int→Option (Int×(Option Int)×Unit)} {base d v k:Nat} {s9:Str} {cutoff:Int} {t:List Int} {l:Int} {o:Nat→Option Nat} (hb:base=10∨base=16) (hd:d < 36) (hv:v < 4294967296) (hc:4294967296≤cutoff) (hk:k < 9223372036854775807)
  (hr:∀ v,v < 4294967296→PuR (o v) (rl base false s9 cutoff 4294967295 false v t l ((k+1:Nat):Int))) :
  PuR (if d < base then (if v * base+d < 4294967296 then o (v * base+d) else none) else none) (Zaa.j46 n rl base false s9 cutoff 4294967295 false v d t l k):=by
 unfold Zaa.j46 Zaa.j55
 have hm:v * base < 68719476736:=by
  rcases hb with rfl | rfl <;> omega
 rw [w8u (by omega),w64 (x:=(k:Int)+1) (by omega),w64u (x:=(base:Int)) (by omega),w64u (x:=(d:Int)) (by omega)]
 have e1:((v:Int) * (base:Int))=((v * base:Nat):Int):=by simp
 rw [e1]
 have hr':=fun h=>hr (v * base+d) h
 generalize v * base=M at *
 rw [w64u (x:=(M:Int)) (by omega),w64u (x:=(M:Int)+d) (by omega)]
 simp only [dt,df]
 by_cases h1:d < base
 ·by_cases h2:M+d < 4294967296
  ·rw [if_pos h1,if_pos h2,if_neg (by omega),if_neg (by omega),if_pos (by omega),if_neg (by omega)]
   have:=hr' h2
   simpa using this
  ·rw [if_pos h1,if_neg h2,if_neg (by omega),if_neg (by omega),if_pos (by omega),if_pos (by omega)]
   exact PuR.bad (.inl rfl)
 ·rw [if_neg h1,if_pos (by omega)]
  exact PuR.bad (.inr rfl)
theorem pu_loop (s s9:Str) (base:Nat) (cutoff:Int) (hb:base=10∨base=16) (hc:4294967296≤cutoff) (hs:s.length < 9223372036854775807) (n:Nat):∀ (m k v:Nat),k≤s.length→s.length - k < m→v < 4294967296 →
  PuR (numFrom base v (s.drop k)) (Zaa.l36 n m base false s9 cutoff 4294967295 false v (s.map fun b=>(b.toNat:Int)) ((s.map fun b=>(b.toNat:Int)).length:Int) k):=by
 intro m
 induction m with
 | zero=>intro k v _ h; omega
 | succ m ih=>
  intro k v hk hm hv
  simp only [Zaa.l36,dt,df]
  by_cases hlt:k < s.length
  ·have hl:k < (s.map fun b=>(b.toNat:Int)).length:=by simpa using hlt
   rw [if_pos (by omega),if_pos (by omega),drop_cons hlt]
   simp only [map_getD s k hlt,lower_eq,Option.bind_some,Bool.false_eq_true,if_false]
   have step:∀ d,digOf (s.getD k 0)=some d→d < 36→PuR (numFrom base v (s.getD k 0::s.drop (k+1))) (Zaa.j46 n (Zaa.l36 n m) base false s9 cutoff 4294967295 false v d (s.map fun b=>(b.toNat:Int)) ((s.map fun b=>(b.toNat:Int)).length:Int) k):=by
    intro d hd hd36
    simp only [numFrom,hd]
    exact pu_digit (o:=fun v=>numFrom base v (s.drop (k+1))) hb hd36 hv hc (by omega) fun v hv=>ih (k+1) v (by omega) (by omega) hv
   have bad:digOf (s.getD k 0)=none→PuR (numFrom base v (s.getD k 0::s.drop (k+1))) (some ((0:Int),some (2:Int),())):=by
    intro hd
    simp only [numFrom,hd]
    exact PuR.bad (.inr rfl)
   generalize hbb:s.getD k 0=b at *
   have hb1:=byte_lt b
   have dig1:(48:Int)≤b.toNat→(b.toNat:Int)≤57→digOf b=some (b.toNat - 48):=fun h1 h2=>by unfold digOf; rw [if_pos (by omega)]
   have dig2:¬((48:Int)≤b.toNat∧(b.toNat:Int)≤57)→(97:Int)≤lowN b.toNat→lowN b.toNat≤(122:Int)→∃ d,digOf b=some d∧d < 36∧IntKind.u8.wrap (IntKind.u8.wrap (lowN b.toNat - 97)+10)=(d:Int):=fun h1 h2 h3=>by
    rw [w8u (x:=lowN b.toNat - 97) (by omega),w8u (by omega)]
    unfold lowN at h2 h3 ⊢
    unfold digOf
    rw [if_neg (by omega)]
    split at h2
    ·rw [if_pos (by omega)] at h3
     rw [if_pos (by omega),if_pos (by omega)]
     exact ⟨_,rfl,by omega,by omega⟩
    ·rw [if_neg (by omega)] at h3
     rw [if_neg (by omega),if_pos (by omega),if_neg (by omega)]
     exact ⟨_,rfl,by omega,by omega⟩
   have dig3:¬((48:Int)≤b.toNat∧(b.toNat:Int)≤57)→¬((97:Int)≤lowN b.toNat∧lowN b.toNat≤(122:Int))→digOf b=none:=fun h1 h2=>by
    unfold lowN at h2
    unfold digOf
    rw [if_neg (by omega)]
    split at h2
    ·rw [if_neg (by omega),if_neg (by omega)]
    ·rw [if_neg (by omega),if_neg (by omega)]
   have wr:(48:Int)≤b.toNat→(b.toNat:Int)≤57→IntKind.u8.wrap ((b.toNat:Int) - 48)=((b.toNat - 48:Nat):Int):=fun h1 h2=>by rw [w8u (by omega)]; omega
   have lets:¬((48:Int)≤b.toNat∧(b.toNat:Int)≤57)→PuR (numFrom base v (b::s.drop (k+1))) (if (97:Int)≤lowN b.toNat then (if lowN b.toNat≤(122:Int) then Zaa.j46 n (Zaa.l36 n m) base false s9 cutoff 4294967295 false v (IntKind.u8.wrap (IntKind.u8.wrap (lowN b.toNat - 97)+10)) (s.map fun b=>(b.toNat:Int)) ((s.map fun b=>(b.toNat:Int)).length:Int) k
     else some ((0:Int),some (2:Int),())) else some ((0:Int),some (2:Int),())):=by
    intro h0
    by_cases h1:(97:Int)≤lowN b.toNat
    ·rw [if_pos h1]
     by_cases h2:lowN b.toNat≤(122:Int)
     ·rw [if_pos h2]
      obtain ⟨d,hd,hd36,he⟩:=dig2 h0 h1 h2
      rw [he]
      exact step d hd hd36
     ·rw [if_neg h2]; exact bad (dig3 h0 fun h=>h2 h.2)
    ·rw [if_neg h1]; exact bad (dig3 h0 fun h=>h1 h.1)
   have rest:PuR (numFrom base v (b::s.drop (k+1))) (if (48:Int)≤b.toNat then (if (b.toNat:Int)≤57 then Zaa.j46 n (Zaa.l36 n m) base false s9 cutoff 4294967295 false v (IntKind.u8.wrap ((b.toNat:Int) - 48)) (s.map fun b=>(b.toNat:Int)) ((s.map fun b=>(b.toNat:Int)).length:Int) k
     else (if (97:Int)≤lowN b.toNat then (if lowN b.toNat≤(122:Int) then Zaa.j46 n (Zaa.l36 n m) base false s9 cutoff 4294967295 false v (IntKind.u8.wrap (IntKind.u8.wrap (lowN b.toNat - 97)+10)) (s.map fun b=>(b.toNat:Int)) ((s.map fun b=>(b.toNat:Int)).length:Int) k
     else some ((0:Int),some (2:Int),())) else some ((0:Int),some (2:Int),())))
     else (if (97:Int)≤lowN b.toNat then (if lowN b.toNat≤(122:Int) then Zaa.j46 n (Zaa.l36 n m) base false s9 cutoff 4294967295 false v (IntKind.u8.wrap (IntKind.u8.wrap (lowN b.toNat - 97)+10)) (s.map fun b=>(b.toNat:Int)) ((s.map fun b=>(b.toNat:Int)).length:Int) k
     else some ((0:Int),some (2:Int),())) else some ((0:Int),some (2:Int),()))):=by
    by_cases h1:(48:Int)≤b.toNat
    ·rw [if_pos h1]
     by_cases h2:(b.toNat:Int)≤57
     ·rw [if_pos h2,wr h1 h2]; exact step _ (dig1 h1 h2) (by omega)
     ·rw [if_neg h2]; exact lets fun h=>h2 h.2
    ·rw [if_neg h1]; exact lets fun h=>h1 h.1
   split
   ·exact rest
   ·exact rest
  ·have:k=s.length:=by omega
   subst this
   rw [if_neg (by simp),List.drop_length]
   simp only [Bool.false_eq_true,if_false]
   exact ⟨fun v' e=>by simp only [numFrom,Option.some.injEq] at e; rw [e],fun e=>by simp [numFrom] at e⟩
theorem parse_inner (s:Str) (base:Nat) (hb:base=10∨base=16) (hs:s.length < 9223372036854775807):PuR (if s=[] then none else numFrom base 0 s) (Zaa.g s base 32):=by
 unfold Zaa.g Zaa.f
 simp only [dt,df]
 by_cases h0:s=[]
 ·rw [if_pos h0,if_pos h0]
  exact PuR.bad (.inr rfl)
 ·rw [if_neg h0,if_neg h0,if_pos (by omega),if_pos (by omega)]
  have hb0:decide ((base:Int)=0)=false:=by simp; omega
  rw [hb0]
  unfold Zaa.j21
  simp only [dt,df]
  rw [if_neg (by omega),if_pos (by omega),if_neg (by omega)]
  unfold Zaa.j25
  simp only [dt,df]
  have fin:∀ cutoff:Int,4294967296≤cutoff→PuR (numFrom base 0 s) (Zaa.j32 (1000+s.length+(base:Int).toNat+(32:Int).toNat) s base 32 false s cutoff):=by
   intro cutoff hc
   unfold Zaa.j32
   have e1:IntKind.u64.wrap 32=32:=w64u (by omega)
   rw [e1,if_neg (by omega)]
   have e2:IntKind.u64.wrap (IntKind.u64.wrap (1 * 2 ^ min (32:Int).toNat IntKind.u64.bits) - 1)=4294967295:=by decide
   rw [e2]
   have:=pu_loop s s base cutoff hb hc hs (1000+s.length+(base:Int).toNat+(32:Int).toNat) (1000+s.length+(base:Int).toNat+(32:Int).toNat) 0 0 (by omega) (by omega) (by omega)
   simpa using this
  rcases hb with rfl | rfl
  ·rw [if_pos (by omega)]; exact fin _ (by omega)
  ·rw [if_neg (by omega),if_pos (by omega)]; exact fin _ (by omega)
theorem parse_eq (s:Str) (base:Nat) (hb:base=10∨base=16) (hs:s.length≤281474976710656):(∀ v,(if s=[] then none else numFrom base 0 s)=some v→Zct.g s base 32=some ((v:Int),true,())) ∧
  ((if s=[] then none else numFrom base 0 s)=none→∃ x,Zct.g s base 32=some (x,false,())):=by
 obtain ⟨h1,h2⟩:=parse_inner s base hb (by omega)
 refine ⟨fun v hv=>?_,fun hn=>?_⟩
 ·unfold Zct.g Zct.f
  rw [h1 v hv]; rfl
 ·obtain ⟨x,e,he,hc⟩:=h2 hn
  unfold Zct.g Zct.f
  rw [he]
  simp only [Option.bind_some,Option.isNone_some,Bool.not_false,if_true,L.toErrorO,Option.some.injEq]
  rw [if_pos ⟨hs,hc⟩]
  exact ⟨x,rfl⟩
theorem contains_mem:∀ {s:Str} {c:UInt8},Lib.contains s [c]=true→c∈s
 | [],c,h=>by simp [Lib.contains,Lib.index] at h
 | b::l,c,h=>by
  by_cases hb:c=b
  ·simp [hb]
  ·have:Lib.contains l [c]=true:=by
    simp only [Lib.contains,Lib.index,List.isPrefixOf,Bool.and_true,beq_iff_eq,decide_eq_true_eq] at h ⊢
    rw [if_neg hb] at h
    split at h
    ·omega
    ·have:=Lib.index_ge l [c]
     rename_i hne
     have:¬ Lib.index l [c]=-1:=by simpa using hne
     omega
   exact List.mem_cons_of_mem _ (contains_mem this)
theorem numFrom_bad {base:Nat}:∀ {s:Str} {v:Nat},(95:UInt8)∈s→numFrom base v s=none
 | [],_,h=>by cases h
 | c::r,v,h=>by
  simp only [numFrom]
  rcases List.mem_cons.1 h with h | h
  ·rw [← h]
   have:digOf 95=none:=by decide
   rw [this]
  ·(repeat' split) <;> first | rfl | exact numFrom_bad h
theorem numFrom_lt {base:Nat}:∀ {s:Str} {v w:Nat},v < 4294967296→numFrom base v s=some w→w < 4294967296
 | [],_,_,hv,h=>by simp only [numFrom,Option.some.injEq] at h; omega
 | c::r,v,w,hv,h=>by
  simp only [numFrom] at h
  split at h
  ·split at h
   ·split at h
    ·exact numFrom_lt (by assumption) h
    ·cases h
   ·cases h
  ·cases h
def num (s:Str):Option Nat:=
 if ([48,120]:Str).isPrefixOf s then (if s.drop 2=[] then none else numFrom 16 0 (s.drop 2)) else if s=[] then none else numFrom 10 0 s
theorem number_part (s:Str) (base:Nat) (n:Nat) (hb:base=10∨base=16) (hs:s.length≤1000000) :
  (∀ v,(if s=[] then none else numFrom base 0 s)=some v→Zby.j5 n s base=some ((v:Int),true,()))∧((if s=[] then none else numFrom base 0 s)=none→∃ x,Zby.j5 n s base=some (x,false,())):=by
 have hcO:L.containsO s [95]=some (Lib.contains s [95],()):=by unfold L.containsO; rw [if_pos (by omega)]
 unfold Zby.j5
 rw [hcO,Option.bind_some]
 obtain ⟨h1,h2⟩:=parse_eq s base hb (by omega)
 by_cases hc:Lib.contains s [95]=true
 ·simp only [hc,if_true]
  have hm:=contains_mem hc
  have hne:s≠[]:=by rintro rfl; cases hm
  rw [if_neg hne,numFrom_bad hm]
  exact ⟨fun v e=>(by cases e),fun _=>⟨_,rfl⟩⟩
 ·simp only [hc,Bool.false_eq_true,if_false]
  refine ⟨fun v hv=>?_,fun hn=>?_⟩
  ·have hlt:v < 4294967296:=by
    split at hv
    ·cases hv
    ·exact numFrom_lt (by omega) hv
   rw [h1 v hv,Option.bind_some,w32u (by omega)]
  ·obtain ⟨x,hx⟩:=h2 hn
   rw [hx,Option.bind_some]
   exact ⟨_,rfl⟩
theorem number_eq (s:Str) (hs:s.length≤1000000):(∀ v,num s=some v→Zby.g s=some ((v:Int),true,()))∧(num s=none→∃ x,Zby.g s=some (x,false,())):=by
 unfold Zby.g Zby.f num L.cutIs L.cutRest Lib.trimPrefix Lib.hasPrefix
 by_cases hp:([48,120]:Str).isPrefixOf s=true
 ·simp only [hp,if_true]
  exact number_part (s.drop 2) 16 _ (.inr rfl) (by simp; omega)
 ·have hp':([48,120]:Str).isPrefixOf s=false:=Bool.eq_false_iff.2 hp
  simp only [hp',Bool.false_eq_true,if_false]
  exact number_part s 10 _ (.inl rfl) hs
abbrev Tok:=Int×Int×Str×Int×Unit
def isS (c:UInt8):Bool:=([44,58,43,45,42,40,41,61]:Str).contains c
def tokAt (c:UInt8) (r:Str):Except Int (Nat×Int×Str×Int):=
 if isL c then .ok (0,1,wordOf (c::r),0)
 else if isD c then match num (wordOf (c::r)) with
  | some v=>.ok (0,2,wordOf (c::r),v)
  | none=>.error 21
 else if c=46∧(∃ d∈r.head?,isL d) then .ok (1,4,wordOf r,0)
 else if isS c then .ok (0,3,[c],0)
 else .error 20
def lineR (k:Int):Str→Except Int (List Tok)
 | []=>.ok []
 | c::r=>
  if c=59 then .ok []
  else if c=32∨c=9 then lineR (k+1) r
  else match tokAt c r with
   | .error e=>.error e
   | .ok (d,q,t,v)=>match lineR (k+d+t.length) (r.drop (d+t.length - 1)) with
    | .error e=>.error e
    | .ok l=>.ok ((q,k,t,v,())::l)
termination_by s=>s.length
decreasing_by
 all_goals simp
 all_goals omega
theorem lineR_nil (k:Int):lineR k []=.ok []:=by rw [lineR]
theorem lineR_cons (k:Int) (c:UInt8) (r:Str):lineR k (c::r)=if c=59 then .ok [] else if c=32∨c=9 then lineR (k+1) r else match tokAt c r with
   | .error e=>.error e
   | .ok (d,q,t,v)=>match lineR (k+d+t.length) (r.drop (d+t.length - 1)) with
    | .error e=>.error e
    | .ok l=>.ok ((q,k,t,v,())::l):=by rw [lineR]
theorem sign_tab:((List.range 256).all fun n=>decide ((0≤L.indexByte ([44,58,43,45,42,40,41,61]:Str) (n:Int))=(isS (UInt8.ofNat n)=true)))=true:=by decide +kernel
theorem sign_eq (b:UInt8):(0≤L.indexByte ([44,58,43,45,42,40,41,61]:Str) (b.toNat:Int))=(isS b=true):=by
 have:=List.all_eq_true.1 sign_tab b.toNat (by have:=b.toNat_lt; simpa using this)
 have h:=of_decide_eq_true this
 simpa using h
def lineOut (out:List Tok):Except Int (List Tok)→List Tok×Int×Unit
 | .ok l=>(out++l,0,())
 | .error e=>([],e,())
theorem lineOut_snoc (out:List Tok) (t:Tok) (x:Except Int (List Tok)):lineOut (out++[t]) x=lineOut out (match x with | .error e=>.error e | .ok l=>.ok (t::l)):=by
 cases x <;> simp [lineOut]
theorem wordOf_le (s:Str):(wordOf s).length≤s.length:=(List.takeWhile_prefix isW).length_le
theorem wordOf_pos {c:UInt8} {r:Str} (h:isW c=true):1≤(wordOf (c::r)).length:=by
 simp [wordOf,List.takeWhile_cons,h]
theorem line_loop (s:Str) (hs:s.length≤1000000) (n:Nat):∀ (m k:Nat) (out:List Tok),k≤s.length→s.length - k < m→out.length≤k→Zam.g0 n m s out (k:Int)=some (lineOut out (lineR k (s.drop k))):=by
 intro m
 induction m with
 | zero=>intro k out _ h; omega
 | succ m ih=>
  intro k out hk hm hout
  have e1:IntKind.i64.wrap ((k:Int)+1)=((k+1:Nat):Int):=by rw [w64 (by omega)]; omega
  by_cases hlt:k < s.length
  ·have tok:∀ (d:Nat) (q:Int) (t:Str) (v:Int),1≤d+t.length→k+d+t.length≤s.length→Zam.j23 n (Zam.g0 n m) s out ((k+d:Nat):Int) q (k:Int) t v=some (lineOut out (match lineR ((k:Int)+d+t.length) ((s.drop (k+1)).drop (d+t.length - 1)) with
     | .error e=>.error e
     | .ok l=>.ok ((q,k,t,v,())::l))):=by
    intro d q t v h1 h2
    unfold Zam.j23
    rw [if_pos (by simp; omega),w64 (by omega)]
    have:=ih (k+d+t.length) (out++[(q,(k:Int),t,v,())]) h2 (by omega) (by simp; omega)
    rw [lineOut_snoc] at this
    rw [show ((k+d:Nat):Int)+(t.length:Int)=((k+d+t.length:Nat):Int) by omega,List.drop_drop,show k+1+(d+t.length - 1)=k+d+t.length by omega,show (k:Int)+(d:Int)+(t.length:Int)=((k+d+t.length:Nat):Int) by omega]
    exact this
   have tok0:=fun q t v h1 h2=>tok 0 q t v h1 h2
   simp only [Nat.add_zero,Nat.zero_add] at tok0
   have tok1:=fun q t v h1 h2=>tok 1 q t v h1 h2
   have skip:Zam.g0 n m s out ((k+1:Nat):Int)=some (lineOut out (lineR ((k:Int)+1) (s.drop (k+1)))):=by
    rw [show (k:Int)+1=((k+1:Nat):Int) by omega]
    exact ih (k+1) out (by omega) (by omega) (by omega)
   rw [drop_cons hlt,lineR_cons]
   simp only [Zam.g0,dt,df]
   simp only [e1,bt_nat,letter_eq,digit_eq,Option.bind_some,Int.toNat_natCast,List.take_length,sign_eq]
   rw [if_pos (by omega),if_pos (by omega)]
   have hw0:=word_eq (s.drop k) (by simp; omega)
   have hw1:=word_eq (s.drop (k+1)) (by simp; omega)
   rw [hw0,hw1,drop_cons hlt]
   have hl0:=wordOf_le (s.drop k)
   have hl1:=wordOf_le (s.drop (k+1))
   rw [drop_cons hlt] at hl0
   have hd0:(s.drop (k+1)).length=s.length - (k+1):=by simp
   have hd1:(s.getD k 0::s.drop (k+1)).length=s.length - k:=by simp; omega
   have hsign:(s.take (k+1)).drop k=[s.getD k 0]:=by
    rw [List.drop_take,drop_cons hlt]
    simp [show k+1 - k=1 by omega]
   have hhead:(∃ d∈(s.drop (k+1)).head?,isL d=true)↔k+1 < s.length∧isL (s.getD (k+1) 0)=true:=by
    by_cases h:k+1 < s.length
    ·rw [drop_cons h]; simp [h]
    ·rw [List.drop_eq_nil_of_le (by omega)]; simp [h]
   have hwp:=@wordOf_pos (s.getD k 0) (s.drop (k+1))
   have hwq:k+1 < s.length→isL (s.getD (k+1) 0)=true→1≤(wordOf (s.drop (k+1))).length:=fun h h'=>by
    rw [drop_cons h]; exact wordOf_pos (by unfold isW; rw [h']; rfl)
   rw [hsign]
   have b59:(((s.getD k 0).toNat:Int)=59)=(s.getD k 0=59):=byte_is _ 59 (by decide)
   have b32:(((s.getD k 0).toNat:Int)=32)=(s.getD k 0=32):=byte_is _ 32 (by decide)
   have b9:(((s.getD k 0).toNat:Int)=9)=(s.getD k 0=9):=byte_is _ 9 (by decide)
   have b46:(((s.getD k 0).toNat:Int)=46)=(s.getD k 0=46):=byte_is _ 46 (by decide)
   generalize s.getD k 0=b at *
   by_cases h59:b=59
   ·rw [if_pos (by rw [h59]; rfl),if_pos h59]
    simp [lineOut]
   ·rw [if_neg (fun h=>h59 (b59.mp h)),if_neg h59,if_pos (by omega)]
    by_cases h32:b=32
    ·rw [if_neg (fun h=>h (b32.mpr h32)),if_pos (.inl h32)]
     exact skip
    ·rw [if_pos (fun h=>h32 (b32.mp h))]
     by_cases h9:b=9
     ·rw [if_pos (b9.mpr h9),if_pos (.inr h9)]
      exact skip
     ·rw [if_neg (fun h=>h9 (b9.mp h)),if_neg (show ¬ (b=32∨b=9) from fun h=>h.elim h32 h9)]
      unfold tokAt
      by_cases hL:isL b=true
      ·rw [if_pos hL,if_pos hL,if_pos (by omega)]
       simp only [Option.bind_some]
       rw [tok0 _ _ _ (hwp (by simp [isW,hL])) (by omega)]
       simp
      ·rw [if_neg hL,if_neg hL]
       by_cases hD:isD b=true
       ·rw [if_pos hD,if_pos hD,if_pos (by omega)]
        simp only [Option.bind_some]
        obtain ⟨h1,h2⟩:=number_eq (wordOf (b::s.drop (k+1))) (by omega)
        cases hn:num (wordOf (b::s.drop (k+1))) with
        | none=>
         obtain ⟨x,hx⟩:=h2 hn
         rw [hx]
         simp [lineOut]
        | some v=>
         rw [h1 v hn]
         simp only [Option.bind_some,Bool.not_true,Bool.false_eq_true,if_false]
         rw [tok0 _ _ _ (hwp (by simp [isW,hD])) (by omega)]
         simp
       ·rw [if_neg hD,if_neg hD]
        have sgn:(if isS b=true then (if 0≤((k+1:Nat):Int)∧((k+1:Nat):Int)≤(s.length:Int) then (if 0≤(k:Int)∧(k:Int)≤((k+1:Nat):Int) then Zam.j23 n (Zam.g0 n m) s out k 3 k [b] 0 else none) else none) else some ([],20,())) =
          some (lineOut out (match (if isS b=true then Except.ok (0,3,[b],0) else Except.error 20:Except Int (Nat×Int×Str×Int)) with
           | .error e=>.error e
           | .ok (d,q,t,v)=>match lineR (k+d+t.length) ((s.drop (k+1)).drop (d+t.length - 1)) with
            | .error e=>.error e
            | .ok l=>.ok ((q,k,t,v,())::l))):=by
         by_cases hS:isS b=true
         ·rw [if_pos hS,if_pos hS,if_pos (by omega),if_pos (by omega),tok0 _ _ _ (by simp) (by simp; omega)]
          simp
         ·rw [if_neg hS,if_neg hS]
          simp [lineOut]
        by_cases h46:b=46
        ·rw [if_pos (b46.mpr h46)]
         by_cases hk1:k+1 < s.length
         ·rw [if_pos (by omega),if_pos (by omega)]
          by_cases hL1:isL (s.getD (k+1) 0)=true
          ·rw [if_pos hL1,if_pos (by omega),if_pos ⟨h46,hhead.mpr ⟨hk1,hL1⟩⟩]
           simp only [Option.bind_some]
           have:=hwq hk1 hL1
           rw [tok1 _ _ _ (by omega) (by omega)]
          ·rw [if_neg hL1,if_neg (show ¬ (b=46∧∃ d∈(s.drop (k+1)).head?,isL d=true) from fun h=>hL1 (hhead.mp h.2).2)]
           exact sgn
         ·rw [if_neg (by omega),if_neg (show ¬ (b=46∧∃ d∈(s.drop (k+1)).head?,isL d=true) from fun h=>hk1 (hhead.mp h.2).1)]
          exact sgn
        ·rw [if_neg (fun h=>h46 (b46.mp h)),if_neg (show ¬ (b=46∧∃ d∈(s.drop (k+1)).head?,isL d=true) from fun h=>h46 h.1)]
         exact sgn
  ·have:k=s.length:=by omega
   subst this
   simp only [Zam.g0,dt,df]
   rw [if_neg (by omega),List.drop_length,lineR_nil]
   simp [lineOut]
theorem line_eq (s:Str) (hs:s.length≤1000000):Zam.g s=some (lineOut [] (lineR 0 s)):=by
 unfold Zam.g Zam.f
 have:=line_loop s hs (1000+s.length) (1000+s.length) 0 [] (by omega) (by omega) (by simp)
 simpa using this
end Rv
namespace Rv
open Go
def shift (j:Int) (t:Tok):Tok:=(t.1,t.2.1+j,t.2.2)
theorem word_no59 {s:Str}:(59:UInt8) ∉ s.takeWhile isW:=by
 intro h
 have h1:(s.takeWhile isW).all isW=true:=List.all_takeWhile
 have:=List.all_eq_true.1 h1 59 h
 exact absurd this (by decide)
theorem takeW (s:Str):s.take (s.takeWhile isW).length=s.takeWhile isW:=(List.prefix_iff_eq_take.1 (List.takeWhile_prefix isW)).symm
theorem tokAt_ok {c:UInt8} {r:Str} {d:Nat} {q:Int} {t:Str} {v:Int} (h:tokAt c r=.ok (d,q,t,v)):1≤d+t.length∧d+t.length - 1≤r.length∧(59:UInt8) ∉ r.take (d+t.length - 1):=by
 have wc:isW c=true→1≤0+(wordOf (c::r)).length∧0+(wordOf (c::r)).length - 1≤r.length∧(59:UInt8) ∉ r.take (0+(wordOf (c::r)).length - 1):=by
  intro hc
  have:wordOf (c::r)=c::r.takeWhile isW:=by simp [wordOf,List.takeWhile_cons,hc]
  rw [this]
  have hl:=(List.takeWhile_prefix isW (l:=r)).length_le
  simp only [List.length_cons]
  refine ⟨by omega,by omega,?_⟩
  rw [show 0+((r.takeWhile isW).length+1) - 1=(r.takeWhile isW).length by omega,takeW]
  exact word_no59
 unfold tokAt at h
 split at h
 ·rename_i hL
  simp only [Except.ok.injEq,Prod.mk.injEq] at h
  obtain ⟨rfl,rfl,rfl,rfl⟩:=h
  exact wc (by simp [isW,hL])
 ·split at h
  ·rename_i hD
   split at h
   ·simp only [Except.ok.injEq,Prod.mk.injEq] at h
    obtain ⟨rfl,rfl,rfl,rfl⟩:=h
    exact wc (by simp [isW,hD])
   ·cases h
  ·split at h
   ·simp only [Except.ok.injEq,Prod.mk.injEq] at h
    obtain ⟨rfl,rfl,rfl,rfl⟩:=h
    have hl:=wordOf_le r
    refine ⟨by omega,by omega,?_⟩
    rw [show 1+(wordOf r).length - 1=(r.takeWhile isW).length by unfold wordOf; omega,takeW]
    exact word_no59
   ·split at h
    ·simp only [Except.ok.injEq,Prod.mk.injEq] at h
     obtain ⟨rfl,rfl,rfl,rfl⟩:=h
     simp
    ·cases h
theorem lineR_len:∀ (n:Nat) (k:Int) (s:Str) (l:List Tok),s.length≤n→lineR k s=.ok l→l.length≤s.length
 | _,k,[],l,_,h=>by rw [lineR_nil] at h; cases h; simp
 | 0,k,c::r,l,hn,_=>by simp at hn
 | n+1,k,c::r,l,hn,h=>by
  simp only [List.length_cons] at hn ⊢
  rw [lineR_cons] at h
  split at h
  ·cases h; simp
  ·split at h
   ·have:=lineR_len n (k+1) r l (by omega) h; omega
   ·split at h
    ·cases h
    ·split at h
     ·cases h
     ·rename_i l' hl
      cases h
      have:=lineR_len n _ _ l' (by simp; omega) hl
      simp at this ⊢; omega
theorem lineOut_len {k:Int} {s:Str}:(lineOut [] (lineR k s)).1.length≤s.length:=by
 cases h:lineR k s with
 | error e=>simp [lineOut]
 | ok l=>simpa [lineOut] using lineR_len s.length k s l (Nat.le_refl _) h
end Rv
namespace Rv
open Go
end Rv
namespace Rv
open Go
end Rv
namespace Rv
open Go
def regLike (s:Str):Bool:=decide (s.getD 0 0=82) && (decide (s.length=2) || decide (s.length=3)) && (s.drop 1).all isD
def labelOk (s:Str):Bool:=decide (s≠[]) && decide (s.length≤12) && !isD (s.getD 0 0) && s.all isW && !regLike s
def labT (b:Int):Bool:=
 if bitsI .or .u8 b 32 < 97∨122 < bitsI .or .u8 b 32∨b < 65 then decide (b=95) || (!decide (b < 48) && !decide (57 < b)) else true
theorem labT_all:((List.range 256).all fun k=>labT k == isW (UInt8.ofNat k))=true:=by decide +kernel
theorem labT_eq (b:UInt8):labT b.toNat=isW b:=by
 have h:=List.all_eq_true.1 labT_all b.toNat (by simp; exact b.toNat_lt)
 simpa using h
theorem propTF (p:Prop):p=True∨p=False:=(Classical.em p).imp eq_true eq_false
theorem label_step (s:Str) (n m:Nat) (i:Nat) (h1:i < s.length) (X:Option (Bool×Unit)) (hX:Zae.j9 n (Zae.l4 n m) s (s.length:Int) (i:Int)=X) :
  Zae.l4 n (m+1) s (s.length:Int) (i:Int)=if labT (bt s i)=true then X else some (false,()):=by
 have hc:(0:Int)≤i∧(i:Int) < s.length:=by omega
 have hc2:(i:Int) < s.length:=hc.2
 simp only [Zae.l4,dt,df,hX,labT]
 by_cases a1:bitsI .or .u8 (bt s i) 32 < 97 <;> by_cases a2:122 < bitsI .or .u8 (bt s i) 32 <;> by_cases a3:bt s i < 65 <;> rcases propTF (bt s i=95) with a4 | a4 <;> by_cases a5:bt s i < 48 <;> by_cases a6:57 < bt s i <;>
  simp only [hc,hc2,a1,a2,a3,a4,a5,a6,if_true,if_false,not_true_eq_false,not_false_eq_true,ne_eq,true_or,or_true,or_false,false_or,or_self,and_self,true_and,decide_true,decide_false,Bool.true_or,Bool.false_or,Bool.not_true,Bool.not_false,Bool.and_true,Bool.and_false,Bool.false_and,Bool.true_and,Bool.or_self,Bool.or_false,Bool.or_true,Bool.false_eq_true]
theorem label_loop (s:Str) (hs:s.length≤12) (n:Nat):∀ (m i:Nat),i≤s.length→s.length - i < m →
  Zae.l4 n m s (s.length:Int) (i:Int)=if (s.drop i).all isW=true then Zae.l4 n 1 s (s.length:Int) (s.length:Int) else some (false,()):=by
 intro m
 induction m with
 | zero=>intro i _ h; omega
 | succ m ih=>
  intro i hi hm
  by_cases h1:i < s.length
  ·have hnext:Zae.j9 n (Zae.l4 n m) s (s.length:Int) (i:Int)=if (s.drop (i+1)).all isW=true then Zae.l4 n 1 s (s.length:Int) (s.length:Int) else some (false,()):=by
    unfold Zae.j9
    rw [w64 (by omega),show (i:Int)+1=((i+1:Nat):Int) by omega]
    exact ih (i+1) (by omega) (by omega)
   rw [label_step s n m i h1 _ hnext,bt_nat,labT_eq,drop_cons h1,List.all_cons]
   cases hw:isW (s.getD i 0)
   ·rfl
   ·rw [if_pos rfl,Bool.true_and]
  ·have hi':i=s.length:=by omega
   subst hi'
   rw [List.drop_length,List.all_nil,if_pos rfl]
   have hlt:¬ ((s.length:Int) < s.length):=by omega
   simp only [Zae.l4,dt,hlt,if_false]
theorem dig_eq (b:UInt8):L.isDig b=isD b:=by simp [L.isDig,isD]
theorem dropWhile_head {p:UInt8→Bool}:∀ {l:Str} {a:UInt8} {r:Str},l.dropWhile p=a::r→p a=false
 | [],_,_,h=>by simp at h
 | b::l,a,r,h=>by
  rw [List.dropWhile_cons] at h
  cases hb:p b
  ·rw [hb] at h
   simp only [Bool.false_eq_true,if_false,List.cons.injEq] at h
   rw [← h.1]; exact hb
  ·rw [hb] at h
   exact dropWhile_head (l:=l) (by simpa using h)
theorem trim_nil (s:Str):(L.trimDig s=[])=(s.all isD=true):=by
 have gen:∀ l:Str,(l.dropWhile L.isDig=[])↔l.all isD=true:=fun l=>by
  induction l with
  | nil=>simp
  | cons a l ih=>
   simp only [List.dropWhile_cons,List.all_cons,dig_eq]
   cases h:isD a
   ·simp
   ·simp [ih]
 unfold L.trimDig
 apply propext
 rw [gen]
 constructor
 ·intro h
  have h0:(s.reverse.dropWhile L.isDig)=[]:=by
   cases hr:s.reverse.dropWhile L.isDig with
   | nil=>rfl
   | cons a r=>
    exfalso
    rw [hr] at h
    have ha:isD a=true:=List.all_eq_true.1 h a (by simp)
    rw [← dig_eq,dropWhile_head hr] at ha
    cases ha
  rw [gen] at h0
  simpa using h0
 ·intro h
  have h0:s.reverse.dropWhile L.isDig=[]:=(gen _).2 (by simpa using h)
  rw [h0]; rfl
theorem label_eq (s:Str):Zae.g s=some (labelOk s,()):=by
 unfold Zae.g Zae.f
 simp only [dt,df]
 by_cases h0:s=[]
 ·subst h0; rw [if_neg (by simp)]; rfl
 ·rw [if_pos h0]
  have hl0:0 < s.length:=List.length_pos_iff.2 h0
  by_cases h12:s.length≤12
  ·rw [if_pos (by omega),if_pos (by omega)]
   have hj:¬ isD (s.getD 0 0)=true→Zae.j3 (1000+s.length) s=some (labelOk s,()):=fun hd=>by
    unfold Zae.j3
    have:=label_loop s h12 (1000+s.length) (1000+s.length) 0 (by omega) (by omega)
    rw [List.drop_zero] at this
    rw [show ((0:Nat):Int)=0 from rfl] at this
    rw [this]
    by_cases hw:s.all isW=true
    ·rw [if_pos hw]
     simp only [Zae.l4,dt,df,bt_nat]
     rw [if_neg (by omega),if_pos (by omega)]
     have hbt:bt s 0=((s.getD 0 0).toNat:Int):=rfl
     simp only [hbt]
     have h82:(((s.getD 0 0).toNat:Int)=82)=(s.getD 0 0=82):=byte_is _ 82 (by omega)
     simp only [h82]
     have htake:(s.take (s.length:Int).toNat).drop (1:Int).toNat=s.drop 1:=by
      rw [show (s.length:Int).toNat=s.length by omega,List.take_length]; rfl
     have htrim:s.length≤3→L.trimO ((s.take (s.length:Int).toNat).drop (1:Int).toNat) [48,49,50,51,52,53,54,55,56,57]=some (L.trimDig (s.drop 1),()):=fun h=>by
      rw [htake]
      unfold L.trimO
      rw [if_pos ⟨rfl,by simp; omega⟩]
     have hL:labelOk s=!regLike s:=by
      unfold labelOk
      rw [decide_eq_true (show s≠[] from h0),decide_eq_true h12,show isD (s.getD 0 0)=false by simpa using hd,hw]
      rfl
     have hT:decide (L.trimDig (s.drop 1)=[])=(s.drop 1).all isD:=by
      rw [Bool.eq_iff_iff,decide_eq_true_eq,trim_nil]
     rw [hL]
     unfold regLike
     by_cases hR:s.getD 0 0=82
     ·rw [if_pos hR,decide_eq_true hR]
      by_cases h2:s.length=2
      ·rw [if_neg (by omega),if_pos (by omega),htrim (by omega),Option.bind_some,decide_eq_true h2]
       dsimp only
       rw [hT]; rfl
      ·rw [if_pos (by omega),decide_eq_false h2]
       by_cases h3:s.length=3
       ·rw [if_pos (by omega),if_pos (by omega),htrim (by omega),Option.bind_some,decide_eq_true h3]
        dsimp only
        rw [hT]; rfl
       ·rw [if_neg (by omega),decide_eq_false h3]; rfl
     ·rw [if_neg hR,decide_eq_false hR]; rfl
    ·rw [if_neg hw]
     simp [labelOk,hw]
   have hbt:bt s 0=((s.getD 0 0).toNat:Int):=rfl
   simp only [hbt]
   by_cases h48:(48:Int)≤(s.getD 0 0).toNat
   ·rw [if_pos h48,if_pos (by omega)]
    by_cases h57:((s.getD 0 0).toNat:Int)≤57
    ·rw [if_pos h57]
     have hd:isD (s.getD 0 0)=true:=by unfold isD; rw [decide_eq_true_eq]; omega
     unfold labelOk
     rw [hd,decide_eq_true (show s≠[] from h0),decide_eq_true h12]; rfl
    ·rw [if_neg h57]
     exact hj (by unfold isD; rw [decide_eq_true_eq]; omega)
   ·rw [if_neg h48]
    exact hj (by unfold isD; rw [decide_eq_true_eq]; omega)
  ·rw [if_neg (by omega)]
   simp [labelOk,h12]
end Rv
namespace Rv
open Go
def isA (b:UInt8):Bool:=decide (65≤b.toNat∧b.toNat≤90∨97≤b.toNat∧b.toNat≤122)
theorem isA_L (b:UInt8):isL b=(isA b || decide (b.toNat=95)):=by
 unfold isL isA
 rw [Bool.eq_iff_iff]
 simp only [decide_eq_true_eq,Bool.or_eq_true]
 omega
def nameOk (s:Str):Bool:=decide (s≠[]) && decide (s.length≤12) && isA (s.getD 0 0) && !regLike s && s.all isW
end Rv
namespace Rv
open Go
theorem leis_tab:((List.range 256).all fun k=>decide (Zcf.g (k:Int) true=some (isA (UInt8.ofNat k),())) && decide (Zcf.g (k:Int) false=some (isW (UInt8.ofNat k),())))=true:=by decide +kernel
theorem leis_eq (b:UInt8) (f:Bool):Zcf.g (b.toNat:Int) f=some (if f then isA b else isW b,()):=by
 have h:=List.all_eq_true.1 leis_tab b.toNat (by simp; exact b.toNat_lt)
 simp at h
 cases f
 ·exact h.2
 ·exact h.1
theorem lename_loop (s:Str) (hs:s.length≤12) (n:Nat):∀ (m i:Nat),1≤i→i≤s.length→s.length - i < m →
  Zba.l4 n m s (s.length:Int) (i:Int)=if (s.drop i).all isW=true then Zba.l4 n 1 s (s.length:Int) (s.length:Int) else some (false,()):=by
 intro m
 induction m with
 | zero=>intro i _ _ h; omega
 | succ m ih=>
  intro i h0 hi hm
  by_cases h1:i < s.length
  ·rw [Zba.l4,if_pos (by simp; omega),if_pos (by omega),bt_nat,leis_eq,Option.bind_some,drop_cons h1,List.all_cons]
   dsimp only
   rw [if_neg (show ¬ decide ((i:Int)=0)=true by simp; omega),w64 (by omega),show (i:Int)+1=((i+1:Nat):Int) by omega,ih (i+1) (by omega) (by omega) (by omega)]
   cases isW (s.getD i 0) <;> simp
  ·have hi':i=s.length:=by omega
   subst hi'
   rw [List.drop_length,List.all_nil,if_pos rfl]
   have hlt:¬ ((s.length:Int) < s.length):=by omega
   simp only [Zba.l4,dt,hlt,if_false]
theorem lename_eq (s:Str):Zba.g s=some (nameOk s,()):=by
 unfold Zba.g Zba.f
 simp only [dt,df]
 by_cases h0:s=[]
 ·subst h0; rw [if_neg (by simp)]; rfl
 ·have hl0:0 < s.length:=List.length_pos_iff.2 h0
  rw [if_pos (by omega)]
  by_cases h12:s.length≤12
  ·rw [if_neg (by omega)]
   obtain ⟨m,hm⟩:∃ m,1000+s.length=m+1:=⟨999+s.length,by omega⟩
   rw [show Zba.l4 (1000+s.length) (1000+s.length) s (s.length:Int) 0=Zba.l4 (1000+s.length) (m+1) s (s.length:Int) 0 by rw [hm],Zba.l4,if_pos (by simp; omega),if_pos (by omega)]
   have hb0:bt s 0=((s.getD 0 0).toNat:Int):=rfl
   rw [hb0,leis_eq,Option.bind_some]
   dsimp only
   have hdd:decide ((0:Int)=0)=true:=rfl
   rw [hdd,if_pos (show true=true from rfl),show IntKind.i64.wrap ((0:Int)+1)=((1:Nat):Int) from rfl,lename_loop s h12 (1000+s.length) m 1 (by omega) (by omega) (by omega)]
   have hall:s.all isW=(isW (s.getD 0 0) && (s.drop 1).all isW):=by
    have:=drop_cons (s:=s) (k:=0) hl0
    rw [List.drop_zero] at this
    conv=>lhs; rw [this]
    rw [List.all_cons]
   unfold nameOk
   rw [decide_eq_true h0,decide_eq_true h12,hall]
   have hAW:isA (s.getD 0 0)=true→isW (s.getD 0 0)=true:=fun h=>by unfold isW; rw [isA_L,h]; rfl
   cases hA:isA (s.getD 0 0) with
   | false=>rw [if_pos (by simp)]; simp
   | true=>
    rw [if_neg (by simp),hAW hA]
    by_cases hw:(s.drop 1).all isW=true
    ·rw [if_pos hw,hw]
     simp only [Zba.l4,dt,df]
     rw [if_neg (by omega),if_pos (by omega),hb0]
     have h82:(((s.getD 0 0).toNat:Int)=82)=(s.getD 0 0=82):=byte_is _ 82 (by omega)
     simp only [h82]
     have htake:(s.take (s.length:Int).toNat).drop (1:Int).toNat=s.drop 1:=by
      rw [show (s.length:Int).toNat=s.length by omega,List.take_length]; rfl
     have htrim:s.length≤3→L.trimO ((s.take (s.length:Int).toNat).drop (1:Int).toNat) [48,49,50,51,52,53,54,55,56,57]=some (L.trimDig (s.drop 1),()):=fun h=>by
      rw [htake]
      unfold L.trimO
      rw [if_pos ⟨rfl,by simp; omega⟩]
     have hT:decide (L.trimDig (s.drop 1)=[])=(s.drop 1).all isD:=by
      rw [Bool.eq_iff_iff,decide_eq_true_eq,trim_nil]
     unfold regLike
     by_cases hR:s.getD 0 0=82
     ·rw [if_pos hR,decide_eq_true hR]
      by_cases h2:s.length=2
      ·rw [if_neg (by omega),if_pos (by omega),htrim (by omega),Option.bind_some,decide_eq_true h2]
       dsimp only
       rw [hT]; simp
      ·rw [if_pos (by omega),decide_eq_false h2]
       by_cases h3:s.length=3
       ·rw [if_pos (by omega),if_pos (by omega),htrim (by omega),Option.bind_some,decide_eq_true h3]
        dsimp only
        rw [hT]; simp
       ·rw [if_neg (by omega),decide_eq_false h3]; simp
     ·rw [if_neg hR,decide_eq_false hR]; simp
    ·rw [if_neg hw,Bool.eq_false_iff.2 hw]; simp
  ·rw [if_pos (by omega)]
   unfold nameOk
   rw [decide_eq_false h12]; simp
end Rv
namespace Rv
open Go
end Rv
namespace Rv
open Go
end Rv
namespace Rv
open Go
theorem nt_rows:∀ e∈L.nameTbl,L.mnemR e.2.1.1 e.2.1.2.1 e.2.1.2.2=e.2.2∧L.ofR e.2.2=(e.2.1.1,e.2.1.2.1,e.2.1.2.2,true,())∧e.2.2≠[]:=by decide +kernel
theorem nt_range:∀ e∈L.nameTbl,1≤e.2.1.1∧e.2.1.1≤10∧0≤e.2.1.2.1∧e.2.1.2.1≤15:=by decide +kernel
theorem mnem_mem {k o:Int} {u:Bool} (h:L.mnemR k o u≠[]):∃ e∈L.nameTbl,e.2.1=(k,o,u)∧e.2.2=L.mnemR k o u:=by
 unfold L.mnemR at h ⊢
 cases hf:L.nameTbl.find? fun e=>e.2.1 == (k,o,u) with
 | none=>rw [hf] at h; exact absurd rfl h
 | some e=>
  have h1:=List.mem_of_find?_eq_some hf
  have h2:e.2.1=(k,o,u):=by simpa using List.find?_some hf
  exact ⟨e,h1,h2,rfl⟩
theorem mnem_of {k o:Int} {u:Bool} (h:L.mnemR k o u≠[]):L.ofR (L.mnemR k o u)=(k,o,u,true,())∧1≤k∧k≤10∧0≤o∧o≤15:=by
 obtain ⟨e,he,hk,hs⟩:=mnem_mem h
 obtain ⟨h1,h2,h3⟩:=nt_rows e he
 have h4:=nt_range e he
 rw [hk] at h2 h4
 rw [← hs]
 exact ⟨h2,h4⟩
theorem mnemO_eq {k o:Int} (u:Bool) (hk:-9223372036854775808≤k∧k≤9223372036854775807) (ho:-9223372036854775808≤o∧o≤9223372036854775807):L.mnemO k o u=some (L.mnemR k o u,()):=by
 unfold L.mnemO
 rw [if_pos ⟨hk.1,hk.2,ho.1,ho.2⟩]
theorem ofR_none {s:Str} (h:∀ k o u,L.mnemR k o u=s→s=[]):L.ofR s=(0,0,false,false,()):=by
 unfold L.ofR
 cases hf:L.nameTbl.find? fun e=>e.2.2 == s with
 | none=>rfl
 | some e=>
  have h1:=List.mem_of_find?_eq_some hf
  have h2:e.2.2=s:=by simpa using List.find?_some hf
  obtain ⟨h3,_,h4⟩:=nt_rows e h1
  exact absurd (h2 ▸ h _ _ _ (h3.trans h2)) h4
end Rv
namespace Rv
open Go
set_option maxRecDepth 100000
def okE (r:Option (Int×Option Int×Unit)):Prop:=∃ v e,r=some (v,e,())∧(e=none∨e=some 1∨e=some 2)
theorem okE_none {v:Int}:okE (some (v,none,())):=⟨_,_,rfl,.inl rfl⟩
theorem okE_one {v:Int}:okE (some (v,some 1,())):=⟨_,_,rfl,.inr (.inl rfl)⟩
theorem okE_two {v:Int}:okE (some (v,some 2,())):=⟨_,_,rfl,.inr (.inr rfl)⟩
theorem lower_some (c:Int):Zar.g c=some (bitsI .or .u8 c 32,()):=rfl
theorem pa_loop (s09:Str) (c mv:Int) (l:List Int) (hl:l.length≤1000000) (n:Nat):∀ (m i:Nat),i≤l.length→l.length - i < m→∀ v,okE (Zaa.l36 n m 10 false s09 c mv false v l (l.length:Int) (i:Int)):=by
 intro m
 induction m with
 | zero=>intro i _ h; omega
 | succ m ih=>
  intro i hi hm v
  unfold Zaa.l36
  by_cases hlt:i < l.length
  ·rw [if_pos (by simp; omega),if_pos (by omega)]
   have w1:IntKind.i64.wrap ((i:Int)+1)=((i+1:Nat):Int):=by rw [w64 (by omega)]; omega
   have h46:∀ d,okE (Zaa.j46 n (Zaa.l36 n m) 10 false s09 c mv false v d l (l.length:Int) (i:Int)):=by
    intro d
    unfold Zaa.j46
    split
    ·exact okE_two
    ·split
     ·exact okE_one
     ·split
      ·split
       ·exact okE_one
       ·unfold Zaa.j55
        rw [w1]
        exact ih (i+1) (by omega) (by omega) _
      ·exact okE_one
   simp only [lower_some,Option.bind_some,Bool.false_eq_true,if_false]
   generalize hb:l.getD (i:Int).toNat 0=b
   by_cases e1:b=95
   ·rw [if_pos (by simp [e1])]
    split
    ·split
     ·exact h46 _
     ·split
      ·split
       ·exact h46 _
       ·exact okE_two
      ·exact okE_two
    ·split
     ·split
      ·exact h46 _
      ·exact okE_two
     ·exact okE_two
   ·rw [if_neg (by simp [e1])]
    split
    ·split
     ·exact h46 _
     ·split
      ·split
       ·exact h46 _
       ·exact okE_two
      ·exact okE_two
    ·split
     ·split
      ·exact h46 _
      ·exact okE_two
     ·exact okE_two
  ·rw [if_neg (by simp; omega)]
   simp only [Bool.false_eq_true,if_false]
   exact okE_none
theorem pu_ok (s:Str) (hs:s.length≤1000000):okE (Zaa.g s 10 0):=by
 unfold Zaa.g Zaa.f
 by_cases h0:s=[]
 ·rw [if_pos (by simp [h0])]; exact okE_two
 ·rw [if_neg (by simp [h0]),if_pos (by decide),if_pos (by decide)]
  unfold Zaa.j21
  rw [if_pos (by decide)]
  unfold Zaa.j25
  rw [if_pos (by decide)]
  unfold Zaa.j32
  rw [if_neg (by decide)]
  have hd:decide ((10:Int)=0)=false:=by decide
  rw [hd]
  have hz:(0:Int)=((0:Nat):Int):=rfl
  have:=pa_loop s 1844674407370955162 (IntKind.u64.wrap ((IntKind.u64.wrap ((1:Int) * 2 ^ (min (IntKind.u64.wrap 64).toNat IntKind.u64.bits))) - (1:Int))) (s.map fun b=>(b.toNat:Int)) (by simpa using hs) (1000+s.length+(10:Int).toNat+(0:Int).toNat) (1000+s.length+(10:Int).toNat+(0:Int).toNat) 0 (by simp) (by simp; omega) 0
  exact this
theorem pi21 (n:Nat) (g:Bool) (v:Int):okE (Zap.j21 n g v):=by
 unfold Zap.j21
 split <;> exact okE_none
theorem pi19 (n:Nat) (g:Bool) (v c:Int):okE (Zap.j19 n g v c):=by
 unfold Zap.j19
 split
 ·split
  ·exact okE_one
  ·exact pi21 _ _ _
 ·exact pi21 _ _ _
theorem pi16 (n:Nat) (g:Bool) (v:Int):okE (Zap.j16 n 64 g v):=by
 unfold Zap.j16
 have h:¬ IntKind.u64.wrap (IntKind.i64.wrap (64 - 1)) < 0:=by rw [w64 (by omega),w64u (by omega)]; omega
 rw [if_neg h]
 generalize IntKind.u64.wrap ((1:Int) * 2 ^ (min (IntKind.u64.wrap (IntKind.i64.wrap (64 - 1))).toNat IntKind.u64.bits))=c
 split
 ·split
  ·exact okE_one
  ·exact pi19 _ _ _ _
 ·exact pi19 _ _ _ _
theorem pi14 (n:Nat) (g:Bool) (v:Int):okE (Zap.j14 n 0 g v):=by
 unfold Zap.j14
 rw [if_pos (by decide)]
 exact pi16 _ _ _
theorem pi_ok (s:Str) (hs:s.length≤1000000):okE (Zap.g s 10 0):=by
 unfold Zap.g Zap.f
 generalize 1000+s.length+(10:Int).toNat+(0:Int).toNat=n
 have h10:∀ (t:Str) g,t.length≤1000000→okE (Zap.j10 n t 10 0 g):=fun t g ht=>by
  unfold Zap.j10
  obtain ⟨v,e,he,h⟩:=pu_ok t ht
  rw [he,Option.bind_some]
  dsimp only
  rcases h with rfl | rfl | rfl
  ·rw [if_neg (by decide)]; exact pi14 _ _ _
  ·rw [if_pos (by decide),if_neg (by simp)]; exact pi14 _ _ _
  ·rw [if_pos (by decide),if_pos (by simp)]; exact okE_two
 by_cases h0:s=[]
 ·rw [if_pos (by simp [h0])]; exact okE_two
 ·rw [if_neg (by simp [h0])]
  have hlen:0 < s.length:=List.length_pos_iff.2 h0
  have ht:((s.take ((s.length:Int)).toNat).drop ((1:Int)).toNat).length≤1000000:=by simp; omega
  rw [if_pos (by omega)]
  split
  ·rw [if_pos (by omega)]; exact h10 _ _ ht
  ·split
   ·rw [if_pos (by omega)]; exact h10 _ _ ht
   ·exact h10 _ _ hs
theorem at_loop (s05:Str) (h5:s05≠[]) (l:List Int) (hl:l.length≤1000000) (n:Nat):∀ (m i:Nat),i≤l.length→l.length - i < m→∀ v,okE (Zat.l10 n m s05 v l (l.length:Int) (i:Int)):=by
 intro m
 induction m with
 | zero=>intro i _ h; omega
 | succ m ih=>
  intro i hi hm v
  unfold Zat.l10
  by_cases hlt:i < l.length
  ·rw [if_pos (by simp; omega),if_pos (by omega)]
   have w1:IntKind.i64.wrap ((i:Int)+1)=((i+1:Nat):Int):=by rw [w64 (by omega)]; omega
   split
   ·exact okE_two
   ·rw [w1]
    exact ih (i+1) (by omega) (by omega) _
  ·rw [if_neg (by simp; omega)]
   have hlen:0 < s05.length:=List.length_pos_iff.2 h5
   rw [if_pos (by omega)]
   split <;> exact okE_none
theorem ia_ok (s:Str) (hs:s.length≤1000000):okE (Zat.g s):=by
 unfold Zat.g Zat.f
 obtain ⟨n,hn⟩:∃ n,1000+s.length=n:=⟨_,rfl⟩
 rw [hn]
 have h8:∀ t:Str,t.length≤s.length→s≠[]→okE (Zat.j8 n t s):=fun t ht h0=>by
  unfold Zat.j8
  have:=at_loop s h0 (t.map fun b=>(b.toNat:Int)) (by simp; omega) n n 0 (by simp) (by simp; omega) 0
  exact this
 have h20:okE (Zat.j20 n s):=by
  unfold Zat.j20
  obtain ⟨v,e,he,h⟩:=pi_ok s hs
  rw [he,Option.bind_some]
  exact ⟨v,e,rfl,h⟩
 by_cases h0:s=[]
 ·rw [if_neg (by simp [h0])]; exact h20
 ·have hlen:0 < s.length:=List.length_pos_iff.2 h0
  have ht:((s.take ((s.length:Int)).toNat).drop ((1:Int)).toNat).length≤s.length:=by simp
  have h6:okE (Zat.j6 n ((s.take ((s.length:Int)).toNat).drop ((1:Int)).toNat) s):=by
   unfold Zat.j6
   split
   ·exact okE_two
   ·exact h8 _ ht h0
  rw [if_pos (by simp; omega)]
  split
  ·rw [if_pos (by omega)]
   split
   ·rw [if_pos (by omega)]
    split
    ·rw [if_pos (by omega)]; exact h6
    ·exact h8 _ (Nat.le_refl _) h0
   ·rw [if_pos (by omega)]; exact h6
  ·exact h20
theorem atoi_some (s:Str) (hs:s.length≤1000000):∃ v b,Zdq.g s=some (v,b,()):=by
 unfold Zdq.g Zdq.f
 obtain ⟨v,e,he,h⟩:=ia_ok s hs
 rw [he,Option.bind_some]
 dsimp only
 rcases h with rfl | rfl | rfl
 ·exact ⟨_,_,rfl⟩
 ·have:L.toErrorO ([65,116,111,105]:Str) s 0 0 (some 1)=some (false,()):=by unfold L.toErrorO; rw [if_pos ⟨by omega,Or.inl rfl⟩]
  rw [if_pos (by decide),this]
  exact ⟨_,_,rfl⟩
 ·have:L.toErrorO ([65,116,111,105]:Str) s 0 0 (some 2)=some (false,()):=by unfold L.toErrorO; rw [if_pos ⟨by omega,Or.inr rfl⟩]
  rw [if_pos (by decide),this]
  exact ⟨_,_,rfl⟩
end Rv
namespace Rv
open Go
def regN (k:Nat):Str:=if k < 10 then [82,UInt8.ofNat (48+k)] else [82,49,UInt8.ofNat (38+k)]
def regOf (s:Str):Int×Bool:=match (List.range 16).find? (fun k=>regN k == s) with | some k=>((k:Int),true) | none=>(0,false)
theorem reg_facts:((List.range 16).all fun k=>decide (Zaz.g (k:Int)=some (regN k,())) && decide (Zci.g (regN k)=some ((k:Int),true,())))=true:=by decide +kernel
theorem reg_fact (k:Nat) (hk:k < 16):Zaz.g (k:Int)=some (regN k,())∧Zci.g (regN k)=some ((k:Int),true,()):=by
 have:=List.all_eq_true.1 reg_facts k (List.mem_range.2 hk)
 simpa [and_assoc] using this
theorem regName_out {v:Int} (h:v < 0∨16≤v):Zaz.g v=some ([],()):=by
 unfold Zaz.g Zaz.f
 by_cases h0:v < 0
 ·rw [if_neg (by simp; omega)]
 ·rw [if_pos (by simp; omega),if_pos (by simp; omega)]
theorem regName_cases (v:Int):∃ s,Zaz.g v=some (s,())∧(s≠[]→∃ k:Nat,k < 16∧v=(k:Int)∧s=regN k):=by
 by_cases h:v < 0∨16≤v
 ·exact ⟨[],regName_out h,fun e=>absurd rfl e⟩
 ·obtain ⟨k,rfl⟩:∃ k:Nat,v=(k:Int):=⟨v.toNat,by omega⟩
  have hk:k < 16:=by omega
  exact ⟨regN k,(reg_fact k hk).1,fun _=>⟨k,hk,rfl,rfl⟩⟩
theorem cut_nil {s p:Str} (h:L.cutIs s p=true) (hp:p≠[]):s≠[]:=by
 rintro rfl
 cases p with
 | nil=>exact hp rfl
 | cons a l=>simp [L.cutIs,Lib.hasPrefix] at h
theorem regOf_some {s:Str} {k:Nat} (h:(List.range 16).find? (fun k=>regN k == s)=some k):k < 16∧regN k=s:=by
 have h1:=List.mem_of_find?_eq_some h
 have h2:=List.find?_some h
 exact ⟨List.mem_range.1 h1,by simpa using h2⟩
theorem reg_eq (s:Str) (hs:s.length≤1000000):Zci.g s=some ((regOf s).1,(regOf s).2,()):=by
 unfold regOf
 cases hf:(List.range 16).find? (fun k=>regN k == s) with
 | some k=>
  obtain ⟨h1,h2⟩:=regOf_some hf
  have:=(reg_fact k h1).2
  rw [h2] at this
  exact this
 | none=>
  have hno:∀ k,k < 16→regN k≠s:=fun k hk e=>by
   have:=List.find?_eq_none.1 hf k (List.mem_range.2 hk)
   simp [e] at this
  unfold Zci.g Zci.f
  obtain ⟨v,b,hvb⟩:=atoi_some (L.cutRest s [82]) (by
   unfold L.cutRest Lib.trimPrefix
   split
   ·rw [List.length_drop]; omega
   ·omega)
  rw [hvb,Option.bind_some]
  dsimp only
  cases hc:L.cutIs s [82] with
  | false=>rfl
  | true=>
   rw [if_pos (by decide)]
   cases b with
   | false=>rfl
   | true=>
    rw [if_pos (by decide)]
    obtain ⟨t,ht,hk⟩:=regName_cases v
    rw [ht,Option.bind_some]
    dsimp only
    by_cases e:t=s
    ·have hne:=cut_nil hc (by decide)
     obtain ⟨k,hk1,_,hk2⟩:=hk (by rw [e]; exact hne)
     exact absurd (hk2.symm.trans e) (hno k hk1)
    ·rw [if_pos (by simp [e])]
end Rv
namespace Rv
open Go
abbrev Item:=Int×Int×Str×Unit
def needsR (x:Item):Int×Bool:=
 if x.1=1 then (0,decide (x.2.2.1=[]))
 else if x.1=2 then (0,decide (x.2.1=0) && labelOk x.2.2.1)
 else if x.1=3 then (1,decide (x.2.1=0) && decide (x.2.2.1=[]))
 else if x.1=4∨x.1=5∨x.1=6 then (2,decide (x.2.1=0) && decide (x.2.2.1=[]))
 else (0,false)
theorem needs_eq (a b:Int) (c:Str):Zcd.g a b c=some ((needsR (a,b,c,())).1,(needsR (a,b,c,())).2,()):=by
 unfold Zcd.g Zcd.f
 simp only [Zcd.j2,dt,label_eq,Option.bind_some]
 unfold needsR
 dsimp only
 rcases propTF (b=0) with hb | hb
 all_goals
  by_cases h1:a=1
  ·subst h1; simp only [hb,if_true,if_false,decide_true,decide_false]
  by_cases h2:a=2
  ·subst h2; simp only [hb,if_true,if_false,decide_true,decide_false,Bool.true_and,Bool.false_and,show ¬ ((2:Int)=1) by decide]
  by_cases h3:a=3
  ·subst h3; simp only [hb,if_true,if_false,decide_true,decide_false,Bool.true_and,Bool.false_and,show ¬ ((3:Int)=1) by decide,show ¬ ((3:Int)=2) by decide]
  by_cases h4:a=4
  ·subst h4; simp only [hb,if_true,if_false,decide_true,decide_false,Bool.true_and,Bool.false_and,true_or,show ¬ ((4:Int)=1) by decide,show ¬ ((4:Int)=2) by decide,show ¬ ((4:Int)=3) by decide]
  by_cases h5:a=5
  ·subst h5; simp only [hb,if_true,if_false,decide_true,decide_false,Bool.true_and,Bool.false_and,true_or,or_true,show ¬ ((5:Int)=1) by decide,show ¬ ((5:Int)=2) by decide,show ¬ ((5:Int)=3) by decide,show ¬ ((5:Int)=4) by decide]
  by_cases h6:a=6
  ·subst h6; simp only [hb,if_true,if_false,decide_true,decide_false,Bool.true_and,Bool.false_and,true_or,or_true,show ¬ ((6:Int)=1) by decide,show ¬ ((6:Int)=2) by decide,show ¬ ((6:Int)=3) by decide,show ¬ ((6:Int)=4) by decide,show ¬ ((6:Int)=5) by decide]
  simp only [hb,h1,h2,h3,h4,h5,h6,if_true,if_false,or_self]
def wellR:Int→List Item→Bool
 | t,[]=>decide (t=1)
 | t,x::r=>(needsR x).2 && (!decide (t < (needsR x).1) && wellR (t+(1 - (needsR x).1)) r)
def well (e:List Item):Bool:=wellR 0 e && decide (e.length≤64)
theorem needs_range (x:Item):0≤(needsR x).1∧(needsR x).1≤2:=by
 unfold needsR
 split
 ·simp
 ·split
  ·simp
  ·split
   ·simp
   ·split <;> simp
theorem well_loop (e:List Item) (he:e.length≤4611686018427387904) (n:Nat):∀ (m i:Nat) (t:Int),i≤e.length→e.length - i < m→0≤t→t≤i →
  Zbp.l3 n m e t e (e.length:Int) (i:Int)=some (wellR t (e.drop i) && decide (e.length≤64),()):=by
 intro m
 induction m with
 | zero=>intro i t _ h; omega
 | succ m ih=>
  intro i t hi hm h0 ht
  by_cases h1:i < e.length
  ·have hx:e.drop i=e.getD i ((0:Int),((0:Int),(([]:Str),())))::e.drop (i+1):=by
    rw [List.drop_eq_getElem_cons h1,List.getD_eq_getElem?_getD,List.getElem?_eq_getElem h1]; rfl
   rw [hx]
   simp only [Zbp.l3,dt,df,needs_eq,Option.bind_some]
   rw [if_pos (by omega),if_pos (by omega),Int.toNat_natCast]
   generalize e.getD i ((0:Int),((0:Int),(([]:Str),())))=x
   obtain ⟨a,b,c,u⟩:=x
   cases u
   have hr:=needs_range (a,b,c,())
   simp only [wellR]
   generalize needsR (a,b,c,())=y at *
   obtain ⟨k,ok⟩:=y
   simp only at hr ⊢
   cases ok
   ·rfl
   ·rw [if_pos (show (!true)=false from rfl)]
    by_cases h2:t < k
    ·rw [if_pos h2]; simp [h2]
    ·rw [if_neg h2,w64 (x:=1 - k) (by omega),w64 (x:=t+(1 - k)) (by omega),w64 (x:=(i:Int)+1) (by omega),show (i:Int)+1=((i+1:Nat):Int) by omega]
     rw [ih (i+1) (t+(1 - k)) (by omega) (by omega) (by omega) (by omega)]
     simp [h2]
  ·have hi':i=e.length:=by omega
   subst hi'
   simp only [Zbp.l3,dt]
   rw [if_neg (by omega),List.drop_length]
   simp only [wellR]
   by_cases h3:t=1
   ·rw [if_pos h3]
    simp [h3]
    omega
   ·rw [if_neg h3]; simp [h3]
theorem well_eq (e:List Item) (he:e.length≤4611686018427387904):Zbp.g e=some (well e,()):=by
 unfold Zbp.g Zbp.f
 exact well_loop e he _ _ 0 0 (by omega) (by omega) (by omega) (by omega)
end Rv
namespace Rv
open Go
def enough:Int→List Item→Option Int
 | t,[]=>some t
 | t,x::r=>if (needsR x).2=true∧¬ t < (needsR x).1 then enough (t+(1 - (needsR x).1)) r else none
theorem wellR_enough:∀ (e:List Item) (t:Int),(wellR t e=true)=(enough t e=some 1)
 | [],t=>by simp [wellR,enough]
 | x::r,t=>by
  simp only [wellR,enough,Bool.and_eq_true,Bool.not_eq_true',decide_eq_false_iff_not]
  by_cases h:(needsR x).2=true∧¬ t < (needsR x).1
  ·rw [if_pos h,← wellR_enough r]
   simp [h.1,h.2]
  ·rw [if_neg h]
   apply propext
   constructor
   ·intro h'; exact absurd ⟨h'.1,h'.2.1⟩ h
   ·intro h'; cases h'
theorem enough_app:∀ (a b:List Item) (t:Int),enough t (a++b)=(enough t a).bind fun k=>enough k b
 | [],b,t=>rfl
 | x::a,b,t=>by
  simp only [List.cons_append,enough]
  split
  ·exact enough_app a b _
  ·rfl
def wellL (e:List Item):Prop:=enough 0 e=some 1
theorem enough_shift:∀ (e:List Item) (t k j:Int),0≤j→enough t e=some k→enough (t+j) e=some (k+j)
 | [],t,k,j,_,h=>by
  simp only [enough,Option.some.injEq] at h ⊢
  omega
 | x::e,t,k,j,hj,h=>by
  simp only [enough] at h ⊢
  split at h
  ·rename_i hc
   rw [if_pos ⟨hc.1,by omega⟩,show t+j+(1 - (needsR x).1)=(t+(1 - (needsR x).1))+j by omega]
   exact enough_shift e _ k j hj h
  ·cases h
theorem well_of {e:List Item} (h:wellL e) (hl:e.length≤64):well e=true:=by
 unfold well
 rw [Bool.and_eq_true,decide_eq_true_eq,wellR_enough]
 exact ⟨h,hl⟩
theorem well_two {a b:List Item} (ha:wellL a) (hb:wellL b) (x:Item) (hx:needsR x=(2,true)):wellL (a++b++[x]):=by
 unfold wellL at *
 have h1:enough 1 b=some 2:=enough_shift b 0 1 1 (by omega) hb
 rw [enough_app,enough_app,ha,Option.bind_some,h1,Option.bind_some]
 simp [enough,hx]
theorem well_one {a:List Item} (ha:wellL a) (x:Item) (hx:needsR x=(1,true)):wellL (a++[x]):=by
 unfold wellL at *
 rw [enough_app,ha,Option.bind_some]
 simp [enough,hx]
end Rv
namespace Rv
open Go
def goodItem (x:Item):Prop:=0≤x.2.1∧x.2.1≤4294967295∧(needsR x).2=true
end Rv
namespace Rv
open Go
end Rv
namespace Rv
open Go
end Rv
namespace Rv
open Go
abbrev TokL:=Int×Int×Str×Int×Unit
end Rv
namespace Rv
open Go
inductive Opr
 | add | sub | mul
def Opr.kind:Opr→Int
 | .add=>4 | .sub=>5 | .mul=>6
def Opr.byte:Opr→UInt8
 | .add=>43 | .sub=>45 | .mul=>42
def Opr.tight:Opr→Nat
 | .mul=>1 | _=>0
inductive Tr
 | num (n:Int) | nam (s:Str) | neg (x:Tr) | bin (o:Opr) (a b:Tr) | br (x:Tr)
namespace Tr
def post:Tr→List Item
 | .num n=>[(1,n,[],())]
 | .nam s=>[(2,0,s,())]
 | .neg x=>x.post++[(3,0,[],())]
 | .bin o a b=>a.post++b.post++[(o.kind,0,[],())]
 | .br x=>x.post
def ok:Tr→Prop
 | .num n=>0≤n∧n≤4294967295
 | .nam s=>labelOk s=true
 | .neg x=>x.ok
 | .bin _ a b=>a.ok∧b.ok
 | .br x=>x.ok
def plain:Tr→Prop
 | .neg x=>x.plain
 | .bin _ a b=>a.plain∧b.plain
 | .br _=>False
 | _=>True
def tight:Tr→Nat
 | .bin o _ _=>o.tight
 | _=>2
end Tr
abbrev Bt:=Int×Str×Int
def bare (t:TokL):Bt:=(t.1,t.2.2.1,t.2.2.2.1)
def tLp:Bt:=(3,[40],0)
def tRp:Bt:=(3,[41],0)
def tOp (o:Opr):Bt:=(3,[o.byte],0)
def tNeg:Bt:=(3,[45],0)
def brk (b:Bool) (l:List Bt):List Bt:=if b then tLp::(l++[tRp]) else l
namespace Tr
def toks:Tr→List Bt
 | .num n=>[(2,Lib.itoa n,n)]
 | .nam s=>[(1,s,0)]
 | .neg x=>tNeg::brk (decide (x.tight < 2)) x.toks
 | .bin o a b=>brk (decide (a.tight < o.tight)) a.toks++tOp o::brk (decide (b.tight < o.tight+1)) b.toks
 | .br x=>tLp::(x.toks++[tRp])
theorem post_pos:∀ x:Tr,1≤x.post.length
 | .num _=>by simp [post]
 | .nam _=>by simp [post]
 | .neg _=>by simp [post]
 | .bin _ _ _=>by simp [post]; omega
 | .br x=>post_pos x
def cnt (l:List Bt):Nat:=l.countP fun b=>decide (b.2.1=[45]) || decide (b.2.1=[40])
end Tr
theorem item_cases {x:Item} (h:(needsR x).2=true):(∃ n,x=(1,n,[],()))∨(∃ s,x=(2,0,s,())∧labelOk s=true)∨x=(3,0,[],())∨∃ o:Opr,x=(o.kind,0,[],()):=by
 obtain ⟨a,b,c,u⟩:=x
 cases u
 unfold needsR at h
 dsimp only at h
 split at h
 ·rename_i h1
  simp only [decide_eq_true_eq] at h
  exact .inl ⟨b,by rw [h1,h]⟩
 ·split at h
  ·rename_i h2
   simp only [Bool.and_eq_true,decide_eq_true_eq] at h
   exact .inr (.inl ⟨c,by rw [h2,h.1],h.2⟩)
  ·split at h
   ·rename_i h3
    simp only [Bool.and_eq_true,decide_eq_true_eq] at h
    exact .inr (.inr (.inl (by rw [h3,h.1,h.2])))
   ·split at h
    ·rename_i h4
     simp only [Bool.and_eq_true,decide_eq_true_eq] at h
     obtain ⟨rfl,rfl⟩:=h
     rcases h4 with rfl | rfl | rfl
     ·exact .inr (.inr (.inr ⟨.add,rfl⟩))
     ·exact .inr (.inr (.inr ⟨.sub,rfl⟩))
     ·exact .inr (.inr (.inr ⟨.mul,rfl⟩))
    ·cases h
theorem snocT (l:List Tr):l=[]∨∃ a x,l=a++[x]:=by
 rcases List.eq_nil_or_concat l with h | ⟨a,x,h⟩
 ·exact .inl h
 ·exact .inr ⟨a,x,by simpa using h⟩
def posts (st:List Tr):List Item:=(st.map Tr.post).flatten
theorem posts_app (a b:List Tr):posts (a++b)=posts a++posts b:=by simp [posts]
theorem posts_one (x:Tr):posts [x]=x.post:=by simp [posts]
theorem trees_of:∀ (e:List Item) (st:List Tr) (k:Int),enough (st.length:Int) e=some k→(∀ x∈e,goodItem x)→(∀ x∈st,x.ok∧x.plain) →
  ∃ st':List Tr,(st'.length:Int)=k∧posts st++e=posts st'∧∀ x∈st',x.ok∧x.plain
 | [],st,k,h,_,ho=>by
  simp only [enough,Option.some.injEq] at h
  exact ⟨st,h,by simp,ho⟩
 | x::e,st,k,h,hg,ho=>by
  have hgx:=hg x (by simp)
  unfold enough at h
  split at h
  case isFalse=>cases h
  rename_i hc
  have push:∀ (l:List Tr) (t:Tr),(∀ y∈l,y.ok∧y.plain)→t.ok∧t.plain→((l.length:Int)+1=st.length+(1 - (needsR x).1))→posts st++[x]=posts l++t.post→∃ st':List Tr,(st'.length:Int)=k∧posts st++x::e=posts st'∧∀ x∈st',x.ok∧x.plain:=by
   intro l t hl ht hlen hp
   obtain ⟨st',h1,h2,h3⟩:=trees_of e (l++[t]) k (by rw [show ((l++[t]).length:Int)=st.length+(1 - (needsR x).1) by rw [← hlen]; simp]; exact h) (fun y hy=>hg y (by simp [hy])) (fun y hy=>by
    rcases List.mem_append.1 hy with hy | hy
    ·exact hl y hy
    ·rw [List.mem_singleton] at hy; subst hy; exact ht)
   refine ⟨st',h1,?_,h3⟩
   rw [← h2,posts_app,posts_one,← hp]; simp
  rcases item_cases hc.1 with ⟨n,rfl⟩ | ⟨s,rfl,hs⟩ | rfl | ⟨o,rfl⟩
  ·exact push st (.num n) ho ⟨⟨hgx.1,hgx.2.1⟩,trivial⟩ (by rw [show (needsR (1,n,[],())).1=0 from rfl]; omega) rfl
  ·exact push st (.nam s) ho ⟨hs,trivial⟩ (by rw [show (needsR (2,0,s,())).1=0 from rfl]; omega) rfl
  ·have e1:(needsR (3,0,[],())).1=1:=rfl
   rcases snocT st with rfl | ⟨l,v,rfl⟩
   ·exact absurd hc.2 (by rw [e1]; simp)
   ·have hv:=ho v (by simp)
    exact push l (.neg v) (fun y hy=>ho y (by simp [hy])) hv (by rw [e1]; simp <;> omega) (by rw [posts_app,posts_one]; simp [Tr.post])
  ·have e2:(needsR (o.kind,0,[],())).1=2:=by cases o <;> rfl
   rcases snocT st with rfl | ⟨l0,v,rfl⟩
   ·exact absurd hc.2 (by rw [e2]; simp)
   ·rcases snocT l0 with rfl | ⟨l,w,rfl⟩
    ·exact absurd hc.2 (by rw [e2]; simp)
    ·exact push l (.bin o w v) (fun y hy=>ho y (by simp [hy])) ⟨⟨(ho w (by simp)).1,(ho v (by simp)).1⟩,(ho w (by simp)).2,(ho v (by simp)).2⟩ (by rw [e2]; simp <;> omega) (by rw [posts_app,posts_app,posts_one,posts_one]; simp [Tr.post])
theorem tree_of {e:List Item} (h:wellL e) (hg:∀ x∈e,goodItem x):∃ t:Tr,t.post=e∧t.ok∧t.plain:=by
 obtain ⟨st,h1,h2,h3⟩:=trees_of e [] 1 h hg (fun x hx=>by cases hx)
 match st,h1,h2,h3 with
 | [t],_,h2,h3=>exact ⟨t,by rw [posts_one] at h2; exact h2.symm,h3 t (by simp)⟩
 | [],h1,_,_=>simp at h1
 | _::_::_,h1,_,_=>simp at h1; omega
end Rv
namespace Rv
open Go
def dch (d:Nat):UInt8:=if d < 10 then UInt8.ofNat (48+d) else UInt8.ofNat (87+d)
theorem dch_tab:((List.range 16).all fun d=>decide (digOf (dch d)=some d) && isW (dch d) && (decide (10≤d) || isD (dch d)) && decide ((([48,49,50,51,52,53,54,55,56,57,97,98,99,100,101,102]:Str).take (d+1)).drop d=[dch d]))=true:=by decide +kernel
theorem dch_facts {d:Nat} (h:d < 16):digOf (dch d)=some d∧isW (dch d)=true∧(d < 10→isD (dch d)=true)∧(([48,49,50,51,52,53,54,55,56,57,97,98,99,100,101,102]:Str).take (d+1)).drop d=[dch d]:=by
 have:=List.all_eq_true.1 dch_tab d (by simpa using h)
 simp only [Bool.and_eq_true,decide_eq_true_eq,Bool.or_eq_true] at this
 obtain ⟨⟨⟨h1,h2⟩,h3⟩,h4⟩:=this
 exact ⟨h1,h2,fun h=>h3.resolve_left (by omega),h4⟩
end Rv
namespace Rv
open Go
def brkT (b:Bool) (s:Str):Str:=if b then 40::(s++[41]) else s
namespace Tr
def txt:Tr→Str
 | .num n=>Lib.itoa n
 | .nam s=>s
 | .neg x=>45::brkT (decide (x.tight < 2)) x.txt
 | .bin o a b=>brkT (decide (a.tight < o.tight)) a.txt++([32,o.byte,32]++brkT (decide (b.tight < o.tight+1)) b.txt)
 | .br x=>40::(x.txt++[41])
end Tr
theorem dec_all:∀ (n:Nat),(Lib.decDigits n).all isD=true∧Lib.decDigits n≠[]:=by
 intro n
 induction n using Nat.strongRecOn with
 | _ n ih=>
  rw [Lib.decDigits]
  have hd:∀ d,d < 10→isD (UInt8.ofNat (48+d))=true:=fun d h=>by
   have:=(dch_facts (show d < 16 by omega)).2.2.1 h
   unfold dch at this
   rwa [if_pos h] at this
  split
  ·rename_i h
   exact ⟨by rw [List.all_cons,hd n h]; rfl,by simp⟩
  ·rename_i h
   exact ⟨by rw [List.all_append,(ih (n / 10) (by omega)).1,List.all_cons,hd (n % 10) (by omega)]; rfl,by simp⟩
theorem dec_len:∀ (k n:Nat),n < 10 ^ (k+1)→(Lib.decDigits n).length≤k+1
 | 0,n,h=>by
  rw [Lib.decDigits,dif_pos (by simpa using h)]; simp
 | k+1,n,h=>by
  rw [Lib.decDigits]
  split
  ·simp
  ·have:=dec_len k (n / 10) (by rw [Nat.div_lt_iff_lt_mul (by omega),← Nat.pow_succ]; exact h)
   simp; omega
theorem brkT_len (b:Bool) (s:Str):(brkT b s).length≤s.length+2:=by unfold brkT; split <;> simp
theorem txt_len:∀ t:Tr,t.ok→t.plain→t.txt.length≤20 * t.post.length
 | .num n,h,_=>by
  obtain ⟨m,rfl⟩:∃ m:Nat,n=m:=⟨n.toNat,by have:=h.1; omega⟩
  have hi:Lib.itoa (m:Int)=Lib.decDigits m:=by unfold Lib.itoa; rw [if_neg (by omega)]; rfl
  have:=dec_len 9 m (by have h2:=h.2; omega)
  show (Lib.itoa (m:Int)).length≤20 * 1
  rw [hi]; omega
 | .nam s,h,_=>by
  have h:labelOk s=true:=h
  unfold labelOk at h
  simp only [Bool.and_eq_true,decide_eq_true_eq] at h
  have:=h.1.1.1.2
  show s.length≤20 * 1
  omega
 | .neg x,h,hp=>by
  have h1:=txt_len x h hp
  have h2:=brkT_len (decide (x.tight < 2)) x.txt
  simp [Tr.txt,Tr.post]; omega
 | .br x,_,hp=>hp.elim
 | .bin o a b,h,hp=>by
  have h1:=txt_len a h.1 hp.1
  have h2:=txt_len b h.2 hp.2
  have h3:=brkT_len (decide (a.tight < o.tight)) a.txt
  have h4:=brkT_len (decide (b.tight < o.tight+1)) b.txt
  simp [Tr.txt,Tr.post]; omega
end Rv
