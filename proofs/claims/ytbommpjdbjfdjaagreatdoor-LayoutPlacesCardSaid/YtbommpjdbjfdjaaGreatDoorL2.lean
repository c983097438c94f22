/- Texts put together. -/
import Derived.Test.YtbommpjdbjfdjaaGreatDoorL1
import Derived.Test.YtbommpjdbjfdjaaGreatDoorC6
import Derived.Test.YtbommpjdbjfdjaaGreatDoorC1
import Derived.IntWalk
set_option linter.all false
namespace Rv
open Go Go.Proofs
noncomputable section
set_option maxRecDepth 100000
set_option maxHeartbeats 2000000
variable {ad:LQ}
abbrev u0:Ty:=.pair (.int .i64) (.pair (.int .i64) (.pair .str (.pair (.int .u32) .nil)))
abbrev u1:Ty:=.pair (.int .i64) (.pair (.int .u32) (.pair .str .nil))
abbrev u2:Ty:=.pair .str (.pair (.pair (.int .i64) (.pair (.int .i64) (.pair (.int .i64) (.pair (.int .i64) (.pair (.int .i64) (.pair .bool (.pair (.sl (.pair (.int .i64) (.pair (.int .u32) (.pair .str .nil)))) (.pair .str .nil)))))))) .nil)
abbrev u3:Ty:=.pair .str (.pair (.int .i64) .nil)
abbrev u4:Ty:=.pair (.int .u32) (.pair (.int .i64) .nil)
abbrev u5:Ty:=.pair (.sl (.int .i64)) (.pair (.sl (.pair .str (.pair (.int .i64) .nil))) (.pair (.sl (.pair (.int .u32) (.pair (.int .i64) .nil))) (.pair (.int .i64) (.pair (.int .i64) .nil))))
abbrev u6:Ty:=.pair (.int .i64) (.pair (.int .i64) (.pair (.int .i64) (.pair (.int .i64) (.pair (.int .i64) (.pair .bool (.pair (.sl (.pair (.int .i64) (.pair (.int .u32) (.pair .str .nil)))) (.pair .str .nil)))))))
abbrev u7:Ty:=.pair (.int .u8) (.pair (.int .u8) (.pair (.int .u8) .nil))
abbrev u8:Ty:=.pair (.int .u8) (.pair (.int .u8) .nil)
abbrev u9:Ty:=.pair (.int .u32) (.pair (.int .u32) .nil)
abbrev u10:Ty:=.pair (.int .i64) (.pair (.int .i64) (.pair (.int .i64) (.pair (.int .i64) (.pair (.int .i64) (.pair (.int .i64) (.pair .bool .nil))))))
abbrev u11:Ty:=.pair .fn (.pair .fn .nil)
abbrev u12:Ty:=.pair (.sl (.pair (.int .i64) (.pair (.int .i64) (.pair .str (.pair (.int .u32) .nil))))) (.pair (.int .i64) (.pair (.int .i64) .nil))
abbrev u13:Ty:=.pair (.sl (.pair (.int .i64) (.pair (.int .i64) (.pair .str (.pair (.int .u32) .nil))))) (.pair (.int .i64) (.pair (.sl (.pair (.int .i64) (.pair (.int .u32) (.pair .str .nil)))) (.pair (.int .i64) .nil)))
abbrev c0:List CD:=[ki,ki,ki,ki,ki,.bool,.sl u1,.str]
abbrev c1:List CD:=[.sl u0,ki,.row 56 u1,ki]
abbrev c2:List CD:=[.str,ki,ki,ki,ki,ki,.bool,.sl u1,.str]
abbrev c3:List CD:=[.row 3 (.int .i64),.row 52 u3,.sl u4,ki,ki]
abbrev c4:List CD:=[ki,ki,ki,ki,ki,ki,.bool]
abbrev c5:List CD:=[.sl (.int .i64),.sl u3,.sl u4,ki,ki]
def types:List (TypeId×TI):=[
 tI 2 .i64 8,
 tI 3 .i64 8,
 tB 4 1,
 tI 5 .u8 1,
 tS 9 16,
 tL 22 38 u2,
 tL 24 3 (.int .i64),
 tL 25 52 u3,
 tL 26 45 u4,
 (28,⟨5,true,88,[.nilS,.nilS,.nilS,.int .i64 0,.int .i64 0],[(0,1,false),(1,1,false),(2,1,false),(3,1,false),(4,1,false)],none,some u5,none,false,false,false,none,none⟩),
 tI 29 .i64 8,
 tL 34 56 u1,
 (36,⟨8,true,88,[.int .i64 0,.int .i64 0,.int .i64 0,.int .i64 0,.int .i64 0,.bool false,.nilS,.str []],[(0,1,false),(1,1,false),(2,1,false),(3,1,false),(4,1,false),(5,1,false),(6,1,false),(7,1,false)],none,some u6,none,false,false,false,none,none⟩),
 (38,⟨9,true,104,[.str [],.int .i64 0,.int .i64 0,.int .i64 0,.int .i64 0,.int .i64 0,.bool false,.nilS,.str []],[(0,1,false),(1,8,true)],none,some u2,none,false,false,false,none,none⟩),
 tI 43 .u32 4,
 (45,⟨2,true,16,[.int .u32 0,.int .i64 0],[(0,1,false),(1,1,false)],none,some u4,none,false,false,false,some u4,none⟩),
 (48,⟨3,true,3,[.int .u8 0,.int .u8 0,.int .u8 0],[],none,some u7,none,false,false,false,none,some 3⟩),
 (50,⟨2,true,2,[.int .u8 0,.int .u8 0],[],none,some u8,none,false,false,false,none,some 2⟩),
 (52,⟨2,true,24,[.str [],.int .i64 0],[(0,1,false),(1,1,false)],none,some u3,none,false,false,false,some u3,none⟩),
 (54,⟨2,true,8,[.int .u32 0,.int .u32 0],[],none,some u9,none,false,false,false,none,some 2⟩),
 (56,⟨3,true,32,[.int .i64 0,.int .u32 0,.str []],[(0,1,false),(1,1,false),(2,1,false)],none,some u1,none,false,false,false,none,none⟩),
 (68,⟨7,true,56,[.int .i64 0,.int .i64 0,.int .i64 0,.int .i64 0,.int .i64 0,.int .i64 0,.bool false],[(0,1,false),(1,1,false),(2,1,false),(3,1,false),(4,1,false),(5,1,false),(6,1,false)],none,some u10,none,false,false,false,none,none⟩),
 tL 84 5 (.int .u8),
 (90,⟨1,false,8,[.raw .nilFunc],[],none,some .fn,none,false,false,false,none,none⟩),
 tL 93 90 .fn,
 tL 103 45 u4,
 tL 116 9 .str,
 tL 144 195 u0,
 tI 165 .u64 8,
 tL 171 176 u11,
 (173,⟨1,false,8,[.raw .nilFunc],[],none,some .fn,none,false,false,false,none,none⟩),
 (176,⟨2,true,16,[.raw .nilFunc,.raw .nilFunc],[(0,1,false),(1,1,false)],none,some u11,none,false,false,false,none,none⟩),
 (182,⟨1,false,16,[.raw .nilIface],[],none,none,none,false,true,false,none,none⟩),
 (195,⟨4,true,40,[.int .i64 0,.int .i64 0,.str [],.int .u32 0],[(0,1,false),(1,1,false),(2,1,false),(3,1,false)],none,some u0,none,false,false,false,none,none⟩),
 (218,⟨3,true,40,[.nilS,.int .i64 0,.int .i64 0],[(0,1,false),(1,1,false),(2,1,false)],none,some u12,none,false,false,false,none,none⟩),
 (229,⟨1,false,8,[.raw .nilFunc],[],none,some .fn,none,false,false,false,none,none⟩),
 tI 251 .u64 8,
 (268,⟨1,false,8,[.raw (.pointer none)],[],none,none,none,false,false,false,none,none⟩),
 (270,⟨4,true,64,[.nilS,.int .i64 0,.nilS,.int .i64 0],[(0,1,false),(1,1,false),(2,1,false),(3,1,false)],none,some u13,none,false,false,false,none,none⟩),
 tI 286 .i64 8]
theorem types_ok:(types.all fun p=>checkTI P p.1 p.2)=true:=by kernel_rfl
def internal_strconv_underscoreOK.T (ad:LQ):TF P (LW ad):=⟨259,[],internal_strconv_underscoreOK.sp,internal_strconv_underscoreOK.sat,internal_strconv_underscoreOK.enter⟩
def strconv_toError.T (ad:LQ):TF P (LW ad):=⟨240,[],strconv_toError.sp,strconv_toError.sat,strconv_toError.enter⟩
def strings_CutPrefix.T (ad:LQ):TF P (LW ad):=⟨207,[],strings_CutPrefix.sp,strings_CutPrefix.sat,strings_CutPrefix.enter⟩
def strings_Contains.T (ad:LQ):TF P (LW ad):=⟨208,[],strings_Contains.sp,strings_Contains.sat,strings_Contains.enter⟩
def strings_IndexByte.T (ad:LQ):TF P (LW ad):=⟨167,[],strings_IndexByte.sp,strings_IndexByte.sat,strings_IndexByte.enter⟩
def strings_Trim.T (ad:LQ):TF P (LW ad):=⟨138,[],strings_Trim.sp,strings_Trim.sat,strings_Trim.enter⟩
def strconv_Itoa.T (ad:LQ):TF P (LW ad):=⟨213,[],strconv_Itoa.sp,strconv_Itoa.sat,strconv_Itoa.enter⟩
def name_Of.T (ad:LQ):TF P (LW ad):=⟨169,[],name_Of.sp,name_Of.sat,name_Of.enter⟩
def stmt_operands.T (ad:LQ):TF P (LW ad):=⟨129,[],stmt_operands.sp,stmt_operands.sat,stmt_operands.enter⟩
def strings_Split.T (ad:LQ):TF P (LW ad):=⟨70,[],strings_Split.sp,strings_Split.sat,strings_Split.enter⟩
def mkF (ad:LQ):=@mkT P (LW ad) types mixed types_ok maps maps_ok
def mkFa (ad:LQ):=@mkTa P (LW ad) types mixed types_ok maps maps_ok
namespace Zby
def sp:Spec:=mkSp ⟨[(0,Sb)],[]⟩ ⟨[(0,SB)],[]⟩ g
noncomputable def T (ad:LQ):=mkF ad 163 [] sp [] t0 t0 t0 21 [] f (fun a=>1000+a.toNat) (by kernel_rfl)
end Zby
namespace Zcf
def sp:Spec:=mkSp ⟨[(0,Sb)],[]⟩ ⟨[(0,SB)],[]⟩ g
noncomputable def T (ad:LQ):=mkF ad 165 [] sp [] t0 t0 t0 9 [] f (fun a=>1000+a.toNat) (by kernel_rfl)
end Zcf
namespace Zay
def sp:Spec:=mkSp ⟨[(0,Ss)],[]⟩ ⟨[(0,Ss)],[]⟩ g
noncomputable def T (ad:LQ):=mkF ad 164 [] sp [Zby.T ad,Zcf.T ad] (fun n=>tj 3 ⟨[(0,Ss),(3,Si)],[]⟩ (fun ms=>j3 n (l2 n ms.head!)) <| tj 4 ⟨[(0,Ss),(3,Si)],[]⟩ (fun _=>j4 n) <| tn) (fun n=>tl 2 ⟨[(0,Ss),(3,Si)],[]⟩ (fun _=>l2 n) <| tn) t0 25 [] f (fun a=>1000+a.length) (by kernel_rfl)
end Zay
namespace Zam
def sp:Spec:=mkSp ⟨[(0,Sb)],[]⟩ ⟨[(0,Sb)],[]⟩ g
noncomputable def T (ad:LQ):=mkF ad 258 [] sp [] t0 t0 t0 5 [] f (fun a=>1000+a.toNat) (by kernel_rfl)
end Zam
namespace Zab
def sp:Spec:=mkSp ⟨[(0,Ss),(1,Si),(2,Si)],[]⟩ ⟨[(0,.c kq),(1,.c (.ifo 286 .i64))],[]⟩ g
noncomputable def T (ad:LQ):=mkF ad 239 [] sp [Zam.T ad,internal_strconv_underscoreOK.T ad] (fun n=>tj 55 ⟨[(1,Si),(8,SB),(9,Ss),(10,.c kq),(11,.c kq),(12,SB),(13,.c kq),(99,.c (.sl (.int .u8))),(100,Si),(101,Si)],[]⟩ (fun ms=>j55 n (l36 n ms.head!)) <| tj 46 ⟨[(1,Si),(8,SB),(9,Ss),(10,.c kq),(11,.c kq),(12,SB),(13,.c kq),(16,Sb),(99,.c (.sl (.int .u8))),(100,Si),(101,Si)],[]⟩ (fun ms=>j46 n (l36 n ms.head!)) <| tj 32 ⟨[(0,Ss),(1,Si),(2,Si),(8,SB),(9,Ss),(10,.c kq)],[]⟩ (fun _=>j32 n) <| tj 25 ⟨[(0,Ss),(1,Si),(2,Si),(8,SB),(9,Ss)],[]⟩ (fun _=>j25 n) <| tj 21 ⟨[(0,Ss),(1,Si),(2,Si),(8,SB),(9,Ss)],[]⟩ (fun _=>j21 n) <| tj 17 ⟨[(0,Ss),(1,Si),(2,Si),(8,SB),(9,Ss)],[]⟩ (fun _=>j17 n) <| tj 20 ⟨[(0,Ss),(1,Si),(2,Si),(8,SB),(9,Ss)],[]⟩ (fun _=>j20 n) <| tj 11 ⟨[(0,Ss),(1,Si),(2,Si),(8,SB),(9,Ss)],[]⟩ (fun _=>j11 n) <| tj 9 ⟨[(0,Ss),(1,Si),(2,Si),(8,SB),(9,Ss)],[]⟩ (fun _=>j9 n) <| tn) (fun n=>tl 36 ⟨[(1,Si),(8,SB),(9,Ss),(10,.c kq),(11,.c kq),(12,SB),(13,.c kq),(99,.c (.sl (.int .u8))),(100,Si),(101,Si)],[]⟩ (fun _=>l36 n) <| tn) t0 172 [] f (fun a b c=>1000+a.length+b.toNat+c.toNat) (by kernel_rfl)
end Zab
namespace Zcq
def sp:Spec:=mkSp ⟨[(0,Ss),(1,Si),(2,Si)],[]⟩ ⟨[(0,.c kq),(1,Se)],[]⟩ g
noncomputable def T (ad:LQ):=mkF ad 209 [] sp [Zab.T ad,strconv_toError.T ad] t0 t0 t0 26 [] f (fun a b c=>1000+a.length+b.toNat+c.toNat) (by kernel_rfl)
end Zcq
namespace Zcg
def sp:Spec:=mkSp ⟨[(0,Ss)],[]⟩ ⟨[(0,Su),(1,SB)],[]⟩ g
noncomputable def T (ad:LQ):=mkF ad 166 [] sp [strings_CutPrefix.T ad,strings_Contains.T ad,Zcq.T ad] (fun n=>tj 5 ⟨[(0,Ss),(4,Si)],[]⟩ (fun _=>j5 n) <| tn) t0 t0 28 [] f (fun a=>1000+a.length) (by kernel_rfl)
end Zcg
namespace Zap
def sp:Spec:=mkSp ⟨[(0,Ss)],[]⟩ ⟨[(0,.c (.row 195 u0)),(1,Si)],[]⟩ g
noncomputable def T (ad:LQ):=mkF ad 122 [] sp [Zby.T ad,Zay.T ad,Zcf.T ad,Zcg.T ad,strings_IndexByte.T ad] (fun n=>tj 23 ⟨[(0,Ss),(4,.c (.row 195 u0)),(5,Si),(6,Sp 0 0)],[(some 3,[ki,ki,.str,ku])]⟩ (fun ms=>j23 n (g0 n ms.head!)) <| tn) t0 (fun n=>tl 0 ⟨[(0,Ss),(4,.c (.row 195 u0)),(5,Si)],[]⟩ (fun _=>g0 n) <| tn) 108 [] f (fun a=>1000+a.length) (by kernel_rfl)
end Zap
namespace Zad
def sp:Spec:=mkSp ⟨[(0,Ss)],[]⟩ ⟨[(0,SB)],[]⟩ g
noncomputable def T (ad:LQ):=mkF ad 124 [] sp [strings_Trim.T ad] (fun n=>tj 9 ⟨[(0,Ss),(24,Si),(25,Si)],[]⟩ (fun ms=>j9 n (l4 n ms.head!)) <| tj 3 ⟨[(0,Ss)],[]⟩ (fun _=>j3 n) <| tn) (fun n=>tl 4 ⟨[(0,Ss),(24,Si),(25,Si)],[]⟩ (fun _=>l4 n) <| tn) t0 84 [] f (fun a=>1000+a.length) (by kernel_rfl)
end Zad
namespace Zat
def sp:Spec:=mkSp ⟨[(0,Sp 0 0),(1,SB)],[(some 0,[.sl u0,ki,ki])]⟩ ⟨[],[(none,[.sl u0,ki,ki])]⟩ g
noncomputable def T (ad:LQ):=mkF ad 168 [] sp [] t0 t0 t0 16 [] f (fun _ b c d=>1000+b.length+c.toNat+d.toNat) (by kernel_rfl)
end Zat
namespace Zct
def sp:Spec:=mkSp ⟨[(0,Si)],[]⟩ ⟨[(0,SB)],[]⟩ g
noncomputable def T (ad:LQ):=mkF ad 128 [] sp [] t0 t0 t0 9 [] f (fun a=>1000+a.toNat) (by kernel_rfl)
end Zct
namespace Zck
def sp:Spec:=mkSp ⟨[(0,Sp 0 0),(1,Si)],[(some 0,[.sl u0,ki,ki])]⟩ ⟨[(0,Ss)],[(none,[.sl u0,ki,ki])]⟩ g
noncomputable def T (ad:LQ):=mkF ad 211 [] sp [] t0 t0 t0 48 [] f (fun a b c d=>1000+a.toNat+b.length+c.toNat+d.toNat) (by kernel_rfl)
end Zck
namespace Zbq
def sp:Spec:=mkSp ⟨[(0,Sp 0 0),(1,Si)],[(some 0,[.sl u0,ki,ki])]⟩ ⟨[(0,Ss)],[(none,[.sl u0,ki,ki])]⟩ g
noncomputable def T (ad:LQ):=mkF ad 170 [] sp [Zck.T ad] t0 t0 t0 17 [] f (fun a b c d=>1000+a.toNat+b.length+c.toNat+d.toNat) (by kernel_rfl)
end Zbq
namespace Zav
def sp:Spec:=mkSp ⟨[(0,Ss),(1,Si),(2,Si)],[]⟩ ⟨[(0,Si),(1,.c (.ifo 286 .i64))],[]⟩ g
noncomputable def T (ad:LQ):=mkF ad 279 [] sp [Zab.T ad] (fun n=>tj 21 ⟨[(8,SB),(9,.c kq)],[]⟩ (fun _=>j21 n) <| tj 19 ⟨[(8,SB),(9,.c kq),(10,.c kq)],[]⟩ (fun _=>j19 n) <| tj 16 ⟨[(2,Si),(8,SB),(9,.c kq)],[]⟩ (fun _=>j16 n) <| tj 14 ⟨[(2,Si),(8,SB),(9,.c kq)],[]⟩ (fun _=>j14 n) <| tj 10 ⟨[(0,Ss),(1,Si),(2,Si),(8,SB)],[]⟩ (fun _=>j10 n) <| tn) t0 t0 73 [] f (fun a b c=>1000+a.length+b.toNat+c.toNat) (by kernel_rfl)
end Zav
namespace Zbb
def sp:Spec:=mkSp ⟨[(0,Ss)],[]⟩ ⟨[(0,Si),(1,.c (.ifo 286 .i64))],[]⟩ g
noncomputable def T (ad:LQ):=mkF ad 264 [] sp [Zav.T ad] (fun n=>tj 8 ⟨[(0,Ss),(5,Ss)],[]⟩ (fun _=>j8 n) <| tj 6 ⟨[(0,Ss),(5,Ss)],[]⟩ (fun _=>j6 n) <| tj 20 ⟨[(0,Ss)],[]⟩ (fun _=>j20 n) <| tn) (fun n=>tl 10 ⟨[(5,Ss),(6,Si),(47,.c (.sl (.int .u8))),(48,Si),(49,Si)],[]⟩ (fun _=>l10 n) <| tn) t0 77 [] f (fun a=>1000+a.length) (by kernel_rfl)
end Zbb
namespace Zcr
def sp:Spec:=mkSp ⟨[(0,Ss)],[]⟩ ⟨[(0,Si),(1,Se)],[]⟩ g
noncomputable def T (ad:LQ):=mkF ad 242 [] sp [Zbb.T ad,strconv_toError.T ad] t0 t0 t0 18 [] f (fun a=>1000+a.length) (by kernel_rfl)
end Zcr
namespace Zcs
def sp:Spec:=mkSp ⟨[(0,Si)],[]⟩ ⟨[(0,Ss)],[]⟩ g
noncomputable def T (ad:LQ):=mkF ad 173 [] sp [strconv_Itoa.T ad] t0 t0 t0 12 [] f (fun a=>1000+a.toNat) (by kernel_rfl)
end Zcs
namespace Zch
def sp:Spec:=mkSp ⟨[(0,Ss)],[]⟩ ⟨[(0,Si),(1,SB)],[]⟩ g
noncomputable def T (ad:LQ):=mkF ad 212 [] sp [strings_CutPrefix.T ad,Zcr.T ad,Zcs.T ad] t0 t0 t0 31 [] f (fun a=>1000+a.length) (by kernel_rfl)
end Zch
namespace Zcu
def sp:Spec:=mkSp ⟨[(0,Sp 0 0),(1,Sp 1 0)],[(some 0,[.sl u0,ki,ki]),(some 1,c0)]⟩ ⟨[],[(none,[.sl u0,ki,ki]),(none,c0)]⟩ g
noncomputable def T (ad:LQ):=mkF ad 171 [] sp [Zck.T ad,Zch.T ad] t0 t0 t0 50 [] f (fun a b c d e i j k _ o p=>1000+a.length+b.toNat+c.toNat+d.toNat+e.toNat+i.toNat+j.toNat+k.toNat+o.length+p.length) (by kernel_rfl)
end Zcu
namespace Zcv
def sp:Spec:=mkSp ⟨[(0,Sp 0 0)],[(some 0,c0)]⟩ ⟨[(0,Sp 0 2)],[(none,c0)]⟩ g
noncomputable def T (ad:LQ):=mkF ad 176 [] sp [] t0 t0 t0 6 [] f (fun a b c d e _ j k=>1000+a.toNat+b.toNat+c.toNat+d.toNat+e.toNat+j.length+k.length) (by kernel_rfl)
end Zcv
namespace Zcw
def sp:Spec:=mkSp ⟨[(0,Sp 0 0)],[(some 0,c0)]⟩ ⟨[(0,Sp 0 3)],[(none,c0)]⟩ g
noncomputable def T (ad:LQ):=mkF ad 177 [] sp [] t0 t0 t0 6 [] f (fun a b c d e _ j k=>1000+a.toNat+b.toNat+c.toNat+d.toNat+e.toNat+j.length+k.length) (by kernel_rfl)
end Zcw
namespace Zcx
def sp:Spec:=mkSp ⟨[(0,Sp 0 0)],[(some 0,c0)]⟩ ⟨[(0,Sp 0 4)],[(none,c0)]⟩ g
noncomputable def T (ad:LQ):=mkF ad 178 [] sp [] t0 t0 t0 6 [] f (fun a b c d e _ j k=>1000+a.toNat+b.toNat+c.toNat+d.toNat+e.toNat+j.length+k.length) (by kernel_rfl)
end Zcx
namespace Zcl
def sp:Spec:=mkSp ⟨[(0,Sp 0 0),(1,Sp 1 0),(2,.c (.pp .fn))],[(some 0,[.sl u0,ki,ki]),(some 1,c0)]⟩ ⟨[],[(none,[.sl u0,ki,ki]),(none,c0)]⟩ g
noncomputable def T (ad:LQ):=mkF ad 217 [] sp [Zbq.T ad,Zch.T ad,Zat.T ad,Zcv.T ad,Zcw.T ad,Zcx.T ad] t0 t0 t0 21 [K.atA,K.atB,K.atC] f (fun _ b c d e i j k l _ p q=>1000+b.length+c.toNat+d.toNat+e.toNat+i.toNat+j.toNat+k.toNat+l.toNat+p.length+q.length) (by kernel_rfl)
end Zcl
namespace Zbc
def sp:Spec:=mkSp ⟨[(0,Sp 0 0),(1,Si)],[(some 0,c1)]⟩ ⟨[],[(none,c1)]⟩ g
noncomputable def T (ad:LQ):=mkF ad 288 [] sp [] t0 t0 t0 13 [] f (fun a b c d e=>1000+a.toNat+b.length+c.toNat+d.length+e.toNat) (by kernel_rfl)
end Zbc
namespace Zbz
def sp:Spec:=mkSp ⟨[(0,Sp 0 0)],[(some 0,c1)]⟩ ⟨[(0,.agg [ki,ki,.str,ku]),(1,SB)],[(none,c1)]⟩ g
noncomputable def T (ad:LQ):=mkF ad 289 [] sp [] t0 t0 t0 39 [] f (fun a b c d=>1000+a.length+b.toNat+c.length+d.toNat) (by kernel_rfl)
end Zbz
namespace Zaq
def sp:Spec:=mkSp ⟨[(0,Sp 0 0),(1,.c (.sl .str))],[(some 0,c1)]⟩ ⟨[(0,Ss),(1,SB)],[(none,c1)]⟩ g
noncomputable def T (ad:LQ):=mkF ad 286 [] sp [Zbz.T ad] (fun n=>tj 8 ⟨[(0,Sp 0 0),(6,Sp 1 0),(7,SB),(15,.c (.sl .str)),(16,Si),(17,Si)],[(none,c1),(some 1,[ki,ki,.str,ku])]⟩ (fun ms=>j8 n (l3 n ms.head!)) <| tn) (fun n=>tl 3 ⟨[(0,Sp 0 0),(6,Sp 1 0),(7,SB),(15,.c (.sl .str)),(16,Si),(17,Si)],[(none,c1),(some 1,[ki,ki,.str,ku])]⟩ (fun _=>l3 n) <| tn) t0 42 [] f (fun a b c d e=>1000+a.length+b.length+c.toNat+d.length+e.toNat) (by kernel_rfl)
end Zaq
namespace Zaw
def sp:Spec:=mkSp ⟨[(0,Sp 0 0),(1,.agg [ki,ku,.str])],[(some 0,c1)]⟩ ⟨[],[(none,c1)]⟩ g
noncomputable def T (ad:LQ):=mkF ad 287 [] sp [] t0 t0 t0 14 [] f (fun a b c d e i j=>1000+a.toNat+b.toNat+c.length+d.length+e.toNat+i.length+j.toNat) (by kernel_rfl)
end Zaw
def expr_parser_sum.spq (q:Nat):Spec:=mkSp ⟨[(0,Sp 0 0),(1,Si)],[(some 0,c1)]⟩ ⟨[],[(none,c1)]⟩ (rec_expr_parser_sum q).expr_parser_sum
def expr_parser_row_c270.spq (q:Nat):Spec:=mkSp ⟨[(0,Sp 0 0),(1,.clo 270 [.ptr 1 0,.ptr 2 0]),(2,.c (.sl .str))],[(some 0,c1),(some 1,[.ptr 0 0]),(some 2,[ki])]⟩ ⟨[],[(none,c1),(none,[.ptr 0 0]),(none,[ki])]⟩ (rec_expr_parser_sum q).expr_parser_row_c270
def expr_parser_sum_1.spq (q:Nat):Spec:=mkSp ⟨[(0,Sp 0 0),(1,Sp 1 0)],[(some 0,[.ptr 2 0]),(some 1,[ki]),(some 2,c1)]⟩ ⟨[],[(none,[.ptr 2 0]),(none,[ki]),(none,c1)]⟩ (rec_expr_parser_sum q).expr_parser_sum_1
def expr_parser_row_c271.spq (q:Nat):Spec:=mkSp ⟨[(0,Sp 0 0),(1,.clo 271 [.ptr 1 0,.ptr 2 0]),(2,.c (.sl .str))],[(some 0,c1),(some 1,[.ptr 0 0]),(some 2,[ki])]⟩ ⟨[],[(none,c1),(none,[.ptr 0 0]),(none,[ki])]⟩ (rec_expr_parser_sum q).expr_parser_row_c271
def expr_parser_sum_1_1.spq (q:Nat):Spec:=mkSp ⟨[(0,Sp 0 0),(1,Sp 1 0)],[(some 0,[.ptr 2 0]),(some 1,[ki]),(some 2,c1)]⟩ ⟨[],[(none,[.ptr 2 0]),(none,[ki]),(none,c1)]⟩ (rec_expr_parser_sum q).expr_parser_sum_1_1
def expr_parser_factor.spq (q:Nat):Spec:=mkSp ⟨[(0,Sp 0 0),(1,Si)],[(some 0,c1)]⟩ ⟨[],[(none,c1)]⟩ (rec_expr_parser_sum q).expr_parser_factor
namespace expr_parser_sum
theorem step (q:Nat) (ih:Sat P (LW ad) 248 (expr_parser_sum.spq q)∧Sat P (LW ad) 269 (expr_parser_row_c270.spq q)∧Sat P (LW ad) 270 (expr_parser_sum_1.spq q)∧Sat P (LW ad) 269 (expr_parser_row_c271.spq q)∧Sat P (LW ad) 271 (expr_parser_sum_1_1.spq q)∧Sat P (LW ad) 272 (expr_parser_factor.spq q)∧True):Sat P (LW ad) 248 (spq (q+1)):=sat_q mixed types_ok maps_ok 248 (spq (q+1)) [((269,[270]),expr_parser_row_c270.spq q)] (specs_cons ih.2.1 (enter_of (by kernel_rfl)) specs_nil) t0 t0 t0 8 [] (fun n=>f n (rec_expr_parser_sum q)) (fun a b c d e=>1000+a.toNat+b.length+c.toNat+d.length+e.toNat) (by kernel_rfl) (by kernel_rfl)
end expr_parser_sum
namespace expr_parser_row_c270
theorem step (q:Nat) (ih:Sat P (LW ad) 248 (expr_parser_sum.spq q)∧Sat P (LW ad) 269 (expr_parser_row_c270.spq q)∧Sat P (LW ad) 270 (expr_parser_sum_1.spq q)∧Sat P (LW ad) 269 (expr_parser_row_c271.spq q)∧Sat P (LW ad) 271 (expr_parser_sum_1_1.spq q)∧Sat P (LW ad) 272 (expr_parser_factor.spq q)∧True):Sat P (LW ad) 269 (spq (q+1)):=sat_q mixed types_ok maps_ok 269 (spq (q+1)) [((270,[]),expr_parser_sum_1.spq q),(Zaq.T ad).kv,(Zaw.T ad).kv] (specs_cons ih.2.2.1 (enter_of (by kernel_rfl)) (specs_T (Zaq.T ad) (specs_T (Zaw.T ad) specs_nil))) t0 (fun n=>tl 1 ⟨[(0,Sp 0 0),(1,.clo 270 [.ptr 1 0,.ptr 2 0]),(2,.c (.sl .str))],[(none,c1),(none,[.ptr 0 0]),(none,[ki])]⟩ (fun _=>l1 n (rec_expr_parser_sum q)) <| tn) t0 26 [] (fun n=>f n (rec_expr_parser_sum q)) (fun a b c d e i=>1000+a.length+b.length+c.toNat+d.length+e.toNat+i.toNat) (by kernel_rfl) (by kernel_rfl)
end expr_parser_row_c270
namespace expr_parser_sum_1
theorem step (q:Nat) (ih:Sat P (LW ad) 248 (expr_parser_sum.spq q)∧Sat P (LW ad) 269 (expr_parser_row_c270.spq q)∧Sat P (LW ad) 270 (expr_parser_sum_1.spq q)∧Sat P (LW ad) 269 (expr_parser_row_c271.spq q)∧Sat P (LW ad) 271 (expr_parser_sum_1_1.spq q)∧Sat P (LW ad) 272 (expr_parser_factor.spq q)∧True):Sat P (LW ad) 270 (spq (q+1)):=sat_q mixed types_ok maps_ok 270 (spq (q+1)) [((269,[271]),expr_parser_row_c271.spq q)] (specs_cons ih.2.2.2.1 (enter_of (by kernel_rfl)) specs_nil) t0 t0 t0 6 [] (fun n=>f n (rec_expr_parser_sum q)) (fun a b c d e=>1000+a.toNat+b.length+c.toNat+d.length+e.toNat) (by kernel_rfl) (by kernel_rfl)
end expr_parser_sum_1
namespace expr_parser_row_c271
theorem step (q:Nat) (ih:Sat P (LW ad) 248 (expr_parser_sum.spq q)∧Sat P (LW ad) 269 (expr_parser_row_c270.spq q)∧Sat P (LW ad) 270 (expr_parser_sum_1.spq q)∧Sat P (LW ad) 269 (expr_parser_row_c271.spq q)∧Sat P (LW ad) 271 (expr_parser_sum_1_1.spq q)∧Sat P (LW ad) 272 (expr_parser_factor.spq q)∧True):Sat P (LW ad) 269 (spq (q+1)):=sat_q mixed types_ok maps_ok 269 (spq (q+1)) [((271,[]),expr_parser_sum_1_1.spq q),(Zaq.T ad).kv,(Zaw.T ad).kv] (specs_cons ih.2.2.2.2.1 (enter_of (by kernel_rfl)) (specs_T (Zaq.T ad) (specs_T (Zaw.T ad) specs_nil))) t0 (fun n=>tl 1 ⟨[(0,Sp 0 0),(1,.clo 271 [.ptr 1 0,.ptr 2 0]),(2,.c (.sl .str))],[(none,c1),(none,[.ptr 0 0]),(none,[ki])]⟩ (fun _=>l1 n (rec_expr_parser_sum q)) <| tn) t0 26 [] (fun n=>f n (rec_expr_parser_sum q)) (fun a b c d e i=>1000+a.length+b.length+c.toNat+d.length+e.toNat+i.toNat) (by kernel_rfl) (by kernel_rfl)
end expr_parser_row_c271
namespace expr_parser_sum_1_1
theorem step (q:Nat) (ih:Sat P (LW ad) 248 (expr_parser_sum.spq q)∧Sat P (LW ad) 269 (expr_parser_row_c270.spq q)∧Sat P (LW ad) 270 (expr_parser_sum_1.spq q)∧Sat P (LW ad) 269 (expr_parser_row_c271.spq q)∧Sat P (LW ad) 271 (expr_parser_sum_1_1.spq q)∧Sat P (LW ad) 272 (expr_parser_factor.spq q)∧True):Sat P (LW ad) 271 (spq (q+1)):=sat_q mixed types_ok maps_ok 271 (spq (q+1)) [((272,[]),expr_parser_factor.spq q)] (specs_cons ih.2.2.2.2.2.1 (enter_of (by kernel_rfl)) specs_nil) t0 t0 t0 5 [] (fun n=>f n (rec_expr_parser_sum q)) (fun a b c d e=>1000+a.toNat+b.length+c.toNat+d.length+e.toNat) (by kernel_rfl) (by kernel_rfl)
end expr_parser_sum_1_1
namespace expr_parser_factor
theorem step (q:Nat) (ih:Sat P (LW ad) 248 (expr_parser_sum.spq q)∧Sat P (LW ad) 269 (expr_parser_row_c270.spq q)∧Sat P (LW ad) 270 (expr_parser_sum_1.spq q)∧Sat P (LW ad) 269 (expr_parser_row_c271.spq q)∧Sat P (LW ad) 271 (expr_parser_sum_1_1.spq q)∧Sat P (LW ad) 272 (expr_parser_factor.spq q)∧True):Sat P (LW ad) 272 (spq (q+1)):=sat_q mixed types_ok maps_ok 272 (spq (q+1)) [(Zbc.T ad).kv,(Zaq.T ad).kv,((272,[]),expr_parser_factor.spq q),(Zaw.T ad).kv,((248,[]),expr_parser_sum.spq q),(Zbz.T ad).kv,(Zad.T ad).kv] (specs_T (Zbc.T ad) (specs_T (Zaq.T ad) (specs_cons ih.2.2.2.2.2.1 (enter_of (by kernel_rfl)) (specs_T (Zaw.T ad) (specs_cons ih.1 (enter_of (by kernel_rfl)) (specs_T (Zbz.T ad) (specs_T (Zad.T ad) specs_nil))))))) (fun n=>tj 19 ⟨[(0,Sp 0 0)],[(none,c1)]⟩ (fun _=>j19 n (rec_expr_parser_sum q)) <| tn) t0 t0 94 [] (fun n=>f n (rec_expr_parser_sum q)) (fun a b c d e=>1000+a.toNat+b.length+c.toNat+d.length+e.toNat) (by kernel_rfl) (by kernel_rfl)
end expr_parser_factor
theorem rec_expr_parser_sum_sat:∀ q,Sat P (LW ad) 248 (expr_parser_sum.spq q)∧Sat P (LW ad) 269 (expr_parser_row_c270.spq q)∧Sat P (LW ad) 270 (expr_parser_sum_1.spq q)∧Sat P (LW ad) 269 (expr_parser_row_c271.spq q)∧Sat P (LW ad) 271 (expr_parser_sum_1_1.spq q)∧Sat P (LW ad) 272 (expr_parser_factor.spq q)∧True
 | 0=>⟨sat_none fun _=>rfl,sat_none fun _=>rfl,sat_none fun _=>rfl,sat_none fun _=>rfl,sat_none fun _=>rfl,sat_none fun _=>rfl,trivial⟩
 | q+1=>⟨expr_parser_sum.step q (rec_expr_parser_sum_sat q),expr_parser_row_c270.step q (rec_expr_parser_sum_sat q),expr_parser_sum_1.step q (rec_expr_parser_sum_sat q),expr_parser_row_c271.step q (rec_expr_parser_sum_sat q),expr_parser_sum_1_1.step q (rec_expr_parser_sum_sat q),expr_parser_factor.step q (rec_expr_parser_sum_sat q),trivial⟩
def expr_parser_sum.sp:Spec:=mkSp ⟨[(0,Sp 0 0),(1,Si)],[(some 0,c1)]⟩ ⟨[],[(none,c1)]⟩ expr_parser_sum.g
noncomputable def expr_parser_sum.T (ad:LQ):TF P (LW ad):=⟨248,[],expr_parser_sum.sp,sat_fq (F:=fun q=>(rec_expr_parser_sum q).expr_parser_sum) (fun a b c d e=>1000+a.toNat+b.length+c.toNat+d.length+e.toNat) (fun q=>(rec_expr_parser_sum_sat q).1) (fun _=>by kernel_rfl),enter_of (by kernel_rfl)⟩
def expr_parser_row_c270.sp:Spec:=mkSp ⟨[(0,Sp 0 0),(1,.clo 270 [.ptr 1 0,.ptr 2 0]),(2,.c (.sl .str))],[(some 0,c1),(some 1,[.ptr 0 0]),(some 2,[ki])]⟩ ⟨[],[(none,c1),(none,[.ptr 0 0]),(none,[ki])]⟩ expr_parser_row_c270.g
noncomputable def expr_parser_row_c270.T (ad:LQ):TF P (LW ad):=⟨269,[270],expr_parser_row_c270.sp,sat_fq (F:=fun q=>(rec_expr_parser_sum q).expr_parser_row_c270) (fun a b c d e i=>1000+a.length+b.length+c.toNat+d.length+e.toNat+i.toNat) (fun q=>(rec_expr_parser_sum_sat q).2.1) (fun _=>by kernel_rfl),enter_of (by kernel_rfl)⟩
def expr_parser_sum_1.sp:Spec:=mkSp ⟨[(0,Sp 0 0),(1,Sp 1 0)],[(some 0,[.ptr 2 0]),(some 1,[ki]),(some 2,c1)]⟩ ⟨[],[(none,[.ptr 2 0]),(none,[ki]),(none,c1)]⟩ expr_parser_sum_1.g
noncomputable def expr_parser_sum_1.T (ad:LQ):TF P (LW ad):=⟨270,[],expr_parser_sum_1.sp,sat_fq (F:=fun q=>(rec_expr_parser_sum q).expr_parser_sum_1) (fun a b c d e=>1000+a.toNat+b.length+c.toNat+d.length+e.toNat) (fun q=>(rec_expr_parser_sum_sat q).2.2.1) (fun _=>by kernel_rfl),enter_of (by kernel_rfl)⟩
def expr_parser_row_c271.sp:Spec:=mkSp ⟨[(0,Sp 0 0),(1,.clo 271 [.ptr 1 0,.ptr 2 0]),(2,.c (.sl .str))],[(some 0,c1),(some 1,[.ptr 0 0]),(some 2,[ki])]⟩ ⟨[],[(none,c1),(none,[.ptr 0 0]),(none,[ki])]⟩ expr_parser_row_c271.g
noncomputable def expr_parser_row_c271.T (ad:LQ):TF P (LW ad):=⟨269,[271],expr_parser_row_c271.sp,sat_fq (F:=fun q=>(rec_expr_parser_sum q).expr_parser_row_c271) (fun a b c d e i=>1000+a.length+b.length+c.toNat+d.length+e.toNat+i.toNat) (fun q=>(rec_expr_parser_sum_sat q).2.2.2.1) (fun _=>by kernel_rfl),enter_of (by kernel_rfl)⟩
def expr_parser_sum_1_1.sp:Spec:=mkSp ⟨[(0,Sp 0 0),(1,Sp 1 0)],[(some 0,[.ptr 2 0]),(some 1,[ki]),(some 2,c1)]⟩ ⟨[],[(none,[.ptr 2 0]),(none,[ki]),(none,c1)]⟩ expr_parser_sum_1_1.g
noncomputable def expr_parser_sum_1_1.T (ad:LQ):TF P (LW ad):=⟨271,[],expr_parser_sum_1_1.sp,sat_fq (F:=fun q=>(rec_expr_parser_sum q).expr_parser_sum_1_1) (fun a b c d e=>1000+a.toNat+b.length+c.toNat+d.length+e.toNat) (fun q=>(rec_expr_parser_sum_sat q).2.2.2.2.1) (fun _=>by kernel_rfl),enter_of (by kernel_rfl)⟩
def expr_parser_factor.sp:Spec:=mkSp ⟨[(0,Sp 0 0),(1,Si)],[(some 0,c1)]⟩ ⟨[],[(none,c1)]⟩ expr_parser_factor.g
noncomputable def expr_parser_factor.T (ad:LQ):TF P (LW ad):=⟨272,[],expr_parser_factor.sp,sat_fq (F:=fun q=>(rec_expr_parser_sum q).expr_parser_factor) (fun a b c d e=>1000+a.toNat+b.length+c.toNat+d.length+e.toNat) (fun q=>(rec_expr_parser_sum_sat q).2.2.2.2.2.1) (fun _=>by kernel_rfl),enter_of (by kernel_rfl)⟩
namespace Zca
def sp:Spec:=mkSp ⟨[(0,.c (.sl u0)),(1,Si)],[]⟩ ⟨[(0,.c (.row 56 u1)),(1,Si),(2,Si)],[]⟩ g
noncomputable def T (ad:LQ):=mkF ad 220 [] sp [expr_parser_sum.T ad] (fun n=>tj 5 ⟨[(7,Sp 0 0)],[(some 0,c1)]⟩ (fun _=>j5 n) <| tn) t0 t0 47 [] f (fun a b=>1000+a.length+b.toNat) (by kernel_rfl)
end Zca
namespace Zcd
def sp:Spec:=mkSp ⟨[(0,Sp 0 0),(1,Sp 1 0),(2,.c (.pp .str))],[(some 0,[.sl u0,ki,ki]),(some 1,c0)]⟩ ⟨[],[(none,[.sl u0,ki,ki]),(none,c0)]⟩ g
noncomputable def T (ad:LQ):=mkF ad 219 [] sp [Zbq.T ad,Zat.T ad,Zca.T ad] (fun n=>tj 2 ⟨[(0,Sp 0 0),(1,Sp 1 0)],[(none,[.sl u0,ki,ki]),(none,c0)]⟩ (fun _=>j2 n) <| tn) t0 t0 40 [] f (fun a b c d e i j k l _ p q=>1000+a.length+b.length+c.toNat+d.toNat+e.toNat+i.toNat+j.toNat+k.toNat+l.toNat+p.length+q.length) (by kernel_rfl)
end Zcd
namespace Zbs
def sp:Spec:=mkSp ⟨[(0,Sb),(1,SB)],[]⟩ ⟨[(0,SB)],[]⟩ g
noncomputable def T (ad:LQ):=mkF ad 137 [] sp [] (fun n=>tj 4 ⟨[(0,Sb),(1,SB)],[]⟩ (fun _=>j4 n) <| tn) t0 t0 32 [] f (fun a _=>1000+a.toNat) (by kernel_rfl)
end Zbs
namespace Zcm
def sp:Spec:=mkSp ⟨[(0,Ss)],[]⟩ ⟨[(0,SB)],[]⟩ g
noncomputable def T (ad:LQ):=mkF ad 89 [] sp [Zbs.T ad,strings_Trim.T ad] t0 (fun n=>tl 4 ⟨[(0,Ss),(14,Si),(15,Si)],[]⟩ (fun _=>l4 n) <| tn) t0 47 [] f (fun a=>1000+a.length) (by kernel_rfl)
end Zcm
namespace Zcy
def sp:Spec:=mkSp ⟨[(0,Sp 0 0),(1,Sp 1 0)],[(some 0,[.sl u0,ki,ki]),(some 1,c0)]⟩ ⟨[],[(none,[.sl u0,ki,ki]),(none,c0)]⟩ g
noncomputable def T (ad:LQ):=mkF ad 180 [] sp [Zbq.T ad,Zcm.T ad,Zat.T ad] t0 t0 t0 16 [] f (fun a b c d e i j k _ o p=>1000+a.length+b.toNat+c.toNat+d.toNat+e.toNat+i.toNat+j.toNat+k.toNat+o.length+p.length) (by kernel_rfl)
end Zcy
namespace Zai
def sp:Spec:=mkSp ⟨[(0,.c (.sl u0))],[]⟩ ⟨[(0,Ss),(1,.agg c0),(2,Si)],[]⟩ g
noncomputable def T (ad:LQ):=mkF ad 123 [] sp [Zad.T ad,Zat.T ad,name_Of.T ad,Zct.T ad,stmt_operands.T ad,Zbq.T ad,Zcu.T ad,Zcl.T ad,Zcd.T ad,Zcy.T ad] (fun n=>tj 20 ⟨[(0,.c (.sl u0)),(2,Ss),(3,Sp 0 0),(5,Sp 1 0),(8,Si),(11,Si),(116,Si),(117,Si)],[(some 2,c0),(some 3,[.sl u0,ki,ki])]⟩ (fun ms=>j20 n (l13 n ms.head!)) <| tj 19 ⟨[(0,.c (.sl u0)),(2,Ss),(3,Sp 0 0),(5,Sp 1 0),(8,Si),(11,Si),(12,Si),(116,Si),(117,Si)],[(some 2,c0),(some 3,[.sl u0,ki,ki])]⟩ (fun ms=>j19 n (l13 n ms.head!)) <| tj 17 ⟨[(0,.c (.sl u0)),(2,Ss),(3,Sp 0 0),(5,Sp 1 0),(8,Si),(11,Si),(12,Si),(116,Si),(117,Si)],[(some 2,c0),(some 3,[.sl u0,ki,ki])]⟩ (fun ms=>j17 n (l13 n ms.head!)) <| tj 22 ⟨[(2,Ss),(3,Sp 0 0),(5,Sp 1 0)],[(some 1,c0),(some 2,[.sl u0,ki,ki])]⟩ (fun _=>j22 n) <| tj 9 ⟨[(0,.c (.sl u0)),(2,Ss),(3,Sp 0 0),(5,Sp 1 0),(7,Si),(8,Si),(9,SB)],[(some 2,c0),(some 3,[.sl u0,ki,ki])]⟩ (fun _=>j9 n) <| tj 5 ⟨[(0,.c (.sl u0)),(2,Ss),(3,Sp 0 0),(5,Sp 1 0)],[(some 2,c0),(some 3,[.sl u0,ki,ki])]⟩ (fun _=>j5 n) <| tn) (fun n=>tl 13 ⟨[(0,.c (.sl u0)),(2,Ss),(3,Sp 0 0),(5,Sp 1 0),(8,Si),(11,Si),(116,Si),(117,Si)],[(some 2,c0),(some 3,[.sl u0,ki,ki])]⟩ (fun _=>l13 n) <| tn) t0 165 [K.rdA,K.rdB,K.rdC,K.rdE,K.rdQ,K.rdN] f (fun a=>1000+a.length) (by kernel_rfl)
end Zai
namespace Zcz
def sp:Spec:=mkSp ⟨[(0,Ss)],[]⟩ ⟨[(0,.agg c2),(1,Si)],[]⟩ g
noncomputable def T (ad:LQ):=mkF ad 72 [] sp [Zap.T ad,Zai.T ad] t0 t0 t0 27 [] f (fun a=>1000+a.length) (by kernel_rfl)
end Zcz
namespace Zcn
def sp:Spec:=mkSp ⟨[(0,.c (.sl .str)),(1,.c (.raw (.func (.func 72) #[] #[])))],[]⟩ ⟨[(0,.c (.row 38 u2)),(1,Si),(2,Si)],[]⟩ g
noncomputable def T (ad:LQ):=mkF ad 71 [] sp [Zcz.T ad] t0 (fun n=>tl 5 ⟨[(1,.c (.raw (.func (.func 72) #[] #[]))),(7,.c (.row 38 u2)),(15,.c (.sl .str)),(16,Si),(17,Si)],[]⟩ (fun _=>l5 n) <| tn) t0 39 [] f (fun a=>1000+a.length) (by kernel_rfl)
end Zcn
namespace Zco
def sp:Spec:=mkSp ⟨[(0,Ss)],[]⟩ ⟨[(0,.c (.row 38 u2)),(1,Si),(2,Si)],[]⟩ g
noncomputable def T (ad:LQ):=mkF ad 38 [] sp [strings_Split.T ad,Zcn.T ad] (fun n=>tj 7 ⟨[(5,.c (.sl .str))],[]⟩ (fun _=>j7 n) <| tn) t0 t0 28 [] f (fun a=>1000+a.length) (by kernel_rfl)
end Zco
namespace Zci
def sp:Spec:=mkSp ⟨[(0,.agg [.str,ki]),(1,Sp 0 0)],[(some 2,[.str])]⟩ ⟨[(0,SB)],[(none,[.str])]⟩ g
noncomputable def T (ad:LQ):=mkF ad 57 [] sp [] t0 t0 t0 8 [] f (fun a b c=>1000+a.length+b.toNat+c.length) (by kernel_rfl)
end Zci
namespace Zbf
def sp:Spec:=mkSp ⟨[(0,.c (.sl u3)),(1,.clo 57 [.ptr 0 0])],[(some 1,[.str])]⟩ ⟨[(0,Si)],[(none,[.str])]⟩ g
noncomputable def T (ad:LQ):=mkF ad 56 [57] sp [Zci.T ad] t0 (fun n=>tl 2 ⟨[(0,.c (.sl u3)),(1,.clo 57 [.ptr 0 0]),(7,Si),(8,Si)],[(none,[.str])]⟩ (fun _=>l2 n) <| tn) t0 19 [] f (fun a b=>1000+a.length+b.length) (by kernel_rfl)
end Zbf
namespace Zbg
def sp:Spec:=mkSp ⟨[(0,.c (.sl u3)),(1,Ss)],[]⟩ ⟨[(0,Si),(1,SB)],[]⟩ g
noncomputable def T (ad:LQ):=mkF ad 24 [] sp [Zbf.T ad] t0 t0 t0 17 [] f (fun a b=>1000+a.length+b.length) (by kernel_rfl)
end Zbg
namespace Zbi
def sp:Spec:=mkSp ⟨[(0,.agg c0)],[]⟩ ⟨[(0,Si)],[]⟩ g
noncomputable def T (ad:LQ):=mkF ad 21 [] sp [] t0 t0 t0 8 [] f (fun a b c d e _ j k=>1000+a.toNat+b.toNat+c.toNat+d.toNat+e.toNat+j.length+k.length) (by kernel_rfl)
end Zbi
namespace Zbr
def sp:Spec:=mkSp ⟨[(0,.agg c2),(1,Sp 0 0)],[(some 9,c3)]⟩ ⟨[(0,Si)],[(none,c3)]⟩ g
noncomputable def T (ad:LQ):=mkF ad 44 [] sp [Zbg.T ad,Zbi.T ad] (fun n=>tj 7 ⟨[(1,Sp 0 0),(2,Sp 1 0)],[(none,c3),(some 1,c2)]⟩ (fun _=>j7 n) <| tn) t0 t0 43 [] f (fun a b c d e i _ k l o p q r s=>1000+a.length+b.toNat+c.toNat+d.toNat+e.toNat+i.toNat+k.length+l.length+o.length+p.length+q.length+r.toNat+s.toNat) (by kernel_rfl)
end Zbr
namespace Zbt
def sp:Spec:=mkSp ⟨[(0,.c (.sl u2)),(1,.clo 44 [.ptr 0 0])],[(some 1,c3)]⟩ ⟨[(0,Si),(1,Si)],[(none,c3)]⟩ g
noncomputable def T (ad:LQ):=mkF ad 47 [44] sp [Zbr.T ad] t0 (fun n=>tl 2 ⟨[(1,.clo 44 [.ptr 0 0]),(9,.c (.sl u2)),(10,Si),(11,Si)],[(none,c3)]⟩ (fun _=>l2 n) <| tn) t0 25 [] f (fun a b c d e i=>1000+a.length+b.length+c.length+d.length+e.toNat+i.toNat) (by kernel_rfl)
end Zbt
namespace Zbn
def sp:Spec:=mkSp ⟨[(0,.agg [ki,ku,.str])],[]⟩ ⟨[(0,Si),(1,SB)],[]⟩ g
noncomputable def T (ad:LQ):=mkF ad 96 [] sp [Zad.T ad] (fun n=>tj 2 ⟨[(1,Sp 0 0),(4,SB)],[(some 0,[ki,ku,.str])]⟩ (fun _=>j2 n) <| tn) t0 t0 38 [] f (fun a b c=>1000+a.toNat+b.toNat+c.length) (by kernel_rfl)
end Zbn
namespace Zbd
def sp:Spec:=mkSp ⟨[(0,.c (.sl u1))],[]⟩ ⟨[(0,SB)],[]⟩ g
noncomputable def T (ad:LQ):=mkF ad 58 [] sp [Zbn.T ad] t0 (fun n=>tl 3 ⟨[(0,.c (.sl u1)),(3,Si),(8,.c (.sl u1)),(9,Si),(10,Si)],[]⟩ (fun _=>l3 n) <| tn) t0 38 [] f (fun a=>1000+a.length) (by kernel_rfl)
end Zbd
namespace Zax
def sp:Spec:=mkSp ⟨[(0,Sp 0 0)],[(some 0,[.row 45 u4])]⟩ ⟨[(0,.agg [ku,ki])],[(none,[.row 45 u4])]⟩ g
noncomputable def T (ad:LQ):=mkF ad 60 [] sp [] t0 t0 t0 24 [] f (fun a=>1000+a.length) (by kernel_rfl)
end Zax
namespace Zbw
def sp:Spec:=mkSp ⟨[(0,.agg [ku,ki]),(1,Si)],[]⟩ ⟨[(0,.agg [ku,ki])],[]⟩ g
noncomputable def T (ad:LQ):=mkF ad 59 [] sp [] t0 t0 t0 15 [] f (fun a b c=>1000+a.toNat+b.toNat+c.toNat) (by kernel_rfl)
end Zbw
namespace Zcj
def sp:Spec:=mkSp ⟨[(0,.agg [ku,ki]),(1,.agg [ku,ki])],[]⟩ ⟨[(0,.agg [ku,ki])],[]⟩ g
noncomputable def T (ad:LQ):=mkF ad 61 [] sp [] t0 t0 t0 16 [] f (fun a b c d=>1000+a.toNat+b.toNat+c.toNat+d.toNat) (by kernel_rfl)
end Zcj
namespace Zah
def sp:Spec:=mkSp ⟨[(0,.c (.sl u1)),(1,.c (.sl u3))],[]⟩ ⟨[(0,.agg [ku,ki]),(1,Si)],[]⟩ g
noncomputable def T (ad:LQ):=mkF ad 25 [] sp [Zbd.T ad,Zbg.T ad,Zax.T ad,Zbw.T ad,Zcj.T ad] (fun n=>tj 27 ⟨[(1,.c (.sl u3)),(4,Sp 0 0),(6,Sp 1 0),(9,Sp 2 0),(20,.c (.sl u1)),(21,Si),(22,Si)],[(some 1,[ku,ki]),(some 2,[.row 45 u4]),(some 3,[ku,ki])]⟩ (fun ms=>j27 n (l5 n ms.head!)) <| tn) (fun n=>tl 5 ⟨[(1,.c (.sl u3)),(4,Sp 0 0),(6,Sp 1 0),(20,.c (.sl u1)),(21,Si),(22,Si)],[(some 1,[ku,ki]),(some 2,[.row 45 u4])]⟩ (fun _=>l5 n) <| tn) t0 92 [] f (fun a b=>1000+a.length+b.length) (by kernel_rfl)
end Zah
namespace Zcp
def sp:Spec:=mkSp ⟨[(0,.c (.sl u4))],[]⟩ ⟨[(0,.c (.slc u4))],[]⟩ g
noncomputable def T (ad:LQ):=mkF ad 92 [] sp [] t0 t0 t0 9 [] f (fun a=>1000+a.length) (by kernel_rfl)
end Zcp
namespace Zbj
def sp:Spec:=mkSp ⟨[(0,.c (.sl u4)),(1,.agg [ku,ki])],[]⟩ ⟨[(0,.c (.sl u4)),(1,Si)],[]⟩ g
noncomputable def T (ad:LQ):=mkF ad 46 [] sp [Zcp.T ad] t0 (fun n=>tl 2 ⟨[(0,.c (.sl u4)),(3,Sp 0 0),(8,.c (.sl u4)),(9,Si),(10,Si)],[(some 1,[ku,ki])]⟩ (fun _=>l2 n) <| tn) t0 28 [] f (fun a b c=>1000+a.length+b.toNat+c.toNat) (by kernel_rfl)
end Zbj
namespace Zce
def sp:Spec:=mkSp ⟨[(0,.agg c2),(1,Sp 0 0)],[(some 9,c3)]⟩ ⟨[(0,Si)],[(none,c3)]⟩ g
noncomputable def T (ad:LQ):=mkF ad 45 [] sp [Zah.T ad,Zbj.T ad] t0 t0 t0 40 [] f (fun a b c d e i _ k l o p q r s=>1000+a.length+b.toNat+c.toNat+d.toNat+e.toNat+i.toNat+k.length+l.length+o.length+p.length+q.length+r.toNat+s.toNat) (by kernel_rfl)
end Zce
namespace Zbu
def sp:Spec:=mkSp ⟨[(0,.c (.sl u2)),(1,.clo 45 [.ptr 0 0])],[(some 1,c3)]⟩ ⟨[(0,Si),(1,Si)],[(none,c3)]⟩ g
noncomputable def T (ad:LQ):=mkF ad 47 [45] sp [Zce.T ad] t0 (fun n=>tl 2 ⟨[(1,.clo 45 [.ptr 0 0]),(9,.c (.sl u2)),(10,Si),(11,Si)],[(none,c3)]⟩ (fun _=>l2 n) <| tn) t0 25 [] f (fun a b c d e i=>1000+a.length+b.length+c.length+d.length+e.toNat+i.toNat) (by kernel_rfl)
end Zbu
namespace Zag
def sp:Spec:=mkSp ⟨[(0,.c (.sl u2))],[]⟩ ⟨[(0,.agg c3),(1,Si),(2,Si)],[]⟩ g
noncomputable def T (ad:LQ):=mkF ad 16 [] sp [Zbt.T ad,Zbu.T ad] (fun n=>tj 7 ⟨[(0,.c (.sl u2)),(2,Sp 0 0),(3,Si),(4,Si),(13,.c (.clr 0 [44,45])),(14,Si),(15,Si)],[(some 1,c3)]⟩ (fun ms=>j7 n (l4 n ms.head!)) <| tn) (fun n=>tl 4 ⟨[(0,.c (.sl u2)),(2,Sp 0 0),(13,.c (.clr 0 [44,45])),(14,Si),(15,Si)],[(some 1,c3)]⟩ (fun _=>l4 n) <| tn) t0 44 [] f (fun a=>1000+a.length) (by kernel_rfl)
end Zag
namespace Zba
def sp:Spec:=mkSp ⟨[],[]⟩ ⟨[(0,SB)],[]⟩ g
noncomputable def T (ad:LQ):=mkF ad 15 [] sp [Zco.T ad,Zag.T ad] t0 t0 t0 53 [] f (1000:Nat) (by kernel_rfl)
end Zba
namespace Zan
def sp:Spec:=mkSp ⟨[(0,.c (.sl u2))],[]⟩ ⟨[(0,.c (.row 38 u2))],[]⟩ g
noncomputable def T (ad:LQ):=mkF ad 17 [] sp [] (fun n=>tj 15 ⟨[(0,.c (.sl u2)),(3,.c (.row 38 u2)),(4,Si),(5,Sp 0 0),(6,.c (.row 56 u1))],[(some 3,c2)]⟩ (fun ms=>j15 n (l3 n ms.head!)) <| tn) (fun n=>tl 10 ⟨[(0,.c (.sl u2)),(3,.c (.row 38 u2)),(4,Si),(5,Sp 0 0),(6,.c (.row 56 u1)),(7,Si)],[(some 3,c2)]⟩ (fun ms=>l10 n (l3 n ms.head!)) <| tl 3 ⟨[(0,.c (.sl u2)),(3,.c (.row 38 u2)),(4,Si)],[]⟩ (fun _=>l3 n) <| tn) t0 82 [] f (fun a=>1000+a.length) (by kernel_rfl)
end Zan
namespace Zas
def sp:Spec:=mkSp ⟨[(0,.c (.sl u3)),(1,Ss)],[]⟩ ⟨[(0,Si),(1,SB)],[]⟩ g
noncomputable def T (ad:LQ):=mkF ad 48 [] sp [] t0 (fun n=>tl 2 ⟨[(0,.c (.sl u3)),(1,Ss),(6,Si)],[]⟩ (fun _=>l2 n) <| tn) t0 25 [] f (fun a b=>1000+a.length+b.length) (by kernel_rfl)
end Zas
namespace Zbv
def sp:Spec:=mkSp ⟨[(0,.agg c0)],[]⟩ ⟨[(0,Si)],[]⟩ g
noncomputable def T (ad:LQ):=mkF ad 22 [] sp [] t0 t0 t0 11 [] f (fun a b c d e _ j k=>1000+a.toNat+b.toNat+c.toNat+d.toNat+e.toNat+j.length+k.length) (by kernel_rfl)
end Zbv
namespace Zbx
def sp:Spec:=mkSp ⟨[(0,Sb)],[]⟩ ⟨[(0,SB)],[]⟩ g
noncomputable def T (ad:LQ):=mkF ad 106 [] sp [] t0 t0 t0 17 [] f (fun a=>1000+a.toNat) (by kernel_rfl)
end Zbx
namespace Zbo
def sp:Spec:=mkSp ⟨[(0,Sb)],[]⟩ ⟨[(0,SB)],[]⟩ g
noncomputable def T (ad:LQ):=mkF ad 108 [] sp [] t0 t0 t0 9 [] f (fun a=>1000+a.toNat) (by kernel_rfl)
end Zbo
namespace Zcb
def sp:Spec:=mkSp ⟨[(0,Ss)],[]⟩ ⟨[(0,SB)],[]⟩ g
noncomputable def T (ad:LQ):=mkF ad 107 [] sp [Zbo.T ad] t0 t0 t0 29 [] f (fun a=>1000+a.length) (by kernel_rfl)
end Zcb
namespace Zar
def sp:Spec:=mkSp ⟨[(0,Ss)],[]⟩ ⟨[(0,SB)],[]⟩ g
noncomputable def T (ad:LQ):=mkF ad 65 [] sp [Zbx.T ad,Zcb.T ad,Zbo.T ad] (fun n=>tj 5 ⟨[(0,Ss),(3,Si)],[]⟩ (fun ms=>j5 n (l4 n ms.head!)) <| tn) (fun n=>tl 4 ⟨[(0,Ss),(3,Si)],[]⟩ (fun _=>l4 n) <| tn) t0 46 [] f (fun a=>1000+a.length) (by kernel_rfl)
end Zar
namespace Zbp
def sp:Spec:=mkSp ⟨[(0,Ss)],[]⟩ ⟨[(0,SB)],[]⟩ g
noncomputable def T (ad:LQ):=mkF ad 146 [] sp [Zar.T ad] (fun n=>tj 3 ⟨[(0,Ss)],[]⟩ (fun _=>j3 n) <| tn) t0 t0 17 [] f (fun a=>1000+a.length) (by kernel_rfl)
end Zbp
namespace Zcc
def sp:Spec:=mkSp ⟨[(0,.agg [ki,ku,.str])],[]⟩ ⟨[(0,Si)],[]⟩ g
noncomputable def T (ad:LQ):=mkF ad 140 [] sp [Zbp.T ad] t0 t0 t0 39 [] f (fun a b c=>1000+a.toNat+b.toNat+c.length) (by kernel_rfl)
end Zcc
namespace Zbh
def sp:Spec:=mkSp ⟨[(0,.c (.sl u1))],[]⟩ ⟨[(0,SB)],[]⟩ g
noncomputable def T (ad:LQ):=mkF ad 93 [] sp [Zcc.T ad] t0 (fun n=>tl 3 ⟨[(0,.c (.sl u1)),(3,Si),(4,Si)],[]⟩ (fun _=>l3 n) <| tn) t0 35 [] f (fun a=>1000+a.length) (by kernel_rfl)
end Zbh
namespace Zaj
def sp:Spec:=mkSp ⟨[(0,.c (.sl u1)),(1,.c (.sl u3))],[]⟩ ⟨[(0,.agg [ku,ki]),(1,Si)],[]⟩ g
noncomputable def T (ad:LQ):=mkF ad 49 [] sp [Zbh.T ad,Zas.T ad] (fun n=>tj 29 ⟨[(0,.c (.sl u1)),(1,.c (.sl u3)),(4,Sp 0 0),(6,.c (.row 45 u4)),(7,Si),(8,Si),(9,Sp 1 0)],[(some 2,[ku,ki]),(some 6,[ku,ki])]⟩ (fun ms=>j29 n (l5 n ms.head!)) <| tn) (fun n=>tl 5 ⟨[(0,.c (.sl u1)),(1,.c (.sl u3)),(4,Sp 0 0),(6,.c (.row 45 u4)),(7,Si)],[(some 2,[ku,ki])]⟩ (fun _=>l5 n) <| tn) t0 173 [] f (fun a b=>1000+a.length+b.length) (by kernel_rfl)
end Zaj
namespace Zbk
def sp:Spec:=mkSp ⟨[(0,.c (.sl u4)),(1,.agg [ku,ki])],[]⟩ ⟨[(0,.c (.sl u4)),(1,Si)],[]⟩ g
noncomputable def T (ad:LQ):=mkF ad 50 [] sp [] t0 (fun n=>tl 2 ⟨[(0,.c (.sl u4)),(3,Sp 0 0),(6,Si)],[(some 1,[ku,ki])]⟩ (fun _=>l2 n) <| tn) t0 29 [] f (fun a b c=>1000+a.length+b.toNat+c.toNat) (by kernel_rfl)
end Zbk
namespace Zae
def sp:Spec:=mkSp ⟨[(0,.c (.sl u2))],[]⟩ ⟨[(0,.agg c3),(1,Si),(2,Si)],[]⟩ g
noncomputable def T (ad:LQ):=mkF ad 18 [] sp [Zas.T ad,Zbv.T ad,Zaj.T ad,Zbk.T ad] (fun n=>tj 11 ⟨[(0,.c (.sl u2)),(2,Sp 0 0),(5,Sp 1 0),(6,Si)],[(some 1,c3),(some 2,c3)]⟩ (fun ms=>j11 n (l3 n ms.head!)) <| tj 14 ⟨[(0,.c (.sl u2)),(2,Sp 0 0),(5,Sp 1 0),(9,Si)],[(some 1,c3),(some 2,c3)]⟩ (fun ms=>j14 n (l13 n ms.head!)) <| tj 19 ⟨[(0,.c (.sl u2)),(2,Sp 0 0),(5,Sp 1 0),(9,Si),(10,Sp 2 0),(11,Si)],[(some 1,c3),(some 2,c3),(some 4,[ku,ki])]⟩ (fun ms=>j19 n (l13 n ms.head!)) <| tn) (fun n=>tl 13 ⟨[(0,.c (.sl u2)),(2,Sp 0 0),(5,Sp 1 0),(9,Si)],[(some 1,c3),(some 2,c3)]⟩ (fun _=>l13 n) <| tl 3 ⟨[(0,.c (.sl u2)),(2,Sp 0 0),(5,Sp 1 0),(6,Si)],[(some 1,c3),(some 2,c3)]⟩ (fun _=>l3 n) <| tn) t0 135 [] f (fun a=>1000+a.length) (by kernel_rfl)
end Zae
namespace Zal
def sp:Spec:=mkSp ⟨[(0,Ss)],[]⟩ ⟨[(0,Ss)],[]⟩ g
noncomputable def T (ad:LQ):=mkF ad 95 [] sp [] t0 (fun n=>tl 4 ⟨[(0,Ss),(3,Ss),(4,Ss),(5,Si)],[]⟩ (fun _=>l4 n) <| tn) t0 39 [] f (fun a=>1000+a.length) (by kernel_rfl)
end Zal
namespace Zaz
def sp:Spec:=mkSp ⟨[(0,Ss)],[]⟩ ⟨[(0,Ss)],[]⟩ g
noncomputable def T (ad:LQ):=mkF ad 53 [] sp [Zal.T ad] t0 t0 t0 17 [] f (fun a=>1000+a.length) (by kernel_rfl)
end Zaz
namespace Zac
def sp:Spec:=mkSp ⟨[(0,.c (.sl u1))],[]⟩ ⟨[(0,.c (.row 56 u1))],[]⟩ g
noncomputable def T (ad:LQ):=mkF ad 94 [] sp [Zaz.T ad] (fun n=>tj 18 ⟨[(0,.c (.sl u1)),(3,.c (.row 56 u1)),(4,Si),(5,Si),(6,Sp 0 0)],[(some 4,[ki,ku,.str])]⟩ (fun ms=>j18 n (l4 n ms.head!)) <| tj 9 ⟨[(0,.c (.sl u1)),(3,.c (.row 56 u1)),(4,Si),(5,Si),(6,Sp 0 0)],[(some 4,[ki,ku,.str])]⟩ (fun ms=>j9 n (l4 n ms.head!)) <| tj 19 ⟨[(3,.c (.row 56 u1)),(4,Si)],[]⟩ (fun _=>j19 n) <| tn) (fun n=>tl 21 ⟨[(3,.c (.row 56 u1)),(4,Si)],[]⟩ (fun _=>l21 n) <| tl 4 ⟨[(0,.c (.sl u1)),(3,.c (.row 56 u1)),(4,Si),(5,Si)],[]⟩ (fun _=>l4 n) <| tn) t0 97 [] f (fun a=>1000+a.length) (by kernel_rfl)
end Zac
namespace Zaf
def sp:Spec:=mkSp ⟨[(0,.agg c4)],[]⟩ ⟨[(0,.agg c4)],[]⟩ g
noncomputable def T (ad:LQ):=mkF ad 34 [] sp [] (fun n=>tj 25 ⟨[(2,Sp 0 0),(3,Sp 1 0)],[(some 0,c4),(some 1,c4)]⟩ (fun _=>j25 n) <| tj 10 ⟨[(1,Sp 0 0),(2,Sp 1 0),(3,Sp 2 0),(4,Si)],[(some 0,c4),(some 1,c4),(some 2,c4)]⟩ (fun _=>j10 n) <| tj 9 ⟨[(1,Sp 0 0),(2,Sp 1 0),(3,Sp 2 0),(4,Si)],[(some 0,c4),(some 1,c4),(some 2,c4)]⟩ (fun _=>j9 n) <| tj 7 ⟨[(1,Sp 0 0),(2,Sp 1 0),(3,Sp 2 0),(4,Si)],[(some 0,c4),(some 1,c4),(some 2,c4)]⟩ (fun _=>j7 n) <| tj 19 ⟨[(1,Sp 0 0),(2,Sp 1 0),(3,Sp 2 0)],[(some 0,c4),(some 1,c4),(some 2,c4)]⟩ (fun _=>j19 n) <| tn) t0 t0 111 [] f (fun a b c d e i _=>1000+a.toNat+b.toNat+c.toNat+d.toNat+e.toNat+i.toNat) (by kernel_rfl)
end Zaf
namespace Zau
def sp:Spec:=mkSp ⟨[(0,.agg c0)],[]⟩ ⟨[(0,.agg c0)],[]⟩ g
noncomputable def T (ad:LQ):=mkF ad 52 [] sp [Zac.T ad,Zaf.T ad,Zal.T ad] (fun n=>tj 8 ⟨[(2,Sp 0 0),(6,Sp 1 0)],[(some 0,c0),(some 1,c0)]⟩ (fun _=>j8 n) <| tj 9 ⟨[(1,Sp 0 0),(2,Sp 1 0),(3,Si),(4,.c (.row 56 u1))],[(some 0,c0),(some 1,c0)]⟩ (fun _=>j9 n) <| tn) t0 t0 88 [] f (fun a b c d e _ j k=>1000+a.toNat+b.toNat+c.toNat+d.toNat+e.toNat+j.length+k.length) (by kernel_rfl)
end Zau
namespace Zak
def sp:Spec:=mkSp ⟨[(0,.c (.sl u2))],[]⟩ ⟨[(0,.c (.row 38 u2))],[]⟩ g
noncomputable def T (ad:LQ):=mkF ad 20 [] sp [Zau.T ad,Zaz.T ad] (fun n=>tj 8 ⟨[(0,.c (.sl u2)),(3,.c (.row 38 u2)),(4,Si),(5,Sp 0 0)],[(some 3,c2)]⟩ (fun ms=>j8 n (l3 n ms.head!)) <| tn) (fun n=>tl 3 ⟨[(0,.c (.sl u2)),(3,.c (.row 38 u2)),(4,Si)],[]⟩ (fun _=>l3 n) <| tn) t0 51 [] f (fun a=>1000+a.length) (by kernel_rfl)
end Zak
namespace Zao
def sp:Spec:=mkSp ⟨[(0,.c (.sl u1)),(1,.c (.sl u3))],[]⟩ ⟨[(0,.c (.row 56 u1))],[]⟩ g
noncomputable def T (ad:LQ):=mkF ad 51 [] sp [Zac.T ad] (fun n=>tj 4 ⟨[(1,.c (.sl u3)),(5,.c (.row 56 u1)),(6,Si)],[]⟩ (fun ms=>j4 n (l3 n ms.head!)) <| tn) (fun n=>tl 3 ⟨[(1,.c (.sl u3)),(5,.c (.row 56 u1)),(6,Si)],[]⟩ (fun _=>l3 n) <| tn) t0 55 [] f (fun a b=>1000+a.length+b.length) (by kernel_rfl)
end Zao
namespace Zaa
def sp:Spec:=mkSp ⟨[(0,.c (.sl u2))],[]⟩ ⟨[(0,.c (.row 38 u2))],[]⟩ g
noncomputable def T (ad:LQ):=mkF ad 19 [] sp [Zas.T ad,Zao.T ad] (fun n=>tj 12 ⟨[(0,.c (.sl u2)),(3,.c (.row 38 u2)),(4,.c (.row 52 u3)),(5,Si),(6,Sp 0 0)],[(some 4,c2)]⟩ (fun ms=>j12 n (l4 n ms.head!)) <| tj 10 ⟨[(0,.c (.sl u2)),(3,.c (.row 38 u2)),(4,.c (.row 52 u3)),(5,Si),(6,Sp 0 0)],[(some 4,c2)]⟩ (fun ms=>j10 n (l4 n ms.head!)) <| tj 31 ⟨[(3,.c (.row 38 u2)),(4,.c (.row 52 u3)),(9,Si),(10,Sp 0 0),(14,Si)],[(some 3,c0)]⟩ (fun ms=>j31 n (l14 n ms.tail.head!) (l30 n (l14 n ms.tail.head!) ms.head!)) <| tj 36 ⟨[(3,.c (.row 38 u2)),(4,.c (.row 52 u3)),(9,Si),(10,Sp 0 0)],[(some 3,c0)]⟩ (fun ms=>j36 n (l14 n ms.head!)) <| tj 27 ⟨[(3,.c (.row 38 u2)),(4,.c (.row 52 u3)),(9,Si),(10,Sp 0 0)],[(some 3,c0)]⟩ (fun ms=>j27 n (l14 n ms.head!)) <| tj 26 ⟨[(3,.c (.row 38 u2)),(4,.c (.row 52 u3)),(9,Si),(10,Sp 0 0),(11,.c (.row 56 u1))],[(some 3,c0)]⟩ (fun ms=>j26 n (l14 n ms.head!)) <| tj 24 ⟨[(3,.c (.row 38 u2)),(4,.c (.row 52 u3)),(9,Si),(10,Sp 0 0),(11,.c (.row 56 u1)),(13,SB)],[(some 3,c0)]⟩ (fun ms=>j24 n (l14 n ms.head!)) <| tj 13 ⟨[(3,.c (.row 38 u2)),(4,.c (.row 52 u3))],[]⟩ (fun _=>j13 n) <| tn) (fun n=>tl 30 ⟨[(3,.c (.row 38 u2)),(4,.c (.row 52 u3)),(9,Si),(10,Sp 0 0),(14,Si)],[(some 3,c0)]⟩ (fun ms=>l30 n (l14 n ms.head!)) <| tl 20 ⟨[(3,.c (.row 38 u2)),(4,.c (.row 52 u3)),(9,Si),(10,Sp 0 0),(11,.c (.row 56 u1)),(12,Si)],[(some 3,c0)]⟩ (fun ms=>l20 n (l14 n ms.head!)) <| tl 14 ⟨[(3,.c (.row 38 u2)),(4,.c (.row 52 u3)),(9,Si)],[]⟩ (fun _=>l14 n) <| tl 4 ⟨[(0,.c (.sl u2)),(3,.c (.row 38 u2)),(4,.c (.row 52 u3)),(5,Si)],[]⟩ (fun _=>l4 n) <| tn) t0 164 [] f (fun a=>1000+a.length) (by kernel_rfl)
end Zaa
namespace Zbl
def sp:Spec:=mkSp ⟨[(0,.c (.sl (.int .i64))),(1,.c (.sl (.int .i64)))],[]⟩ ⟨[(0,SB)],[]⟩ g
noncomputable def T (ad:LQ):=mkF ad 54 [] sp [] t0 (fun n=>tl 4 ⟨[(0,.c (.sl (.int .i64))),(1,.c (.sl (.int .i64))),(5,Si)],[]⟩ (fun _=>l4 n) <| tn) t0 26 [] f (fun a b=>1000+a.length+b.length) (by kernel_rfl)
end Zbl
namespace Zbm
def sp:Spec:=mkSp ⟨[(0,.c (.sl u4)),(1,.c (.sl u4))],[]⟩ ⟨[(0,SB)],[]⟩ g
noncomputable def T (ad:LQ):=mkF ad 55 [] sp [] t0 (fun n=>tl 4 ⟨[(0,.c (.sl u4)),(1,.c (.sl u4)),(5,Si)],[]⟩ (fun _=>l4 n) <| tn) t0 26 [] f (fun a b=>1000+a.length+b.length) (by kernel_rfl)
end Zbm
namespace Zbe
def sp:Spec:=mkSp ⟨[(0,.agg c5),(1,.agg c5)],[]⟩ ⟨[(0,SB)],[]⟩ g
noncomputable def T (ad:LQ):=mkF ad 23 [] sp [Zbl.T ad,Zbm.T ad] t0 (fun n=>tl 4 ⟨[(2,Sp 0 0),(3,Sp 1 0),(5,Si)],[(some 0,c5),(some 1,c5)]⟩ (fun _=>l4 n) <| tn) t0 57 [] f (fun a b c d e i j k l o=>1000+a.length+b.length+c.length+d.toNat+e.toNat+i.length+j.length+k.length+l.toNat+o.toNat) (by kernel_rfl)
end Zbe
namespace rivetlaw20_LayoutAll
def sp:Spec:=mkSp ⟨[(0,.c (.sl u2))],[]⟩ ⟨[(0,SB)],[]⟩ g
noncomputable def T (ad:LQ):=mkF ad 3 [] sp [Zba.T ad,Zan.T ad,Zag.T ad,Zae.T ad,Zak.T ad,Zaa.T ad,Zbi.T ad,Zbv.T ad,Zbe.T ad] t0 (fun n=>tl 8 ⟨[(3,SB),(4,Sp 0 0),(5,Si),(6,Si),(7,Sp 1 0),(8,Si),(9,Si),(10,.c (.sl u2)),(11,Sp 2 0),(12,Si),(13,Si),(14,Sp 3 0),(15,Si),(16,Si),(17,Si)],[(some 1,c3),(some 4,c3),(some 8,c3),(some 11,c3)]⟩ (fun _=>l8 n) <| tn) t0 98 [] f (fun a=>1000+a.length) (by kernel_rfl)
end rivetlaw20_LayoutAll
namespace rivetlaw20_LayoutPlaces
def sp:Spec:=mkSp ⟨[(0,.c (.sl u2))],[]⟩ ⟨[(0,SB)],[]⟩ g
noncomputable def T (ad:LQ):=mkF ad 4 [] sp [Zba.T ad,Zak.T ad,Zaa.T ad,Zag.T ad,Zbg.T ad,Zbi.T ad,Zah.T ad] (fun n=>tj 12 ⟨[(4,.c (.sl u2)),(5,Sp 0 0),(6,Si),(8,Si),(9,Si),(10,Si)],[(some 1,c3)]⟩ (fun ms=>j12 n (l11 n ms.head!)) <| tj 26 ⟨[(4,.c (.sl u2)),(5,Sp 0 0),(6,Si),(8,Si),(9,Si),(10,Si),(13,Sp 1 0),(14,Si),(15,Si),(16,Si)],[(some 1,c3),(some 6,[ku,ki])]⟩ (fun ms=>j26 n (l11 n ms.tail.head!) (l25 n (l11 n ms.tail.head!) ms.head!)) <| tj 19 ⟨[(4,.c (.sl u2)),(5,Sp 0 0),(6,Si),(8,Si),(9,Si),(10,Si)],[(some 1,c3)]⟩ (fun ms=>j19 n (l11 n ms.head!)) <| tn) (fun n=>tl 25 ⟨[(4,.c (.sl u2)),(5,Sp 0 0),(6,Si),(8,Si),(9,Si),(10,Si),(13,Sp 1 0),(14,Si),(15,Si),(16,Si)],[(some 1,c3),(some 6,[ku,ki])]⟩ (fun ms=>l25 n (l11 n ms.head!)) <| tl 11 ⟨[(4,.c (.sl u2)),(5,Sp 0 0),(6,Si),(8,Si),(9,Si),(10,Si)],[(some 1,c3)]⟩ (fun _=>l11 n) <| tn) t0 200 [] f (fun a=>1000+a.length) (by kernel_rfl)
end rivetlaw20_LayoutPlaces
namespace rivetlaw20_LayoutTwice
def sp:Spec:=mkSp ⟨[(0,.c (.sl u2)),(1,.agg [kb,kb,kb])],[]⟩ ⟨[(0,SB)],[]⟩ g
noncomputable def T (ad:LQ):=mkF ad 5 [] sp [Zba.T ad,Zak.T ad,Zaa.T ad,Zag.T ad] t0 (fun n=>tl 12 ⟨[(5,SB),(8,Si),(10,Sp 0 0),(11,Si),(12,Si),(13,Si),(14,.c (.row 38 u2)),(15,Si)],[(some 2,c3)]⟩ (fun _=>l12 n) <| tn) t0 148 [] f (fun a _ _ _=>3000+a.length) (by kernel_rfl)
end rivetlaw20_LayoutTwice
namespace rivetlaw20_LayoutMoves
def sp:Spec:=mkSp ⟨[(0,.c (.sl u2)),(1,.agg [kb,kb])],[]⟩ ⟨[(0,SB)],[]⟩ g
noncomputable def T (ad:LQ):=mkF ad 6 [] sp [Zba.T ad,Zak.T ad,Zaa.T ad,Zag.T ad] t0 (fun n=>tl 26 ⟨[(8,Si),(12,Sp 0 0),(15,Sp 1 0),(19,Si)],[(some 1,c3),(some 2,c3)]⟩ (fun _=>l26 n) <| tl 21 ⟨[(8,Si),(10,Si),(12,Sp 0 0),(15,Sp 1 0),(18,Si)],[(some 2,c3),(some 3,c3)]⟩ (fun _=>l21 n) <| tl 11 ⟨[(5,SB),(6,.c (.row 38 u2)),(7,.c (.row 38 u2)),(8,Si),(10,Si),(11,Si)],[]⟩ (fun _=>l11 n) <| tl 6 ⟨[(3,Sp 0 0),(5,SB),(6,.c (.row 38 u2)),(7,.c (.row 38 u2)),(8,Si),(9,Si)],[(some 0,[kb,kb])]⟩ (fun _=>l6 n) <| tn) t0 211 [] f (fun a b c=>1000+a.length+b.toNat+c.toNat) (by kernel_rfl)
end rivetlaw20_LayoutMoves
namespace rivetlaw20_LayoutPools
def sp:Spec:=mkSp ⟨[(0,.c (.sl u2)),(1,Sb),(2,.agg [ku,ku])],[]⟩ ⟨[(0,SB)],[]⟩ g
noncomputable def T (ad:LQ):=mkF ad 7 [] sp [Zba.T ad,Zak.T ad,Zaa.T ad,Zag.T ad] (fun n=>tj 6 ⟨[(1,Sb),(5,Sp 0 0),(7,SB),(8,.c (.row 38 u2)),(9,.c (.row 38 u2)),(10,Si)],[(some 1,[ku,ku])]⟩ (fun ms=>j6 n (l5 n ms.head!)) <| tn) (fun n=>tl 10 ⟨[(1,Sb),(5,Sp 0 0),(7,SB),(9,.c (.row 38 u2)),(11,Si)],[(some 1,[ku,ku])]⟩ (fun _=>l10 n) <| tl 5 ⟨[(1,Sb),(5,Sp 0 0),(7,SB),(8,.c (.row 38 u2)),(9,.c (.row 38 u2)),(10,Si)],[(some 1,[ku,ku])]⟩ (fun _=>l5 n) <| tn) t0 164 [] f (fun a b c d=>1000+a.length+b.toNat+c.toNat+d.toNat) (by kernel_rfl)
end rivetlaw20_LayoutPools
theorem rivetlaw20_LayoutAll.sat:Sat P (LW ad) 3 rivetlaw20_LayoutAll.sp:=(rivetlaw20_LayoutAll.T ad).sat
theorem rivetlaw20_LayoutPlaces.sat:Sat P (LW ad) 4 rivetlaw20_LayoutPlaces.sp:=(rivetlaw20_LayoutPlaces.T ad).sat
theorem rivetlaw20_LayoutTwice.sat:Sat P (LW ad) 5 rivetlaw20_LayoutTwice.sp:=(rivetlaw20_LayoutTwice.T ad).sat
theorem rivetlaw20_LayoutMoves.sat:Sat P (LW ad) 6 rivetlaw20_LayoutMoves.sp:=(rivetlaw20_LayoutMoves.T ad).sat
theorem rivetlaw20_LayoutPools.sat:Sat P (LW ad) 7 rivetlaw20_LayoutPools.sp:=(rivetlaw20_LayoutPools.T ad).sat
end
end Rv
namespace Rv
open Go
theorem w64 {x:Int} (h:-9223372036854775808≤x∧x≤9223372036854775807):IntKind.i64.wrap x=x:=IntWalk.i64_in _ h
theorem w8u {x:Int} (h:0≤x∧x≤255):IntKind.u8.wrap x=x:=IntWalk.u8_in _ h
theorem dt {p:Prop} [Decidable p]:(decide p=true)=p:=by simp
theorem df {p:Prop} [Decidable p]:(decide p=false)=¬ p:=by simp
theorem bt_nat (s:Str) (k:Nat):bt s (k:Int)=((s.getD k 0).toNat:Int):=rfl
theorem byte_lt (b:UInt8):(b.toNat:Int) < 256:=by have:=b.toNat_lt; omega
theorem drop_cons {s:Str} {k:Nat} (h:k < s.length):s.drop k=s.getD k 0::s.drop (k+1):=by
 rw [List.drop_eq_getElem_cons h]
 congr 1
 simp [List.getD,h]
theorem byte_is (b:UInt8) (n:Nat) (hn:n < 256):((b.toNat:Int)=(n:Int))=(b=UInt8.ofNat n):=by
 apply propext
 constructor
 ·intro h
  apply UInt8.toNat_inj.1
  rw [UInt8.toNat_ofNat',Nat.mod_eq_of_lt hn]
  omega
 ·intro h
  rw [h,UInt8.toNat_ofNat',Nat.mod_eq_of_lt hn]
theorem wfU8 {n:Int} (h:(Lit.int .u8 n).wf=true):0≤n∧n≤255:=by
 simp [Lit.wf,IntKind.min,IntKind.max,IntKind.signed,IntKind.bits] at h; omega
theorem wfU32 {n:Int} (h:(Lit.int .u32 n).wf=true):0≤n∧n≤4294967295:=by
 simp [Lit.wf,IntKind.min,IntKind.max,IntKind.signed,IntKind.bits] at h; omega
theorem wfLen {n:Nat} (h:n≤maxLen):n≤9223372036854775807:=by unfold maxLen at h; omega
end Rv
namespace Rv
open Go
def isL (b:UInt8):Bool:=decide (65≤b.toNat∧b.toNat≤90∨97≤b.toNat∧b.toNat≤122∨b.toNat=95)
def isD (b:UInt8):Bool:=decide (48≤b.toNat∧b.toNat≤57)
def isW (b:UInt8):Bool:=isL b || isD b
theorem some_tt {p:Prop} [Decidable p] (h:p):some (true,())=some (decide p,()):=by simp [h]
theorem some_ff {p:Prop} [Decidable p] (h:¬ p):some (false,())=some (decide p,()):=by simp [h]
theorem some_pq {p q:Prop} [Decidable p] [Decidable q] (h:p↔q):some (decide p,())=some (decide q,()):=by simp [h]
def digOf (b:UInt8):Option Nat:=
 if 48≤b.toNat∧b.toNat≤57 then some (b.toNat - 48) else if 97≤b.toNat∧b.toNat≤122 then some (b.toNat - 87) else if 65≤b.toNat∧b.toNat≤90 then some (b.toNat - 55) else none
def numFrom (base:Nat):Nat→Str→Option Nat
 | n,[]=>some n
 | n,c::r=>match digOf c with
  | some d=>if d < base then (if n * base+d < 4294967296 then numFrom base (n * base+d) r else none) else none
  | none=>none
def num (s:Str):Option Nat:=
 if ([48,120]:Str).isPrefixOf s then (if s.drop 2=[] then none else numFrom 16 0 (s.drop 2)) else if s=[] then none else numFrom 10 0 s
abbrev Tok:=Int×Int×Str×Int×Unit
end Rv
namespace Rv
open Go
def shift (j:Int) (t:Tok):Tok:=(t.1,t.2.1+j,t.2.2)
end Rv
namespace Rv
open Go
end Rv
namespace Rv
open Go
theorem fit_byte:((List.range 12).all fun k=>isW ((([97,98,99,88,89,90,95,48,49,57,82,109]:Str).take (k+1)).drop k).head! && decide (((([97,98,99,88,89,90,95,48,49,57,82,109]:Str).take (k+1)).drop k).length=1))=true:=by decide +kernel
theorem fit07_loop2 {Q:UInt8→Prop} (s:Str) (hs:s.length≤9223372036854775807) (n:Nat):∀ (m i:Nat) (out:Str),i≤s.length→6 - i < m→i≤6→out.length=i+1→(∃ c r,out=c::r∧Q c)→out.all isW=true →
  ∃ r,Zal.l4 n m s ([97,98,99,88,89,90,95,48,49,57,82,109]:Str) out (i:Int)=some (r,())∧(∃ c t,r=c::t∧Q c)∧r.all isW=true∧r.length≤7∧r.length≤s.length+1:=by
 intro m
 induction m with
 | zero=>intro i out _ h; omega
 | succ m ih=>
  intro i out hi hm h6 hl hh ha
  simp only [Zal.l4,dt]
  by_cases h1:i < s.length
  ·rw [if_pos (by omega)]
   by_cases h2:i < 6
   ·rw [if_pos (by omega),if_pos (by omega),if_pos (by omega),bt_nat]
    have hb:=byte_lt (s.getD i 0)
    generalize s.getD i 0=b at *
    have e0:Int.tmod (IntKind.i64.wrap (b.toNat:Int)) 12=((b.toNat % 12:Nat):Int):=by
     rw [w64 (by omega)]
     have:Int.tmod (b.toNat:Int) 12=(b.toNat:Int) % 12:=Int.tmod_eq_emod_of_nonneg (by omega)
     rw [this]; omega
    rw [e0]
    have hk:b.toNat % 12 < 12:=Nat.mod_lt _ (by omega)
    generalize b.toNat % 12=k at *
    rw [w64 (x:=(k:Int)+1) (by omega),w64 (x:=(i:Int)+1) (by omega),show (k:Int)+1=((k+1:Nat):Int) by omega,show (i:Int)+1=((i+1:Nat):Int) by omega,Int.toNat_natCast,Int.toNat_natCast]
    have hf:=List.all_eq_true.1 fit_byte k (by simpa using hk)
    simp only [Bool.and_eq_true,decide_eq_true_eq] at hf
    obtain ⟨f1,f2⟩:=hf
    generalize ((([97,98,99,88,89,90,95,48,49,57,82,109]:Str).take (k+1)).drop k)=w at *
    obtain ⟨c,rfl⟩:∃ c,w=[c]:=by
     match w,f2 with
     | [c],_=>exact ⟨c,rfl⟩
    rw [if_pos ⟨by omega,by simp only [List.length_cons,List.length_nil]; omega⟩,if_pos ⟨by omega,by omega⟩,if_pos (by simp; omega)]
    refine ih (i+1) (out++[c]) (by omega) (by omega) (by omega) (by simp; omega) ?_ ?_
    ·obtain ⟨a,r,rfl,h⟩:=hh
     exact ⟨a,r++[c],rfl,h⟩
    ·have f1:isW c=true:=f1
     rw [List.all_append,ha,List.all_cons,f1]; rfl
   ·rw [if_neg (by omega)]
    exact ⟨out,rfl,hh,ha,by omega,by omega⟩
  ·rw [if_neg (by omega)]
   exact ⟨out,rfl,hh,ha,by omega,by omega⟩
theorem fit07_loop {Q:UInt8→Prop} (s:Str) (hs:s.length≤9223372036854775807) (n m i:Nat) (out:Str) (h1:i≤s.length) (h2:6 - i < m) (h3:i≤6) (h4:out.length=i+1) (h5:∃ c r,out=c::r∧Q c) (h6:out.all isW=true) :
  ∃ r,Zal.l4 n m s ([97,98,99,88,89,90,95,48,49,57,82,109]:Str) out (i:Int)=some (r,())∧(∃ c t,r=c::t∧Q c)∧r.all isW=true∧r.length≤7:=by
 obtain ⟨r,g1,g2,g3,g4,_⟩:=fit07_loop2 s hs n m i out h1 h2 h3 h4 h5 h6
 exact ⟨r,g1,g2,g3,g4⟩
def isH (c:UInt8):Prop:=isL c=true∧c≠82∧isD c=false
theorem fit07_eq' (s:Str) (hs:s.length≤9223372036854775807):∃ r,Zal.g s=some (r,())∧(∃ c t,r=c::t∧isH c∧(s.length≤6→c≠122))∧r.all isW=true∧r.length≤7:=by
 unfold Zal.g Zal.f
 have e1:Int.tmod (s.length:Int) 26=((s.length % 26:Nat):Int):=by
  have:Int.tmod (s.length:Int) 26=(s.length:Int) % 26:=Int.tmod_eq_emod_of_nonneg (by omega)
  rw [this]; omega
 have hk:s.length % 26 < 26:=Nat.mod_lt _ (by omega)
 rw [e1]
 have e2:IntKind.u8.wrap (97+IntKind.u8.wrap ((s.length % 26:Nat):Int))=((97+s.length % 26:Nat):Int):=by
  rw [w8u (x:=((s.length % 26:Nat):Int)) (by omega),w8u (by omega)]; omega
 rw [e2]
 have hb:bytesOf [((97+s.length % 26:Nat):Int)]=[UInt8.ofNat (97+s.length % 26)]:=rfl
 rw [hb]
 have hn:(UInt8.ofNat (97+s.length % 26)).toNat=97+s.length % 26:=by rw [UInt8.toNat_ofNat',Nat.mod_eq_of_lt (by omega)]
 have hL:isL (UInt8.ofNat (97+s.length % 26))=true:=by unfold isL; rw [hn]; simp; omega
 have hne:UInt8.ofNat (97+s.length % 26)≠82:=fun e=>by have:=congrArg UInt8.toNat e; rw [hn] at this; simp at this; omega
 have hD:isD (UInt8.ofNat (97+s.length % 26))=false:=by unfold isD; rw [hn,decide_eq_false_iff_not]; omega
 have hz:s.length≤6→UInt8.ofNat (97+s.length % 26)≠122:=fun h6 e=>by have:=congrArg UInt8.toNat e; rw [hn] at this; simp at this; omega
 exact fit07_loop (Q:=fun c=>isH c∧(s.length≤6→c≠122)) s hs (1000+s.length) (1000+s.length) 0 _ (by omega) (by omega) (by omega) rfl ⟨_,_,rfl,⟨hL,hne,hD⟩,hz⟩ (by rw [List.all_cons,isW,hL]; rfl)
end Rv
namespace Rv
open Go
def regLike (s:Str):Bool:=decide (s.getD 0 0=82) && (decide (s.length=2) || decide (s.length=3)) && (s.drop 1).all isD
def labelOk (s:Str):Bool:=decide (s≠[]) && decide (s.length≤12) && !isD (s.getD 0 0) && s.all isW && !regLike s
def labT (b:Int):Bool:=
 if bitsI .or .u8 b 32 < 97∨122 < bitsI .or .u8 b 32∨b < 65 then decide (b=95) || (!decide (b < 48) && !decide (57 < b)) else true
theorem labT_all:((List.range 256).all fun k=>labT k == isW (UInt8.ofNat k))=true:=by decide +kernel
theorem labT_eq (b:UInt8):labT b.toNat=isW b:=by
 have h:=List.all_eq_true.1 labT_all b.toNat (by simp; exact b.toNat_lt)
 simpa using h
theorem propTF (p:Prop):p=True∨p=False:=(Classical.em p).imp eq_true eq_false
theorem label_step (s:Str) (n m:Nat) (i:Nat) (h1:i < s.length) (X:Option (Bool×Unit)) (hX:Zad.j9 n (Zad.l4 n m) s (s.length:Int) (i:Int)=X) :
  Zad.l4 n (m+1) s (s.length:Int) (i:Int)=if labT (bt s i)=true then X else some (false,()):=by
 have hc:(0:Int)≤i∧(i:Int) < s.length:=by omega
 have hc2:(i:Int) < s.length:=hc.2
 simp only [Zad.l4,dt,df,hX,labT]
 by_cases a1:bitsI .or .u8 (bt s i) 32 < 97 <;> by_cases a2:122 < bitsI .or .u8 (bt s i) 32 <;> by_cases a3:bt s i < 65 <;> rcases propTF (bt s i=95) with a4 | a4 <;> by_cases a5:bt s i < 48 <;> by_cases a6:57 < bt s i <;>
  simp only [hc,hc2,a1,a2,a3,a4,a5,a6,if_true,if_false,not_true_eq_false,not_false_eq_true,ne_eq,true_or,or_true,or_false,false_or,or_self,and_self,true_and,decide_true,decide_false,Bool.true_or,Bool.false_or,Bool.not_true,Bool.not_false,Bool.and_true,Bool.and_false,Bool.false_and,Bool.true_and,Bool.or_self,Bool.or_false,Bool.or_true,Bool.false_eq_true]
theorem label_loop (s:Str) (hs:s.length≤12) (n:Nat):∀ (m i:Nat),i≤s.length→s.length - i < m →
  Zad.l4 n m s (s.length:Int) (i:Int)=if (s.drop i).all isW=true then Zad.l4 n 1 s (s.length:Int) (s.length:Int) else some (false,()):=by
 intro m
 induction m with
 | zero=>intro i _ h; omega
 | succ m ih=>
  intro i hi hm
  by_cases h1:i < s.length
  ·have hnext:Zad.j9 n (Zad.l4 n m) s (s.length:Int) (i:Int)=if (s.drop (i+1)).all isW=true then Zad.l4 n 1 s (s.length:Int) (s.length:Int) else some (false,()):=by
    unfold Zad.j9
    rw [w64 (by omega),show (i:Int)+1=((i+1:Nat):Int) by omega]
    exact ih (i+1) (by omega) (by omega)
   rw [label_step s n m i h1 _ hnext,bt_nat,labT_eq,drop_cons h1,List.all_cons]
   cases hw:isW (s.getD i 0)
   ·rfl
   ·rw [if_pos rfl,Bool.true_and]
  ·have hi':i=s.length:=by omega
   subst hi'
   rw [List.drop_length,List.all_nil,if_pos rfl]
   have hlt:¬ ((s.length:Int) < s.length):=by omega
   simp only [Zad.l4,dt,hlt,if_false]
theorem dig_eq (b:UInt8):L.isDig b=isD b:=by simp [L.isDig,isD]
theorem dropWhile_head {p:UInt8→Bool}:∀ {l:Str} {a:UInt8} {r:Str},l.dropWhile p=a::r→p a=false
 | [],_,_,h=>by simp at h
 | b::l,a,r,h=>by
  rw [List.dropWhile_cons] at h
  cases hb:p b
  ·rw [hb] at h
   simp only [Bool.false_eq_true,if_false,List.cons.injEq] at h
   rw [← h.1]; exact hb
  ·rw [hb] at h
   exact dropWhile_head (l:=l) (by simpa using h)
theorem trim_nil (s:Str):(L.trimDig s=[])=(s.all isD=true):=by
 have gen:∀ l:Str,(l.dropWhile L.isDig=[])↔l.all isD=true:=fun l=>by
  induction l with
  | nil=>simp
  | cons a l ih=>
   simp only [List.dropWhile_cons,List.all_cons,dig_eq]
   cases h:isD a
   ·simp
   ·simp [ih]
 unfold L.trimDig
 apply propext
 rw [gen]
 constructor
 ·intro h
  have h0:(s.reverse.dropWhile L.isDig)=[]:=by
   cases hr:s.reverse.dropWhile L.isDig with
   | nil=>rfl
   | cons a r=>
    exfalso
    rw [hr] at h
    have ha:isD a=true:=List.all_eq_true.1 h a (by simp)
    rw [← dig_eq,dropWhile_head hr] at ha
    cases ha
  rw [gen] at h0
  simpa using h0
 ·intro h
  have h0:s.reverse.dropWhile L.isDig=[]:=(gen _).2 (by simpa using h)
  rw [h0]; rfl
theorem label_eq (s:Str):Zad.g s=some (labelOk s,()):=by
 unfold Zad.g Zad.f
 simp only [dt,df]
 by_cases h0:s=[]
 ·subst h0; rw [if_neg (by simp)]; rfl
 ·rw [if_pos h0]
  have hl0:0 < s.length:=List.length_pos_iff.2 h0
  by_cases h12:s.length≤12
  ·rw [if_pos (by omega),if_pos (by omega)]
   have hj:¬ isD (s.getD 0 0)=true→Zad.j3 (1000+s.length) s=some (labelOk s,()):=fun hd=>by
    unfold Zad.j3
    have:=label_loop s h12 (1000+s.length) (1000+s.length) 0 (by omega) (by omega)
    rw [List.drop_zero] at this
    rw [show ((0:Nat):Int)=0 from rfl] at this
    rw [this]
    by_cases hw:s.all isW=true
    ·rw [if_pos hw]
     simp only [Zad.l4,dt,df,bt_nat]
     rw [if_neg (by omega),if_pos (by omega)]
     have hbt:bt s 0=((s.getD 0 0).toNat:Int):=rfl
     simp only [hbt]
     have h82:(((s.getD 0 0).toNat:Int)=82)=(s.getD 0 0=82):=byte_is _ 82 (by omega)
     simp only [h82]
     have htake:(s.take (s.length:Int).toNat).drop (1:Int).toNat=s.drop 1:=by
      rw [show (s.length:Int).toNat=s.length by omega,List.take_length]; rfl
     have htrim:s.length≤3→L.trimO ((s.take (s.length:Int).toNat).drop (1:Int).toNat) [48,49,50,51,52,53,54,55,56,57]=some (L.trimDig (s.drop 1),()):=fun h=>by
      rw [htake]
      unfold L.trimO
      rw [if_pos ⟨rfl,by simp; omega⟩]
     have hL:labelOk s=!regLike s:=by
      unfold labelOk
      rw [decide_eq_true (show s≠[] from h0),decide_eq_true h12,show isD (s.getD 0 0)=false by simpa using hd,hw]
      rfl
     have hT:decide (L.trimDig (s.drop 1)=[])=(s.drop 1).all isD:=by
      rw [Bool.eq_iff_iff,decide_eq_true_eq,trim_nil]
     rw [hL]
     unfold regLike
     by_cases hR:s.getD 0 0=82
     ·rw [if_pos hR,decide_eq_true hR]
      by_cases h2:s.length=2
      ·rw [if_neg (by omega),if_pos (by omega),htrim (by omega),Option.bind_some,decide_eq_true h2]
       dsimp only
       rw [hT]; rfl
      ·rw [if_pos (by omega),decide_eq_false h2]
       by_cases h3:s.length=3
       ·rw [if_pos (by omega),if_pos (by omega),htrim (by omega),Option.bind_some,decide_eq_true h3]
        dsimp only
        rw [hT]; rfl
       ·rw [if_neg (by omega),decide_eq_false h3]; rfl
     ·rw [if_neg hR,decide_eq_false hR]; rfl
    ·rw [if_neg hw]
     simp [labelOk,hw]
   have hbt:bt s 0=((s.getD 0 0).toNat:Int):=rfl
   simp only [hbt]
   by_cases h48:(48:Int)≤(s.getD 0 0).toNat
   ·rw [if_pos h48,if_pos (by omega)]
    by_cases h57:((s.getD 0 0).toNat:Int)≤57
    ·rw [if_pos h57]
     have hd:isD (s.getD 0 0)=true:=by unfold isD; rw [decide_eq_true_eq]; omega
     unfold labelOk
     rw [hd,decide_eq_true (show s≠[] from h0),decide_eq_true h12]; rfl
    ·rw [if_neg h57]
     exact hj (by unfold isD; rw [decide_eq_true_eq]; omega)
   ·rw [if_neg h48]
    exact hj (by unfold isD; rw [decide_eq_true_eq]; omega)
  ·rw [if_neg (by omega)]
   simp [labelOk,h12]
end Rv
namespace Rv
open Go
abbrev Item:=Int×Int×Str×Unit
def needsR (x:Item):Int×Bool:=
 if x.1=1 then (0,decide (x.2.2.1=[]))
 else if x.1=2 then (0,decide (x.2.1=0) && labelOk x.2.2.1)
 else if x.1=3 then (1,decide (x.2.1=0) && decide (x.2.2.1=[]))
 else if x.1=4∨x.1=5∨x.1=6 then (2,decide (x.2.1=0) && decide (x.2.2.1=[]))
 else (0,false)
theorem needs_eq (a b:Int) (c:Str):Zbn.g a b c=some ((needsR (a,b,c,())).1,(needsR (a,b,c,())).2,()):=by
 unfold Zbn.g Zbn.f
 simp only [Zbn.j2,dt,label_eq,Option.bind_some]
 unfold needsR
 dsimp only
 rcases propTF (b=0) with hb | hb
 all_goals
  by_cases h1:a=1
  ·subst h1; simp only [hb,if_true,if_false,decide_true,decide_false]
  by_cases h2:a=2
  ·subst h2; simp only [hb,if_true,if_false,decide_true,decide_false,Bool.true_and,Bool.false_and,show ¬ ((2:Int)=1) by decide]
  by_cases h3:a=3
  ·subst h3; simp only [hb,if_true,if_false,decide_true,decide_false,Bool.true_and,Bool.false_and,show ¬ ((3:Int)=1) by decide,show ¬ ((3:Int)=2) by decide]
  by_cases h4:a=4
  ·subst h4; simp only [hb,if_true,if_false,decide_true,decide_false,Bool.true_and,Bool.false_and,true_or,show ¬ ((4:Int)=1) by decide,show ¬ ((4:Int)=2) by decide,show ¬ ((4:Int)=3) by decide]
  by_cases h5:a=5
  ·subst h5; simp only [hb,if_true,if_false,decide_true,decide_false,Bool.true_and,Bool.false_and,true_or,or_true,show ¬ ((5:Int)=1) by decide,show ¬ ((5:Int)=2) by decide,show ¬ ((5:Int)=3) by decide,show ¬ ((5:Int)=4) by decide]
  by_cases h6:a=6
  ·subst h6; simp only [hb,if_true,if_false,decide_true,decide_false,Bool.true_and,Bool.false_and,true_or,or_true,show ¬ ((6:Int)=1) by decide,show ¬ ((6:Int)=2) by decide,show ¬ ((6:Int)=3) by decide,show ¬ ((6:Int)=4) by decide,show ¬ ((6:Int)=5) by decide]
  simp only [hb,h1,h2,h3,h4,h5,h6,if_true,if_false,or_self]
def wellR:Int→List Item→Bool
 | t,[]=>decide (t=1)
 | t,x::r=>(needsR x).2 && (!decide (t < (needsR x).1) && wellR (t+(1 - (needsR x).1)) r)
def well (e:List Item):Bool:=wellR 0 e && decide (e.length≤64)
theorem needs_range (x:Item):0≤(needsR x).1∧(needsR x).1≤2:=by
 unfold needsR
 split
 ·simp
 ·split
  ·simp
  ·split
   ·simp
   ·split <;> simp
theorem well_loop (e:List Item) (he:e.length≤4611686018427387904) (n:Nat):∀ (m i:Nat) (t:Int),i≤e.length→e.length - i < m→0≤t→t≤i →
  Zbd.l3 n m e t e (e.length:Int) (i:Int)=some (wellR t (e.drop i) && decide (e.length≤64),()):=by
 intro m
 induction m with
 | zero=>intro i t _ h; omega
 | succ m ih=>
  intro i t hi hm h0 ht
  by_cases h1:i < e.length
  ·have hx:e.drop i=e.getD i ((0:Int),((0:Int),(([]:Str),())))::e.drop (i+1):=by
    rw [List.drop_eq_getElem_cons h1,List.getD_eq_getElem?_getD,List.getElem?_eq_getElem h1]; rfl
   rw [hx]
   simp only [Zbd.l3,dt,df,needs_eq,Option.bind_some]
   rw [if_pos (by omega),if_pos (by omega),Int.toNat_natCast]
   generalize e.getD i ((0:Int),((0:Int),(([]:Str),())))=x
   obtain ⟨a,b,c,u⟩:=x
   cases u
   have hr:=needs_range (a,b,c,())
   simp only [wellR]
   generalize needsR (a,b,c,())=y at *
   obtain ⟨k,ok⟩:=y
   simp only at hr ⊢
   cases ok
   ·rfl
   ·rw [if_pos (show (!true)=false from rfl)]
    by_cases h2:t < k
    ·rw [if_pos h2]; simp [h2]
    ·rw [if_neg h2,w64 (x:=1 - k) (by omega),w64 (x:=t+(1 - k)) (by omega),w64 (x:=(i:Int)+1) (by omega),show (i:Int)+1=((i+1:Nat):Int) by omega]
     rw [ih (i+1) (t+(1 - k)) (by omega) (by omega) (by omega) (by omega)]
     simp [h2]
  ·have hi':i=e.length:=by omega
   subst hi'
   simp only [Zbd.l3,dt]
   rw [if_neg (by omega),List.drop_length]
   simp only [wellR]
   by_cases h3:t=1
   ·rw [if_pos h3]
    simp [h3]
    omega
   ·rw [if_neg h3]; simp [h3]
theorem well_eq (e:List Item) (he:e.length≤4611686018427387904):Zbd.g e=some (well e,()):=by
 unfold Zbd.g Zbd.f
 exact well_loop e he _ _ 0 0 (by omega) (by omega) (by omega) (by omega)
end Rv
namespace Rv
open Go
abbrev Sym:=Str×Int×Unit
def findR (s:Str):List Sym→Option Int
 | []=>none
 | x::r=>if x.1=s then some x.2.1 else findR s r
def findI (s:Str):List Sym→Option Nat
 | []=>none
 | x::r=>if x.1=s then some 0 else (findI s r).map (·+1)
theorem index_loop (l:List Sym) (s:Str) (hl:l.length≤4611686018427387904) (n:Nat):∀ (m i:Nat),i≤l.length→l.length - i < m →
  Zbf.l2 n m l (l.length:Int) (i:Int) s=some ((match findI s (l.drop i) with | some k=>((i+k:Nat):Int) | none=>-1),s,()):=by
 intro m
 induction m with
 | zero=>intro i _ h; omega
 | succ m ih=>
  intro i hi hm
  by_cases h1:i < l.length
  ·have hx:l.drop i=l.getD i (([]:Str),((0:Int),()))::l.drop (i+1):=by
    rw [List.drop_eq_getElem_cons h1,List.getD_eq_getElem?_getD,List.getElem?_eq_getElem h1]; rfl
   rw [hx]
   simp only [Zbf.l2,dt,Zci.g,Zci.f,Option.bind_some]
   rw [if_pos (by omega),if_pos (by omega),Int.toNat_natCast]
   generalize l.getD i (([]:Str),((0:Int),()))=x
   unfold findI
   by_cases h2:x.1=s
   ·rw [if_pos h2,if_pos h2]; simp
   ·rw [if_neg h2,if_neg h2,w64 (by omega),show (i:Int)+1=((i+1:Nat):Int) by omega,ih (i+1) (by omega) (by omega)]
    cases findI s (l.drop (i+1)) with
    | none=>rfl
    | some k=>simp only [Option.map_some]; rw [show i+1+k=i+(k+1) by omega]
  ·have hi':i=l.length:=by omega
   subst hi'
   simp only [Zbf.l2,dt]
   rw [if_neg (by omega),List.drop_length]
   rfl
theorem findI_some (s:Str):∀ {l:List Sym} {k:Nat},findI s l=some k→k < l.length∧findR s l=some (l.getD k (([]:Str),((0:Int),()))).2.1
 | [],_,h=>by cases h
 | x::r,k,h=>by
  unfold findI at h
  unfold findR
  by_cases h2:x.1=s
  ·rw [if_pos h2] at h ⊢
   cases h
   exact ⟨by simp,rfl⟩
  ·rw [if_neg h2] at h ⊢
   obtain ⟨j,hj,rfl⟩:=Option.map_eq_some_iff.1 h
   obtain ⟨h3,h4⟩:=findI_some s hj
   exact ⟨by simp; omega,by rw [h4]; rfl⟩
theorem findI_none (s:Str):∀ {l:List Sym},findI s l=none→findR s l=none
 | [],_=>rfl
 | x::r,h=>by
  unfold findI at h
  unfold findR
  by_cases h2:x.1=s
  ·rw [if_pos h2] at h; cases h
  ·rw [if_neg h2] at h ⊢
   exact findI_none s (Option.map_eq_none_iff.1 h)
theorem find_eq (l:List Sym) (s:Str) (hl:l.length≤4611686018427387904):Zbg.g l s=some ((findR s l).getD 0,(findR s l).isSome,()):=by
 unfold Zbg.g Zbg.f Zbf.g Zbf.f
 rw [show (0:Int)=((0:Nat):Int) from rfl,index_loop l s hl _ _ 0 (by omega) (by omega),Option.bind_some,List.drop_zero]
 dsimp only
 cases h:findI s l with
 | none=>
  rw [findI_none s h]
  rfl
 | some k=>
  obtain ⟨h1,h2⟩:=findI_some s h
  rw [h2]
  simp only [dt]
  rw [if_neg (by omega),if_pos (by omega)]
  simp
end Rv
namespace Rv
open Go
abbrev Val:=Int×Int×Unit
theorem pop_eq (l:List Val) (v:Val) (hl:l.length≤4611686018427387904):Zax.g (l++[v])=some (v.1,v.2.1,l,()):=by
 unfold Zax.g Zax.f
 have e1:IntKind.i64.wrap (((l++[v]).length:Int) - 1)=(l.length:Int):=by
  rw [w64 (by simp; omega)]; simp
 have e2:(l++[v]).getD l.length ((0:Int),((0:Int),()))=v:=by
  rw [List.getD_eq_getElem?_getD,List.getElem?_append_right (Nat.le_refl _)]; simp
 rw [e1,Int.toNat_natCast,if_pos (by simp; omega),if_pos (by simp; omega),e2,List.take_left]
def stepR (labels:List Sym) (st:List Val) (x:Item):Except Int (List Val):=
 if x.1=2 then match findR x.2.2.1 labels with
  | some a=>.ok (st++[(IntKind.u32.wrap a,1,())])
  | none=>.error 25
 else if x.1=3 then match st.getLast? with
  | some v=>.ok (st.dropLast++[(IntKind.u32.wrap (0 - v.1),IntKind.i64.wrap (0 - v.2.1),())])
  | none=>.error 99
 else if x.1=4∨x.1=5∨x.1=6 then match st.getLast?,st.dropLast.getLast? with
  | some b,some a=>
   if x.1=4 then .ok (st.dropLast.dropLast++[(IntKind.u32.wrap (a.1+b.1),IntKind.i64.wrap (a.2.1+b.2.1),())])
   else if x.1=5 then .ok (st.dropLast.dropLast++[(IntKind.u32.wrap (a.1 - b.1),IntKind.i64.wrap (a.2.1 - b.2.1),())])
   else if a.2.1=0∧b.2.1=0 then .ok (st.dropLast.dropLast++[(IntKind.u32.wrap (a.1 * b.1),0,())])
   else .error 27
  | _,_=>.error 99
 else .ok (st++[(x.2.1,0,())])
def runR (labels:List Sym):List Val→List Item→Except Int (List Val)
 | st,[]=>.ok st
 | st,x::r=>match stepR labels st x with
  | .ok st=>runR labels st r
  | .error e=>.error e
theorem times_neg (a b:Int):Zbw.g a b (-1)=some (IntKind.u32.wrap (0 - a),IntKind.i64.wrap (0 - b),()):=by
 unfold Zbw.g Zbw.f
 have e1:IntKind.u32.wrap (-1)=4294967295:=by rw [IntKind.wrap_u32]; rfl
 have e2:IntKind.u32.wrap (4294967295 * a)=IntKind.u32.wrap (0 - a):=by rw [IntKind.wrap_u32,IntKind.wrap_u32]; omega
 rw [e1,e2,show -1 * b=0 - b by omega]
theorem sum_eq (a b c d:Int):Zcj.g a b c d=some (IntKind.u32.wrap (a+c),IntKind.i64.wrap (b+d),()):=rfl
theorem i64_add_neg (a b:Int):IntKind.i64.wrap (a+IntKind.i64.wrap (0 - b))=IntKind.i64.wrap (a - b):=by
 rw [IntKind.wrap_i64,IntKind.wrap_i64,IntKind.wrap_i64]; omega
theorem u32_add_neg (a b:Int):IntKind.u32.wrap (a+IntKind.u32.wrap (0 - b))=IntKind.u32.wrap (a - b):=by
 rw [IntKind.wrap_u32,IntKind.wrap_u32,IntKind.wrap_u32]; omega
end Rv
namespace Rv
open Go
def lastV (st:List Val):Option (Int×Int×Int×Unit):=
 match st.getLast? with
 | some v=>some (v.1,v.2.1,0,())
 | none=>none
theorem of_push (labels:List Sym) (e:List Item) (n:Nat) (rl) (t:Int) (i:Nat) (hi:i≤1000) (b0 b1:Int) (st:List Val) (hst:st.length≤1000) (v0 v1:Int) :
  Zah.j27 n rl labels e t (i:Int) b0 b1 st v0 v1=rl labels e t ((i+1:Nat):Int) b0 b1 (st++[(v0,v1,())]):=by
 unfold Zah.j27
 rw [if_pos (by simp; omega),w64 (by omega)]
 rfl
theorem snocV (st:List Val):st=[]∨∃ l v,st=l++[v]:=by
 rcases List.eq_nil_or_concat st with h | ⟨l,v,h⟩
 ·exact .inl h
 ·exact .inr ⟨l,v,by rw [h,List.concat_eq_append]⟩
theorem last1 (l:List Val) (v:Val):(l++[v]).getLast?=some v∧(l++[v]).dropLast=l:=by simp
theorem of_loop (labels:List Sym) (hlab:labels.length≤4611686018427387904) (e:List Item) (he:e.length≤999) (n:Nat):∀ (m i:Nat) (st:List Val) (b0 b1:Int),i≤e.length→e.length - i < m→wellR (st.length:Int) (e.drop i)=true→st.length≤i →
  Zah.l5 n m labels e (e.length:Int) (i:Int) b0 b1 st=match runR labels st (e.drop i) with
   | .error x=>some (0,0,x,())
   | .ok st'=>lastV st':=by
 intro m
 induction m with
 | zero=>intro i st b0 b1 _ h; omega
 | succ m ih=>
  intro i st b0 b1 hi hm hw hst
  by_cases h1:i < e.length
  ·have hx:e.drop i=e.getD i ((0:Int),((0:Int),(([]:Str),())))::e.drop (i+1):=by
    rw [List.drop_eq_getElem_cons h1,List.getD_eq_getElem?_getD,List.getElem?_eq_getElem h1]; rfl
   rw [hx] at hw ⊢
   simp only [Zah.l5,dt,df]
   rw [if_pos (by omega),if_pos (by omega),Int.toNat_natCast]
   generalize e.getD i ((0:Int),((0:Int),(([]:Str),())))=x at hw ⊢
   obtain ⟨a,b,c,u⟩:=x
   cases u
   simp only [wellR,Bool.and_eq_true,Bool.not_eq_true',decide_eq_false_iff_not] at hw
   obtain ⟨hk,hlt,hw⟩:=hw
   have next:∀ (s:List Val) (v0 v1:Int),s.length+1≤i+1→wellR ((s.length+1:Nat):Int) (e.drop (i+1))=true →
     Zah.j27 n (Zah.l5 n m) labels e (e.length:Int) (i:Int) b0 b1 s v0 v1=match runR labels (s++[(v0,v1,())]) (e.drop (i+1)) with
      | .error x=>some (0,0,x,())
      | .ok st'=>lastV st':=fun s v0 v1 hs hws=>by
    rw [of_push labels e n _ _ i (by omega) b0 b1 s (by omega) v0 v1]
    exact ih (i+1) _ b0 b1 (by omega) (by omega) (by simpa using hws) (by simpa using hs)
   simp only [runR,stepR]
   by_cases k2:a=2
   ·subst k2
    rw [if_pos rfl,if_pos rfl,find_eq labels c hlab,Option.bind_some]
    have e0:(needsR (2,b,c,())).1=0:=rfl
    rw [e0] at hw
    cases hf:findR c labels with
    | none=>rfl
    | some at_=>
     dsimp only [Option.isSome,Option.getD]
     rw [if_neg (by simp)]
     exact next st _ 1 (by omega) (by simpa using hw)
   ·rw [if_neg k2,if_neg k2]
    by_cases k3:a=3
    ·subst k3
     have e0:(needsR (3,b,c,())).1=1:=rfl
     rw [e0] at hlt hw
     rcases snocV st with rfl | ⟨l,v,rfl⟩
     ·simp at hlt
     ·obtain ⟨g1,g2⟩:=last1 l v
      rw [if_pos rfl,if_pos rfl,g1,g2,pop_eq l v (by simp at hst; omega),Option.bind_some]
      dsimp only
      rw [times_neg,Option.bind_some]
      exact next l _ _ (by simp at hst; omega) (by simpa using hw)
    ·rw [if_neg k3,if_neg k3]
     by_cases k4:a=4∨a=5∨a=6
     ·have e0:(needsR (a,b,c,())).1=2:=by
       unfold needsR
       rcases k4 with rfl | rfl | rfl <;> rfl
      rw [e0] at hlt hw
      rcases snocV st with rfl | ⟨l0,v,rfl⟩
      ·simp at hlt
      ·rcases snocV l0 with rfl | ⟨l,w,rfl⟩
       ·simp at hlt
       ·obtain ⟨g1,g2⟩:=last1 (l++[w]) v
        obtain ⟨g3,g4⟩:=last1 l w
        have hl:l.length≤1000:=by simp at hst; omega
        have hn:=next l
        rw [if_pos k4,g1,g2,g3,g4,pop_eq (l++[w]) v (by simp; omega),Option.bind_some]
        dsimp only
        have hp2:=pop_eq l w (by omega)
        simp only [hp2,Option.bind_some,sum_eq,times_neg,u32_add_neg,i64_add_neg]
        have hs1:l.length+1≤i+1:=by simp at hst; omega
        have hw1:wellR ((l.length+1:Nat):Int) (e.drop (i+1))=true:=by
         have:((l++[w]++[v]).length:Int)+(1 - 2)=((l.length+1:Nat):Int):=by simp; omega
         rw [← this]; exact hw
        rcases k4 with rfl | rfl | rfl
        ·rw [if_pos rfl,if_pos rfl,Int.add_comm v.1 w.1,Int.add_comm v.2.1 w.2.1]
         exact next l _ _ hs1 hw1
        ·rw [if_neg (show ¬ (5:Int)=4 by decide),if_neg (show ¬ (5:Int)=4 by decide),if_pos rfl,if_pos rfl]
         exact next l _ _ hs1 hw1
        ·rw [if_neg (show ¬ (6:Int)=4 by decide),if_neg (show ¬ (6:Int)=4 by decide),if_neg (show ¬ (6:Int)=5 by decide),if_neg (show ¬ (6:Int)=5 by decide),if_pos rfl]
         by_cases z1:v.2.1=0
         ·by_cases z2:w.2.1=0
          ·rw [if_pos (show w.2.1=0∧v.2.1=0 from ⟨z2,z1⟩)]
           simp only [z1,z2,decide_true,Bool.and_self,Bool.not_true,if_true]
           rw [if_neg (by decide),Int.mul_comm v.1 w.1]
           exact next l _ _ hs1 hw1
          ·rw [if_neg (show ¬ (w.2.1=0∧v.2.1=0) from fun h=>z2 h.1)]
           simp [z1,z2]
         ·rw [if_neg (show ¬ (w.2.1=0∧v.2.1=0) from fun h=>z1 h.2)]
          simp [z1]
     ·have ha:a=1:=by
       apply Classical.byContradiction
       intro h1'
       have:(needsR (a,b,c,())).2=false:=by
        unfold needsR
        simp [h1',k2,k3,k4]
       rw [this] at hk
       cases hk
      subst ha
      have e0:(needsR (1,b,c,())).1=0:=rfl
      rw [e0] at hw
      rw [if_neg k4,if_neg (show ¬ (1:Int)=4 by decide),if_neg (show ¬ (1:Int)=5 by decide),if_neg (show ¬ (1:Int)=6 by decide)]
      exact next st b 0 (by omega) (by simpa using hw)
  ·have hi':i=e.length:=by omega
   subst hi'
   simp only [Zah.l5,dt]
   rw [if_neg (by omega),List.drop_length]
   simp only [runR]
   rw [List.drop_length] at hw
   rcases snocV st with rfl | ⟨l,v,rfl⟩
   ·simp [wellR] at hw
   ·rw [pop_eq l v (by simp at hst; omega),Option.bind_some]
    simp [lastV]
def ofR (labels:List Sym) (e:List Item):Option (Int×Int×Int×Unit):=
 if well e=true then (match runR labels [] e with
  | .error x=>some (0,0,x,())
  | .ok st=>lastV st)
 else some (0,0,23,())
theorem of_eq (labels:List Sym) (hlab:labels.length≤4611686018427387904) (e:List Item) (he:e.length≤4611686018427387904):Zah.g e labels=ofR labels e:=by
 unfold Zah.g Zah.f ofR
 rw [well_eq e he,Option.bind_some]
 dsimp only
 by_cases hw:well e=true
 ·rw [hw,if_neg (by decide),if_pos rfl]
  unfold well at hw
  rw [Bool.and_eq_true,decide_eq_true_eq] at hw
  exact of_loop labels hlab e (by omega) _ _ 0 [] 0 0 (by omega) (by omega) (by simpa using hw.1) (by simp)
 ·have hw':well e=false:=by simpa using hw
  rw [hw']
  rfl
end Rv
namespace Rv
open Go
def enough:Int→List Item→Option Int
 | t,[]=>some t
 | t,x::r=>if (needsR x).2=true∧¬ t < (needsR x).1 then enough (t+(1 - (needsR x).1)) r else none
theorem wellR_enough:∀ (e:List Item) (t:Int),(wellR t e=true)=(enough t e=some 1)
 | [],t=>by simp [wellR,enough]
 | x::r,t=>by
  simp only [wellR,enough,Bool.and_eq_true,Bool.not_eq_true',decide_eq_false_iff_not]
  by_cases h:(needsR x).2=true∧¬ t < (needsR x).1
  ·rw [if_pos h,← wellR_enough r]
   simp [h.1,h.2]
  ·rw [if_neg h]
   apply propext
   constructor
   ·intro h'; exact absurd ⟨h'.1,h'.2.1⟩ h
   ·intro h'; cases h'
theorem enough_app:∀ (a b:List Item) (t:Int),enough t (a++b)=(enough t a).bind fun k=>enough k b
 | [],b,t=>rfl
 | x::a,b,t=>by
  simp only [List.cons_append,enough]
  split
  ·exact enough_app a b _
  ·rfl
def wellL (e:List Item):Prop:=enough 0 e=some 1
theorem well_of {e:List Item} (h:wellL e) (hl:e.length≤64):well e=true:=by
 unfold well
 rw [Bool.and_eq_true,decide_eq_true_eq,wellR_enough]
 exact ⟨h,hl⟩
end Rv
namespace Rv
open Go
theorem step_len (labels:List Sym) (x:Item) (st st':List Val) (hk:(needsR x).2=true) (hl:¬ (st.length:Int) < (needsR x).1) (h:stepR labels st x=.ok st'):(st'.length:Int)=st.length+(1 - (needsR x).1):=by
 obtain ⟨a,b,c,u⟩:=x
 cases u
 unfold stepR at h
 dsimp only at h
 by_cases k2:a=2
 ·subst k2
  rw [if_pos rfl] at h
  have e0:(needsR (2,b,c,())).1=0:=rfl
  rw [e0]
  split at h
  ·cases h; simp
  ·cases h
 ·rw [if_neg k2] at h
  by_cases k3:a=3
  ·subst k3
   have e0:(needsR (3,b,c,())).1=1:=rfl
   rw [e0] at hl ⊢
   rcases snocV st with rfl | ⟨l,v,rfl⟩
   ·simp at hl
   ·rw [if_pos rfl,(last1 l v).1,(last1 l v).2] at h
    cases h; simp
  ·rw [if_neg k3] at h
   by_cases k4:a=4∨a=5∨a=6
   ·have e0:(needsR (a,b,c,())).1=2:=by
     unfold needsR
     rcases k4 with rfl | rfl | rfl <;> rfl
    rw [e0] at hl ⊢
    rcases snocV st with rfl | ⟨l0,v,rfl⟩
    ·simp at hl
    ·rcases snocV l0 with rfl | ⟨l,w,rfl⟩
     ·simp at hl
     ·rw [if_pos k4,(last1 _ v).1,(last1 _ v).2,(last1 l w).1,(last1 l w).2] at h
      dsimp only at h
      split at h
      ·cases h; simp; omega
      ·split at h
       ·cases h; simp; omega
       ·split at h
        ·cases h; simp; omega
        ·cases h
   ·rw [if_neg k4] at h
    have ha:a=1:=by
     apply Classical.byContradiction
     intro h1'
     have:(needsR (a,b,c,())).2=false:=by
      unfold needsR
      simp [h1',k2,k3,k4]
     rw [this] at hk
     cases hk
    subst ha
    have e0:(needsR (1,b,c,())).1=0:=rfl
    rw [e0]
    cases h; simp
def onE (f:List Val→List Val):Except Int (List Val)→Except Int (List Val)
 | .ok l=>.ok (f l)
 | .error e=>.error e
theorem step_base (labels:List Sym) (x:Item) (base st:List Val) (hl:¬ (st.length:Int) < (needsR x).1):stepR labels (base++st) x=onE (base++·) (stepR labels st x):=by
 obtain ⟨a,b,c,u⟩:=x
 cases u
 unfold stepR
 dsimp only
 by_cases k2:a=2
 ·subst k2
  rw [if_pos rfl,if_pos rfl]
  cases findR c labels with
  | none=>rfl
  | some y=>simp [onE]
 ·rw [if_neg k2,if_neg k2]
  by_cases k3:a=3
  ·subst k3
   have e0:(needsR (3,b,c,())).1=1:=rfl
   rw [e0] at hl
   rcases snocV st with rfl | ⟨l,v,rfl⟩
   ·simp at hl
   ·rw [if_pos rfl,if_pos rfl,← List.append_assoc,(last1 (base++l) v).1,(last1 (base++l) v).2,(last1 l v).1,(last1 l v).2]
    simp [onE]
  ·rw [if_neg k3,if_neg k3]
   by_cases k4:a=4∨a=5∨a=6
   ·have e0:(needsR (a,b,c,())).1=2:=by
     unfold needsR
     rcases k4 with rfl | rfl | rfl <;> rfl
    rw [e0] at hl
    rcases snocV st with rfl | ⟨l0,v,rfl⟩
    ·simp at hl
    ·rcases snocV l0 with rfl | ⟨l,w,rfl⟩
     ·simp at hl
     ·rw [if_pos k4,if_pos k4,← List.append_assoc,← List.append_assoc,(last1 (base++l++[w]) v).1,(last1 (base++l++[w]) v).2,(last1 (base++l) w).1,(last1 (base++l) w).2,(last1 (l++[w]) v).1,(last1 (l++[w]) v).2,(last1 l w).1,(last1 l w).2]
      dsimp only
      split
      ·simp [onE]
      ·split
       ·simp [onE]
       ·split
        ·simp [onE]
        ·rfl
   ·rw [if_neg k4,if_neg k4]
    simp [onE]
theorem run_base (labels:List Sym):∀ (e:List Item) (base st:List Val) (k:Int),enough (st.length:Int) e=some k→runR labels (base++st) e=onE (base++·) (runR labels st e)∧∀ st',runR labels st e=.ok st'→(st'.length:Int)=k
 | [],base,st,k,h=>by
  simp only [enough,Option.some.injEq] at h
  exact ⟨rfl,fun st' h'=>by cases h'; exact h⟩
 | x::e,base,st,k,h=>by
  simp only [enough] at h
  split at h
  ·rename_i hc
   simp only [runR]
   rw [step_base labels x base st hc.2]
   cases hs:stepR labels st x with
   | error er=>exact ⟨rfl,fun st' h'=>by cases h'⟩
   | ok s2=>
    have hl:=step_len labels x st s2 hc.1 hc.2 hs
    rw [← hl] at h
    exact run_base labels e base s2 k h
  ·cases h
end Rv
namespace Rv
open Go
theorem run_well (labels:List Sym) {e:List Item} (h:wellL e):(∃ x,runR labels [] e=.error x)∨∃ v,runR labels [] e=.ok [v]:=by
 obtain ⟨_,h2⟩:=run_base labels e [] [] 1 h
 cases hr:runR labels [] e with
 | error x=>exact .inl ⟨x,rfl⟩
 | ok st=>
  have:=h2 st hr
  match st,this with
  | [v],_=>exact .inr ⟨v,rfl⟩
end Rv
namespace Rv
open Go
def okV (v:Val):Prop:=(0≤v.1∧v.1≤4294967295)∧(-9223372036854775808≤v.2.1∧v.2.1≤9223372036854775807)
theorem u32_range (a:Int):0≤IntKind.u32.wrap a∧IntKind.u32.wrap a≤4294967295:=by rw [IntKind.wrap_u32]; omega
theorem i64_range (a:Int):-9223372036854775808≤IntKind.i64.wrap a∧IntKind.i64.wrap a≤9223372036854775807:=by rw [IntKind.wrap_i64]; omega
theorem okV_wrap (a b:Int):okV (IntKind.u32.wrap a,IntKind.i64.wrap b,()):=⟨u32_range a,i64_range b⟩
theorem okV_c {a c:Int} (h1:0≤a∧a≤4294967295) (h2:-9223372036854775808≤c∧c≤9223372036854775807):okV (a,c,()):=⟨h1,h2⟩
theorem mem_dropLast {α:Type} {l:List α} {x:α} (h:x∈l.dropLast):x∈l:=List.dropLast_subset l h
theorem step_okV {labels:List Sym} {x:Item} {st st':List Val} (hx:0≤x.2.1∧x.2.1≤4294967295) (hst:∀ v∈st,okV v) (h:stepR labels st x=.ok st'):∀ v∈st',okV v:=by
 have snoc:∀ (l:List Val) (u:Val),(∀ v∈l,okV v)→okV u→∀ v∈l++[u],okV v:=fun l u hl hu v hv=>by
  rcases List.mem_append.1 hv with hv | hv
  ·exact hl v hv
  ·rw [List.mem_singleton] at hv; subst hv; exact hu
 have hd:∀ v∈st.dropLast,okV v:=fun v hv=>hst v (mem_dropLast hv)
 have hdd:∀ v∈st.dropLast.dropLast,okV v:=fun v hv=>hd v (mem_dropLast hv)
 unfold stepR at h
 split at h
 ·split at h
  ·simp only [Except.ok.injEq] at h; subst h
   exact snoc _ _ hst (okV_c (u32_range _) (by decide))
  ·cases h
 ·split at h
  ·split at h
   ·simp only [Except.ok.injEq] at h; subst h
    exact snoc _ _ hd (okV_wrap _ _)
   ·cases h
  ·split at h
   ·split at h
    ·split at h
     ·simp only [Except.ok.injEq] at h; subst h
      exact snoc _ _ hdd (okV_wrap _ _)
     ·split at h
      ·simp only [Except.ok.injEq] at h; subst h
       exact snoc _ _ hdd (okV_wrap _ _)
      ·split at h
       ·simp only [Except.ok.injEq] at h; subst h
        exact snoc _ _ hdd (okV_c (u32_range _) (by decide))
       ·cases h
    ·cases h
   ·simp only [Except.ok.injEq] at h; subst h
    exact snoc _ _ hst (okV_c hx (by decide))
theorem run_okV {labels:List Sym}:∀ {e:List Item} {st st':List Val},(∀ x∈e,0≤x.2.1∧x.2.1≤4294967295)→(∀ v∈st,okV v)→runR labels st e=.ok st'→∀ v∈st',okV v
 | [],st,st',_,hst,h=>by
  simp only [runR,Except.ok.injEq] at h
  subst h; exact hst
 | x::e,st,st',hx,hst,h=>by
  simp only [runR] at h
  cases hs:stepR labels st x with
  | ok s=>
   rw [hs] at h
   exact run_okV (fun y hy=>hx y (by simp [hy])) (step_okV (hx x (by simp)) hst hs) h
  | error k=>rw [hs] at h; cases h
theorem step_err {labels:List Sym} {x:Item} {st:List Val} {k:Int} (h:stepR labels st x=.error k):k=25∨k=99∨k=27:=by
 unfold stepR at h
 split at h
 ·split at h
  ·cases h
  ·cases h; simp
 ·split at h
  ·split at h
   ·cases h
   ·cases h; simp
  ·split at h
   ·split at h
    ·split at h
     ·cases h
     ·split at h
      ·cases h
      ·split at h
       ·cases h
       ·cases h; simp
    ·cases h; simp
   ·cases h
theorem run_err {labels:List Sym}:∀ {e:List Item} {st:List Val} {k:Int},runR labels st e=.error k→k≠0
 | [],st,k,h=>by cases h
 | x::e,st,k,h=>by
  simp only [runR] at h
  cases hs:stepR labels st x with
  | ok s=>rw [hs] at h; exact run_err h
  | error k'=>
   rw [hs] at h
   cases h
   rcases step_err hs with rfl | rfl | rfl <;> decide
theorem step_err27 {labels:List Sym} {x:Item} {st:List Val} {k:Int} (hn:x.1=2→(findR x.2.2.1 labels).isSome=true) (hl:¬ (st.length:Int) < (needsR x).1) (h:stepR labels st x=.error k):k=27:=by
 unfold stepR at h
 split at h
 ·rename_i h2
  have:=hn h2
  split at h
  ·cases h
  ·rename_i h0; rw [h0] at this; cases this
 ·rename_i h2
  split at h
  ·rename_i h3
   have e0:(needsR x).1=1:=by unfold needsR; rw [if_neg (by omega),if_neg (by omega),if_pos h3]
   rw [e0] at hl
   split at h
   ·cases h
   ·rename_i h0
    rw [List.getLast?_eq_none_iff] at h0
    subst h0; simp at hl
  ·rename_i h3
   split at h
   ·rename_i h4
    have e0:(needsR x).1=2:=by unfold needsR; rw [if_neg (by omega),if_neg (by omega),if_neg h3,if_pos h4]
    rw [e0] at hl
    split at h
    ·split at h
     ·cases h
     ·split at h
      ·cases h
      ·split at h
       ·cases h
       ·cases h; rfl
    ·rename_i h0
     rcases snocV st with rfl | ⟨l0,v,rfl⟩
     ·simp at hl
     ·rcases snocV l0 with rfl | ⟨l,w,rfl⟩
      ·simp at hl
      ·exact (h0 v w (last1 (l++[w]) v).1 (by rw [(last1 (l++[w]) v).2,(last1 l w).1])).elim
   ·cases h
theorem run_err27 {labels:List Sym}:∀ {e:List Item} {st:List Val} {j k:Int},(∀ x∈e,x.1=2→(findR x.2.2.1 labels).isSome=true)→enough (st.length:Int) e=some j→runR labels st e=.error k→k=27
 | [],st,j,k,_,_,h=>by cases h
 | x::e,st,j,k,hn,he,h=>by
  unfold enough at he
  split at he
  case isFalse=>cases he
  rename_i hc
  simp only [runR] at h
  cases hs:stepR labels st x with
  | ok s=>
   rw [hs] at h
   have hl:=step_len labels x st s hc.1 hc.2 hs
   exact run_err27 (fun y hy=>hn y (by simp [hy])) (by rw [hl]; exact he) h
  | error k'=>
   rw [hs] at h
   cases h
   exact step_err27 (hn x (by simp)) hc.2 hs
def mv (by':Int) (v:Val):Val:=(IntKind.u32.wrap (v.1+by' * v.2.1),v.2.1,())
theorem wrap64_ex (a:Int):∃ k,IntKind.i64.wrap a=a+18446744073709551616 * k:=⟨-((a+9223372036854775808) / 18446744073709551616),by rw [IntKind.wrap_i64]; omega⟩
theorem wrap32_ex (a:Int):∃ k,IntKind.u32.wrap a=a+4294967296 * k:=⟨-(a / 4294967296),by rw [IntKind.wrap_u32]; omega⟩
theorem wrap32_of {a b:Int} (k:Int) (h:a=b+4294967296 * k):IntKind.u32.wrap a=IntKind.u32.wrap b:=by
 rw [IntKind.wrap_u32,IntKind.wrap_u32]; omega
theorem mv_add (b x y c d:Int):IntKind.u32.wrap (IntKind.u32.wrap (x+b * c)+IntKind.u32.wrap (y+b * d))=IntKind.u32.wrap (IntKind.u32.wrap (x+y)+b * IntKind.i64.wrap (c+d)):=by
 obtain ⟨k1,e1⟩:=wrap32_ex (x+b * c)
 obtain ⟨k2,e2⟩:=wrap32_ex (y+b * d)
 obtain ⟨k3,e3⟩:=wrap32_ex (x+y)
 obtain ⟨k4,e4⟩:=wrap64_ex (c+d)
 rw [e1,e2,e3,e4]
 have h1:b * (c+d+18446744073709551616 * k4)=b * c+b * d+18446744073709551616 * (b * k4):=by
  rw [Int.mul_add,Int.mul_add,Int.mul_left_comm]
 rw [h1]
 exact wrap32_of (k1+k2 - k3 - 4294967296 * (b * k4)) (by omega)
theorem mv_sub (b x y c d:Int):IntKind.u32.wrap (IntKind.u32.wrap (x+b * c) - IntKind.u32.wrap (y+b * d))=IntKind.u32.wrap (IntKind.u32.wrap (x - y)+b * IntKind.i64.wrap (c - d)):=by
 obtain ⟨k1,e1⟩:=wrap32_ex (x+b * c)
 obtain ⟨k2,e2⟩:=wrap32_ex (y+b * d)
 obtain ⟨k3,e3⟩:=wrap32_ex (x - y)
 obtain ⟨k4,e4⟩:=wrap64_ex (c - d)
 rw [e1,e2,e3,e4]
 have h1:b * (c - d+18446744073709551616 * k4)=b * c - b * d+18446744073709551616 * (b * k4):=by
  rw [Int.mul_add,Int.mul_sub,Int.mul_left_comm]
 rw [h1]
 exact wrap32_of (k1 - k2 - k3 - 4294967296 * (b * k4)) (by omega)
theorem mv_mul (b x y:Int):IntKind.u32.wrap (IntKind.u32.wrap (x+b * 0) * IntKind.u32.wrap (y+b * 0))=IntKind.u32.wrap (IntKind.u32.wrap (x * y)+b * 0):=by
 rw [Int.mul_zero,Int.add_zero,Int.add_zero,Int.add_zero]
 simp only [IntKind.wrap_u32]
 rw [← Int.mul_emod]
 omega
theorem findR_moved (by':Int) (s:Str):∀ l:List Sym,findR s (l.map fun x=>(x.1,IntKind.i64.wrap (x.2.1+by'),()))=(findR s l).map fun a=>IntKind.i64.wrap (a+by')
 | []=>rfl
 | x::l=>by
  simp only [List.map_cons,findR]
  by_cases h:x.1=s
  ·rw [if_pos h,if_pos h]; rfl
  ·rw [if_neg h,if_neg h,findR_moved by' s l]
theorem step_moved (by':Int) (labels:List Sym) (x:Item) (hx:0≤x.2.1∧x.2.1≤4294967295) (st:List Val):stepR (labels.map fun x=>(x.1,IntKind.i64.wrap (x.2.1+by'),())) (st.map (mv by')) x=onE (List.map (mv by')) (stepR labels st x):=by
 unfold stepR
 rw [findR_moved]
 by_cases h2:x.1=2
 ·rw [if_pos h2,if_pos h2]
  cases findR x.2.2.1 labels with
  | none=>rfl
  | some a=>
   simp only [Option.map_some,onE,List.map_append,List.map_cons,List.map_nil,mv,Int.mul_one]
   congr 4
   rw [IntKind.wrap_i64,IntKind.wrap_u32,IntKind.wrap_u32,IntKind.wrap_u32]
   omega
 ·rw [if_neg h2,if_neg h2]
  by_cases h3:x.1=3
  ·rw [if_pos h3,if_pos h3]
   rcases snocV st with rfl | ⟨l,v,rfl⟩
   ·rfl
   ·simp only [List.map_append,List.map_cons,List.map_nil,List.getLast?_append,List.getLast?_singleton,Option.some_or,List.dropLast_concat,onE,mv]
    congr 4
    have:=mv_sub by' 0 v.1 0 v.2.1
    simp only [Int.mul_zero,Int.add_zero] at this
    rw [show IntKind.u32.wrap 0=0 by decide] at this
    exact this
  ·rw [if_neg h3,if_neg h3]
   by_cases h4:x.1=4∨x.1=5∨x.1=6
   ·rw [if_pos h4,if_pos h4]
    rcases snocV st with rfl | ⟨l0,v,rfl⟩
    ·rfl
    ·rcases snocV l0 with rfl | ⟨l,w,rfl⟩
     ·rfl
     ·simp only [List.map_append,List.map_cons,List.map_nil,List.getLast?_append,List.getLast?_singleton,Option.some_or,List.dropLast_concat]
      by_cases k4:x.1=4
      ·rw [if_pos k4,if_pos k4]
       simp only [List.map_append,List.map_cons,List.map_nil,onE,mv]
       rw [mv_add]
      ·rw [if_neg k4,if_neg k4]
       by_cases k5:x.1=5
       ·rw [if_pos k5,if_pos k5]
        simp only [List.map_append,List.map_cons,List.map_nil,onE,mv]
        rw [mv_sub]
       ·rw [if_neg k5,if_neg k5]
        by_cases hz:w.2.1=0∧v.2.1=0
        ·rw [if_pos hz,if_pos (show (mv by' w).2.1=0∧(mv by' v).2.1=0 from hz)]
         simp only [List.map_append,List.map_cons,List.map_nil,onE,mv,hz.1,hz.2]
         rw [mv_mul]
        ·rw [if_neg hz,if_neg (show ¬ ((mv by' w).2.1=0∧(mv by' v).2.1=0) from hz)]
         rfl
   ·rw [if_neg h4,if_neg h4]
    simp only [List.map_append,List.map_cons,List.map_nil,onE,mv,Int.mul_zero,Int.add_zero]
    rw [show IntKind.u32.wrap x.2.1=x.2.1 by rw [IntKind.wrap_u32]; omega]
theorem run_moved (by':Int) (labels:List Sym):∀ (e:List Item) (st:List Val),(∀ x∈e,0≤x.2.1∧x.2.1≤4294967295)→runR (labels.map fun x=>(x.1,IntKind.i64.wrap (x.2.1+by'),())) (st.map (mv by')) e=onE (List.map (mv by')) (runR labels st e)
 | [],st,_=>rfl
 | x::e,st,h=>by
  simp only [runR]
  rw [step_moved by' labels x (h x (by simp)) st]
  cases stepR labels st x with
  | ok s=>exact run_moved by' labels e s fun y hy=>h y (by simp [hy])
  | error k=>rfl
end Rv
namespace Rv
open Go
def sizeN (x:Ln):Nat:=if x.2.1.1=0∨x.2.1.1=10 then 0 else 1
theorem sizeN_le (x:Ln):sizeN x≤1:=by unfold sizeN; split <;> omega
def placeR:List Ln→Nat→List Int→List Sym→Nat→Except (Nat×Int) (List Int×List Sym×Nat)
 | [],_,a,lb,c=>.ok (a,lb,c)
 | x::r,i,a,lb,c=>
  if x.1=[] then placeR r (i+1) (a++[((4 * c:Nat):Int)]) lb (c+sizeN x)
  else if (findR x.1 lb).isSome=true then .error (i+1,26)
  else placeR r (i+1) (a++[((4 * c:Nat):Int)]) (lb++[(x.1,((4 * c:Nat):Int),())]) (c+sizeN x)
def addR (p:List Val) (v:Val):List Val:=if v∈p then p else p++[v]
def vOf (lb:List Sym) (e:List Item):Int×Int×Int×Unit:=(ofR lb e).getD (0,0,99,())
def loadR (lb:List Sym):List Ln→Nat→List Val→Except (Nat×Int) (List Val)
 | [],_,p=>.ok p
 | x::r,i,p=>
  if x.2.1.1=8 then
   (if (vOf lb x.2.1.2.2.2.2.2.2.1).2.2.1≠0 then .error (i+1,(vOf lb x.2.1.2.2.2.2.2.2.1).2.2.1)
   else if (vOf lb x.2.1.2.2.2.2.2.2.1).2.1 < 0∨1 < (vOf lb x.2.1.2.2.2.2.2.2.1).2.1 then .error (i+1,27)
   else loadR lb r (i+1) (addR p ((vOf lb x.2.1.2.2.2.2.2.2.1).1,(vOf lb x.2.1.2.2.2.2.2.2.1).2.1,())))
  else loadR lb r (i+1) p
abbrev PlanT:=List Int×List Sym×List Val×Int×Int×Int×Int×Unit
def noPlan (i:Nat) (e:Int):PlanT:=([],[],[],0,0,(i:Int),e,())
def plEnd (t:List Int) (lb:List Sym) (c:Nat):Except (Nat×Int) (List Val)→PlanT
 | .error x=>noPlan x.1 x.2
 | .ok p=>if 1024 < c+p.length then noPlan 0 2 else (t,lb,p,((4 * c:Nat):Int),((c+p.length:Nat):Int),0,0,())
def plFin (l:List Ln):Except (Nat×Int) (List Int×List Sym×Nat)→PlanT
 | .error x=>noPlan x.1 x.2
 | .ok r=>plEnd r.1 r.2.1 r.2.2 (loadR r.2.1 l 0 [])
def planR (l:List Ln):PlanT:=plFin l (placeR l 0 [] [] 0)
def posR (v:Val):List Val→Nat
 | []=>0
 | x::r=>if x=v then 0 else posR v r+1
theorem ofR_any (labels:List Sym) (e:List Item):∃ v1 v2 x,ofR labels e=some (v1,v2,x,()):=by
 unfold ofR
 by_cases hw:well e=true
 ·rw [if_pos hw]
  unfold well at hw
  rw [Bool.and_eq_true,decide_eq_true_eq] at hw
  have hwl:wellL e:=by unfold wellL; rw [← wellR_enough]; exact hw.1
  rcases run_well labels hwl with ⟨x,hx⟩ | ⟨v,hv⟩
  ·rw [hx]; exact ⟨0,0,x,rfl⟩
  ·rw [hv]; exact ⟨v.1,v.2.1,0,rfl⟩
 ·rw [if_neg hw]; exact ⟨0,0,23,rfl⟩
theorem ofR_vOf (labels:List Sym) (e:List Item):ofR labels e=some (vOf labels e):=by
 obtain ⟨a,b,c,h⟩:=ofR_any labels e
 unfold vOf; rw [h]; rfl
theorem placeR_len:∀ (l:List Ln) (i:Nat) (a:List Int) (lb:List Sym) (c:Nat) {r},placeR l i a lb c=.ok r→r.1.length=a.length+l.length∧r.2.1.length≤lb.length+l.length∧r.2.2≤c+l.length
 | [],_,a,lb,c,r,h=>by cases h; simp
 | x::t,i,a,lb,c,r,h=>by
  have hs:=sizeN_le x
  unfold placeR at h
  split at h
  ·have:=placeR_len t _ _ _ _ h; simp at this ⊢; omega
  ·split at h
   ·cases h
   ·have:=placeR_len t _ _ _ _ h; simp at this ⊢; omega
theorem addR_len (p:List Val) (v:Val):(addR p v).length≤p.length+1:=by unfold addR; split <;> simp
theorem loadR_len (lb:List Sym):∀ (l:List Ln) (i:Nat) (p:List Val) {r},loadR lb l i p=.ok r→r.length≤p.length+l.length
 | [],_,p,r,h=>by cases h; simp
 | x::t,i,p,r,h=>by
  unfold loadR at h
  split at h
  ·split at h
   ·cases h
   ·split at h
    ·cases h
    ·have:=loadR_len lb t _ _ h; have:=addR_len p ((vOf lb x.2.1.2.2.2.2.2.2.1).1,(vOf lb x.2.1.2.2.2.2.2.2.1).2.1,()); simp; omega
  ·have:=loadR_len lb t _ _ h; simp; omega
end Rv
namespace Rv
open Go
abbrev eL (x:Ln):List Item:=x.2.1.2.2.2.2.2.2.1
theorem placeR_app:∀ (a b:List Ln) (i:Nat) (t:List Int) (lb:List Sym) (c:Nat),placeR (a++b) i t lb c=match placeR a i t lb c with
  | .error x=>.error x
  | .ok r=>placeR b (i+a.length) r.1 r.2.1 r.2.2
 | [],b,i,t,lb,c=>rfl
 | x::a,b,i,t,lb,c=>by
  have hi:i+(x::a).length=i+1+a.length:=by simp; omega
  rw [List.cons_append,placeR,placeR,hi]
  split
  ·exact placeR_app a b _ _ _ _
  ·split
   ·rfl
   ·exact placeR_app a b _ _ _ _
theorem loadR_app (lb:List Sym):∀ (a b:List Ln) (i:Nat) (p:List Val),loadR lb (a++b) i p=match loadR lb a i p with
  | .error x=>.error x
  | .ok r=>loadR lb b (i+a.length) r
 | [],b,i,p=>rfl
 | x::a,b,i,p=>by
  have hi:i+(x::a).length=i+1+a.length:=by simp; omega
  rw [List.cons_append,loadR,loadR,hi]
  split
  ·split
   ·rfl
   ·split
    ·rfl
    ·exact loadR_app lb a b _ _
  ·exact loadR_app lb a b _ _
theorem loadR_none (lb:List Sym):∀ (l:List Ln) (i:Nat) (p:List Val),(∀ x∈l,x.2.1.1≠8)→loadR lb l i p=.ok p
 | [],_,_,_=>rfl
 | x::r,i,p,h=>by
  rw [loadR,if_neg (h x (by simp))]
  exact loadR_none lb r _ _ fun y hy=>h y (by simp [hy])
def shS (b:Int) (x:Sym):Sym:=(x.1,IntKind.i64.wrap (x.2.1+b),())
theorem find_shS (b:Int) (s:Str) (l:List Sym):(findR s (l.map (shS b))).isSome=(findR s l).isSome:=by
 have:=findR_moved b s l
 rw [show l.map (shS b)=l.map (fun x=>(x.1,IntKind.i64.wrap (x.2.1+b),())) from rfl,this,Option.isSome_map]
theorem placeR_move (k d:Nat) (a0:List Int):∀ (l:List Ln) (i c:Nat) (a:List Int) (lb:List Sym),c+k+l.length≤1000000 →
  placeR l (i+d) (a0++a.map (fun y=>y+((4 * k:Nat):Int))) (lb.map (shS ((4 * k:Nat):Int))) (c+k)=match placeR l i a lb c with
  | .error x=>.error (x.1+d,x.2)
  | .ok r=>.ok (a0++r.1.map (fun y=>y+((4 * k:Nat):Int)),r.2.1.map (shS ((4 * k:Nat):Int)),r.2.2+k)
 | [],_,_,_,_,_=>rfl
 | x::r,i,c,a,lb,h=>by
  have hs:=sizeN_le x
  simp only [List.length_cons] at h
  have e1:(a0++a.map (fun y=>y+((4 * k:Nat):Int)))++[((4 * (c+k):Nat):Int)]=a0++(a++[((4 * c:Nat):Int)]).map (fun y=>y+((4 * k:Nat):Int)):=by
   rw [List.map_append,List.append_assoc]; congr 2; simp; omega
  have e2:lb.map (shS ((4 * k:Nat):Int))++[(x.1,((4 * (c+k):Nat):Int),())]=(lb++[(x.1,((4 * c:Nat):Int),())]).map (shS ((4 * k:Nat):Int)):=by
   rw [List.map_append]; congr 1
   show _=[shS _ _]
   unfold shS
   rw [w64 (by dsimp only; omega)]
   congr 3
   dsimp only; omega
  have e3:i+d+1=i+1+d:=by omega
  have e4:c+k+sizeN x=c+sizeN x+k:=by omega
  rw [placeR,placeR,e1,e2,e3,e4,find_shS]
  split
  ·exact placeR_move k d a0 r (i+1) (c+sizeN x) _ lb (by omega)
  ·split
   ·rfl
   ·exact placeR_move k d a0 r (i+1) (c+sizeN x) _ _ (by omega)
def okP (v:Val):Prop:=(0≤v.1∧v.1≤4294967295)∧0≤v.2.1∧v.2.1≤1
theorem vOf_cases (lb:List Sym) {e:List Item} (hg:∀ y∈e,0≤y.2.1∧y.2.1≤4294967295):(∃ x,x≠0∧vOf lb e=(0,0,x,()))∨∃ v,okV v∧vOf lb e=(v.1,v.2.1,0,())∧runR lb [] e=.ok [v]:=by
 unfold vOf ofR
 by_cases hw:well e=true
 ·rw [if_pos hw]
  unfold well at hw
  rw [Bool.and_eq_true,decide_eq_true_eq] at hw
  have hwl:wellL e:=by unfold wellL; rw [← wellR_enough]; exact hw.1
  rcases run_well lb hwl with ⟨x,hx⟩ | ⟨v,hv⟩
  ·rw [hx]; exact .inl ⟨x,run_err hx,rfl⟩
  ·rw [hv]
   have:=run_okV hg (fun u hu=>by cases hu) hv v (by simp)
   exact .inr ⟨v,this,rfl,rfl⟩
 ·rw [if_neg hw]; exact .inl ⟨23,by decide,rfl⟩
theorem vOf_move (b:Int) (lb:List Sym) {e:List Item} (hg:∀ y∈e,0≤y.2.1∧y.2.1≤4294967295) :
  vOf (lb.map (shS b)) e=if (vOf lb e).2.2.1=0 then (IntKind.u32.wrap ((vOf lb e).1+b * (vOf lb e).2.1),(vOf lb e).2.1,0,()) else vOf lb e:=by
 have hm:=run_moved b lb e [] hg
 rw [List.map_nil] at hm
 have hm:runR (lb.map (shS b)) [] e=onE (List.map (mv b)) (runR lb [] e):=hm
 unfold vOf ofR
 by_cases hw:well e=true
 ·rw [if_pos hw,if_pos hw,hm]
  unfold well at hw
  rw [Bool.and_eq_true,decide_eq_true_eq] at hw
  have hwl:wellL e:=by unfold wellL; rw [← wellR_enough]; exact hw.1
  rcases run_well lb hwl with ⟨x,hx⟩ | ⟨v,hv⟩
  ·rw [hx]
   have:=run_err hx
   show _=if x=0 then _ else _
   rw [if_neg this]; rfl
  ·rw [hv]; rfl
 ·rw [if_neg hw,if_neg hw]; rfl
theorem mv_inj {b:Int} {v u:Val} (hv:okP v) (hu:okP u) (h:mv b v=mv b u):v=u:=by
 obtain ⟨v1,v2,_⟩:=v
 obtain ⟨u1,u2,_⟩:=u
 unfold mv at h
 dsimp only at h
 simp only [Prod.mk.injEq,and_true] at h
 obtain ⟨h1,rfl⟩:=h
 obtain ⟨⟨a1,a2⟩,_⟩:=hv
 obtain ⟨⟨b1,b2⟩,_⟩:=hu
 dsimp only at a1 a2 b1 b2
 generalize b * v2=t at h1
 rw [IntKind.wrap_u32,IntKind.wrap_u32] at h1
 have:v1=u1:=by omega
 rw [this]
theorem addR_move {b:Int} {p:List Val} {v:Val} (hp:∀ u∈p,okP u) (hv:okP v):addR (p.map (mv b)) (mv b v)=(addR p v).map (mv b):=by
 unfold addR
 by_cases h:v∈p
 ·rw [if_pos h,if_pos (List.mem_map_of_mem h)]
 ·rw [if_neg h,if_neg (fun hm=>h (by
   obtain ⟨u,hu,he⟩:=List.mem_map.1 hm
   rw [← mv_inj (hp u hu) hv he]; exact hu)),List.map_append]; rfl
theorem addR_ok {p:List Val} {v:Val} (hp:∀ u∈p,okP u) (hv:okP v):∀ u∈addR p v,okP u:=by
 unfold addR
 split
 ·exact hp
 ·intro u hu
  rcases List.mem_append.1 hu with hu | hu
  ·exact hp u hu
  ·rw [List.mem_singleton] at hu; subst hu; exact hv
theorem loadR_move (b:Int) (d:Nat) (lb:List Sym):∀ (l:List Ln) (i:Nat) (p:List Val),(∀ x∈l,∀ y∈eL x,0≤y.2.1∧y.2.1≤4294967295)→(∀ v∈p,okP v) →
  loadR (lb.map (shS b)) l (i+d) (p.map (mv b))=match loadR lb l i p with
  | .error x=>.error (x.1+d,x.2)
  | .ok r=>.ok (r.map (mv b))
 | [],_,_,_,_=>rfl
 | x::r,i,p,hl,hp=>by
  have e3:i+d+1=i+1+d:=by omega
  have hg:=hl x (by simp)
  have hr:∀ x∈r,∀ y∈eL x,0≤y.2.1∧y.2.1≤4294967295:=fun y hy=>hl y (by simp [hy])
  rw [loadR,loadR,vOf_move b lb hg,e3]
  by_cases h8:x.2.1.1=8
  ·rw [if_pos h8,if_pos h8]
   rcases vOf_cases lb hg with ⟨k,hk,hv⟩ | ⟨v,hok,hv,_⟩
   ·unfold eL at hv
    rw [hv]; dsimp only
    rw [if_neg hk]; dsimp only
    rw [if_pos hk,if_pos hk]
   ·unfold eL at hv
    rw [hv]; dsimp only
    rw [if_pos rfl]
    simp only [ne_eq,not_true_eq_false,↓reduceIte]
    by_cases h1:v.2.1 < 0∨1 < v.2.1
    ·rw [if_pos h1,if_pos h1]
    ·rw [if_neg h1,if_neg h1]
     have hv':okP v:=⟨hok.1,by omega⟩
     have:=loadR_move b d lb r (i+1) (addR p v) hr (addR_ok hp hv')
     rw [← this,← addR_move hp hv']
     rfl
  ·rw [if_neg h8,if_neg h8]
   exact loadR_move b d lb r (i+1) p hr hp
end Rv
namespace Rv
open Go
def isA (b:UInt8):Bool:=decide (65≤b.toNat∧b.toNat≤90∨97≤b.toNat∧b.toNat≤122)
theorem isA_L (b:UInt8):isL b=(isA b || decide (b.toNat=95)):=by
 unfold isL isA
 rw [Bool.eq_iff_iff]
 simp only [decide_eq_true_eq,Bool.or_eq_true]
 omega
def nameOk (s:Str):Bool:=decide (s≠[]) && decide (s.length≤12) && isA (s.getD 0 0) && !regLike s && s.all isW
end Rv
namespace Rv
open Go
theorem r7letter_eq (b:UInt8):Zbx.g (b.toNat:Int)=some (isA b,()):=by
 unfold Zbx.g Zbx.f isA
 simp only [dt,df]
 (repeat' split) <;> first | (refine some_tt ?_; omega) | (refine some_ff ?_; omega) | (refine some_pq ?_; omega)
theorem r7digit_eq (b:UInt8):Zbo.g (b.toNat:Int)=some (isD b,()):=by
 unfold Zbo.g Zbo.f isD
 simp only [dt,df]
 (repeat' split) <;> first | (refine some_tt ?_; omega) | (refine some_ff ?_; omega) | (refine some_pq ?_; omega)
theorem r7reg_eq (s:Str):Zcb.g s=some (regLike s,()):=by
 unfold Zcb.g Zcb.f regLike
 simp only [dt,df]
 match s with
 | []=>rfl
 | [a]=>simp
 | [a,b]=>
  have ea:bt [a,b] 0=(a.toNat:Int):=rfl
  have eb:bt [a,b] 1=(b.toNat:Int):=rfl
  have e82:((a.toNat:Int)=82)=(a=82):=byte_is a 82 (by decide)
  rw [if_pos (by simp),if_pos (by simp),if_pos (by simp),ea,eb]
  simp only [ne_eq,e82]
  by_cases h:a=82
  ·rw [if_neg (by simpa using h),if_pos (by simp),r7digit_eq,Option.bind_some]
   cases hb:isD b <;> simp [h,hb]
  ·rw [if_pos h]; simp [h]
 | [a,b,c]=>
  have ea:bt [a,b,c] 0=(a.toNat:Int):=rfl
  have eb:bt [a,b,c] 1=(b.toNat:Int):=rfl
  have ec:bt [a,b,c] 2=(c.toNat:Int):=rfl
  have e82:((a.toNat:Int)=82)=(a=82):=byte_is a 82 (by decide)
  rw [if_pos (by simp),if_pos (by simp),if_pos (by simp),ea,eb,ec]
  simp only [ne_eq,e82]
  by_cases h:a=82
  ·rw [if_neg (by simpa using h),if_pos (by simp),r7digit_eq,r7digit_eq,Option.bind_some]
   cases hb:isD b <;> simp [h,hb]
  ·rw [if_pos h]; simp [h]
 | a::b::c::d::r=>
  rw [if_pos (by simp; omega),if_neg (by simp; omega)]
  simp
theorem r7name_loop (s:Str) (hs:s.length≤1000000) (n:Nat):∀ (m k:Nat),k≤s.length→s.length - k < m→Zar.l4 n m s (k:Int)=some ((s.drop k).all isW,()):=by
 intro m
 induction m with
 | zero=>intro k _ h; omega
 | succ m ih=>
  intro k hk hm
  rw [Zar.l4]
  simp only [dt,Zar.j5]
  by_cases h:k < s.length
  ·have step:=ih (k+1) (by omega) (by omega)
   have e1:IntKind.i64.wrap ((k:Int)+1)=((k+1:Nat):Int):=by rw [w64 (by omega)]; omega
   rw [if_pos (by omega),if_pos (by omega),bt_nat,r7letter_eq,r7digit_eq,Option.bind_some,Option.bind_some,e1,step,drop_cons h,List.all_cons]
   have e95:(((s.getD k 0).toNat:Int)≠95)=¬ (s.getD k 0).toNat=95:=by apply propext; constructor <;> intro h <;> omega
   simp only [e95]
   unfold isW
   rw [isA_L]
   generalize s.getD k 0=b
   cases hA:isA b
   ·cases hD:isD b
    ·rw [if_pos (by simp),if_pos (by omega),if_pos (by simp),if_pos (by omega)]
     by_cases h5:b.toNat=95
     ·rw [if_neg (by simpa using h5)]; simp [h5]
     ·rw [if_pos h5]; simp [h5]
    ·rw [if_pos (by simp),if_pos (by omega),if_neg (by simp)]; simp
   ·rw [if_neg (by simp)]; simp
  ·have:k=s.length:=by omega
   subst this
   rw [if_neg (by omega),List.drop_length]
   rfl
theorem r7name_eq (s:Str) (hs:s.length≤1000000):Zar.g s=some (nameOk s,()):=by
 unfold Zar.g Zar.f nameOk
 simp only [dt,df]
 cases s with
 | nil=>rw [if_neg (by simp)]; simp
 | cons c r=>
  rw [if_pos (by simp; omega)]
  by_cases h12:(c::r).length≤12
  ·have e0:bt (c::r) 0=(c.toNat:Int):=rfl
   have hl:=r7name_loop (c::r) hs (1000+(c::r).length) (1000+(c::r).length) 0 (by omega) (by omega)
   rw [List.drop_zero,show ((0:Nat):Int)=0 from rfl] at hl
   rw [if_pos (by omega),if_pos (by simp),e0,r7letter_eq,r7reg_eq,Option.bind_some,Option.bind_some,hl]
   have hg:(c::r).getD 0 0=c:=rfl
   rw [hg,decide_eq_true h12]
   cases isA c <;> cases regLike (c::r) <;> simp
  ·rw [if_neg (by omega),decide_eq_false h12]; simp
theorem rlabel_eq (s:Str) (hs:s.length≤100000):Zbp.g s=some (labelOk s,()):=by
 unfold Zbp.g Zbp.f
 simp only [dt,Zbp.j3]
 cases s with
 | nil=>rw [if_neg (by simp),r7name_eq [] (by simp)]; rfl
 | cons c r=>
  have e0:bt (c::r) 0=(c.toNat:Int):=rfl
  have e95:((c.toNat:Int)=95)=(c=95):=byte_is c 95 (by decide)
  rw [if_pos (by simp),if_pos (by simp),e0]
  simp only [e95]
  by_cases h:c=95
  ·rw [if_pos h,if_pos (by simp; omega),if_pos (by simp at hs ⊢; omega)]
   have ed:(((c::r).take (((c::r).length:Int)).toNat).drop ((1:Int)).toNat)=r:=by rw [Int.toNat_natCast,List.take_length]; rfl
   rw [ed,r7name_eq _ (by simp at hs ⊢; omega),Option.bind_some]
   subst h
   unfold nameOk labelOk regLike
   have h1:isA 97=true:=by decide
   have h2:isW 97=true:=by decide
   have h3:isD 95=false:=by decide
   have h4:isW 95=true:=by decide
   simp [h1,h2,h3,h4]
  ·rw [if_neg h,r7name_eq _ (by omega),Option.bind_some]
   unfold nameOk labelOk
   have hg:(c::r).getD 0 0=c:=rfl
   rw [hg]
   have hc:(isA c && (isW c && r.all isW))=(!isD c && (isW c && r.all isW)):=by
    have h95:c.toNat≠95:=fun e=>h (UInt8.toNat_inj.1 (by simpa using e))
    unfold isW
    rw [isA_L,decide_eq_false h95]
    have hex:isA c=true→isD c=false:=fun hA=>by
     unfold isA at hA; unfold isD
     simp only [decide_eq_true_eq] at hA
     rw [decide_eq_false_iff_not]; omega
    cases hA:isA c
    ·cases hD:isD c <;> simp
    ·simp [hex hA]
   rw [List.all_cons]
   generalize regLike (c::r)=x
   generalize (isW c && r.all isW)=y at hc ⊢
   generalize decide ((c::r).length≤12)=z
   generalize decide (c::r≠[])=t
   revert hc
   cases isA c <;> cases isD c <;> cases x <;> cases y <;> cases z <;> cases t <;> simp
end Rv
namespace Rv
open Go
theorem rneeds_eq (x:Item) (hx:x.2.2.1.length≤100000):Zcc.g x.1 x.2.1 x.2.2.1=some (if (needsR x).2=true then (needsR x).1 else -1,()):=by
 obtain ⟨a,b,c,u⟩:=x
 cases u
 unfold Zcc.g Zcc.f needsR
 simp only at hx
 simp only [dt,df,rlabel_eq c hx,Option.bind_some]
 by_cases h1:a=1
 ·rw [if_pos h1,if_pos h1]
  by_cases hc:c=[] <;> simp [hc]
 ·rw [if_neg h1,if_neg h1]
  by_cases h2:a=2
  ·rw [if_pos h2,if_pos h2]
   by_cases hb:b=0
   ·cases hl:labelOk c <;> simp [hb,hl]
   ·simp [hb]
  ·rw [if_neg h2,if_neg h2]
   by_cases h3:a=3
   ·rw [if_pos h3]
    by_cases hb:b=0 <;> by_cases hc:c=[] <;> simp [hb,hc,h3]
   ·rw [if_neg h3]
    by_cases h4:a=4∨a=5∨a=6
    ·rw [if_pos h4]
     have g1:4≤a:=by omega
     have g2:a≤6:=by omega
     by_cases hb:b=0 <;> by_cases hc:c=[] <;> simp [hb,hc,h3,g1,g2]
    ·rw [if_neg h4]
     by_cases hb:b=0
     ·by_cases hc:c=[]
      ·by_cases g1:4≤a
       ·have g2:¬ a≤6:=by omega
        simp [hb,hc,h3,g1,g2]
       ·simp [hb,hc,h3,g1]
      ·simp [hb,hc,h3]
     ·simp [hb,h3]
theorem rwell_loop (e:List Item) (he:e.length≤100000) (hn:∀ x∈e,x.2.2.1.length≤100000) (n:Nat):∀ (m i:Nat) (t:Int),i≤e.length→e.length - i < m→0≤t→t≤i →
  Zbh.l3 n m e t (i:Int)=some (wellR t (e.drop i) && decide (e.length≤64),()):=by
 intro m
 induction m with
 | zero=>intro i t _ h; omega
 | succ m ih=>
  intro i t hi hm h0 ht
  rw [Zbh.l3]
  simp only [dt,df,Int.toNat_natCast]
  by_cases h1:i < e.length
  ·have hx:e.drop i=e.getD i ((0:Int),((0:Int),(([]:Str),())))::e.drop (i+1):=by
    rw [List.drop_eq_getElem_cons h1,List.getD_eq_getElem?_getD,List.getElem?_eq_getElem h1]; rfl
   have hmem:e.getD i ((0:Int),((0:Int),(([]:Str),())))∈e:=by
    rw [List.getD_eq_getElem?_getD,List.getElem?_eq_getElem h1]; exact List.getElem_mem h1
   have hnx:=hn _ hmem
   rw [hx,if_pos (by omega),if_pos (by omega)]
   generalize e.getD i ((0:Int),((0:Int),(([]:Str),())))=x at hnx ⊢
   rw [rneeds_eq x hnx,Option.bind_some]
   have hr:=needs_range x
   simp only [wellR]
   generalize needsR x=y at *
   obtain ⟨k,ok⟩:=y
   simp only at hr ⊢
   cases ok
   ·rw [if_neg (by simp),Bool.false_and]; simp
   ·rw [if_pos rfl,if_pos (by omega)]
    by_cases h2:t < k
    ·rw [if_pos h2]; simp [h2]
    ·rw [if_neg h2,w64 (x:=t - k) (by omega),w64 (x:=t - k+1) (by omega),w64 (x:=(i:Int)+1) (by omega),show (i:Int)+1=((i+1:Nat):Int) by omega,show t - k+1=t+(1 - k) by omega]
     rw [ih (i+1) (t+(1 - k)) (by omega) (by omega) (by omega) (by omega)]
     simp [h2]
  ·have hi':i=e.length:=by omega
   subst hi'
   rw [if_neg (by omega),List.drop_length]
   simp only [wellR]
   by_cases h3:t=1
   ·rw [if_pos h3]
    simp [h3]
    omega
   ·rw [if_neg h3]; simp [h3]
theorem rwell_eq (e:List Item) (he:e.length≤100000) (hn:∀ x∈e,x.2.2.1.length≤100000):Zbh.g e=some (well e,()):=by
 unfold Zbh.g Zbh.f
 exact rwell_loop e he hn _ _ 0 0 (by omega) (by omega) (by omega) (by omega)
end Rv
namespace Rv
open Go
theorem fit13_label (s:Str) (hs:s.length≤9223372036854775807):∃ r,Zaz.g s=some (r,())∧labelOk r=true∧r.length≤8∧(s.length≤6→r≠[122,122,95,122,122]):=by
 unfold Zaz.g Zaz.f
 obtain ⟨r,hr,⟨c,t,rfl,⟨hL,hne,hD⟩,hz⟩,ha,hl⟩:=fit07_eq' s hs
 rw [hr,Option.bind_some]
 simp only [dt]
 split
 ·have e1:mn ((c::t).length:Int) 11=(c::t).length:=by unfold mn; rw [if_neg (by omega)]
  rw [e1,if_pos (by omega)]
  simp only [Int.toNat_natCast,List.take_length,List.drop_zero]
  rw [if_pos (by simp at hl ⊢; omega)]
  refine ⟨_,rfl,?_,by simp at hl ⊢; omega,fun _ e=>by simp at e⟩
  unfold labelOk
  rw [List.all_append,ha]
  have h1:([95]++c::t:Str).getD 0 0=95:=rfl
  have h2:decide (([95]++c::t:Str).length≤12)=true:=by rw [decide_eq_true_eq]; simp at hl ⊢; omega
  rw [h2]
  unfold regLike
  rw [h1]
  rfl
 ·refine ⟨_,rfl,?_,by omega,fun h6 e=>hz h6 (by simp at e; exact e.1)⟩
  unfold labelOk
  have h1:(c::t:Str).getD 0 0=c:=rfl
  have h2:decide ((c::t:Str).length≤12)=true:=by rw [decide_eq_true_eq]; omega
  unfold regLike
  rw [h1,h2,hD,ha,decide_eq_false hne]
  rfl
end Rv
namespace Rv
open Go
def goodItem (x:Item):Prop:=0≤x.2.1∧x.2.1≤4294967295∧(needsR x).2=true
theorem fit15_end (n:Nat):∀ (m:Nat) (out:List Item) (t:Int),enough 0 out=some t→1≤t→t≤10→out.length+t≤20→t.toNat < m→(∀ x∈out,goodItem x) →
  ∃ r,Zac.l21 n m out t=some (r,())∧wellL r∧r.length≤19∧∀ x∈r,goodItem x:=by
 intro m
 induction m with
 | zero=>intro out t _ _ _ _ h; omega
 | succ m ih=>
  intro out t he h1 h10 hl hm hg
  simp only [Zac.l21,dt]
  by_cases h2:1 < t
  ·rw [if_pos h2,if_pos (by simp; omega),w64 (by omega)]
   refine ih _ (t - 1) ?_ (by omega) (by omega) (by simp; omega) (by omega) ?_
   ·rw [enough_app,he,Option.bind_some]
    have e0:needsR ((4:Int),0,([]:Str),())=(2,true):=rfl
    simp only [enough,e0]
    rw [if_pos ⟨trivial,by omega⟩]
    congr 1
   ·intro x hx
    rcases List.mem_append.1 hx with hx | hx
    ·exact hg x hx
    ·rw [List.mem_singleton] at hx
     subst hx
     exact ⟨by decide,by decide,rfl⟩
  ·rw [if_neg h2]
   have:t=1:=by omega
   subst this
   exact ⟨out,rfl,he,by omega,hg⟩
theorem enough_snoc {out:List Item} {t k:Int} {x:Item} (he:enough 0 out=some t) (hx:needsR x=(k,true)) (hk:¬ t < k):enough 0 (out++[x])=some (t+(1 - k)):=by
 rw [enough_app,he,Option.bind_some]
 simp only [enough,hx]
 rw [if_pos ⟨trivial,hk⟩]
theorem fit15_after (n:Nat) (hn:100≤n) (out:List Item) (t:Int) (he:enough 0 out=some t) (h0:0≤t) (h10:t≤out.length) (hl:out.length≤10) (hg:∀ x∈out,goodItem x) :
  ∃ r,Zac.j19 n out t=some (r,())∧wellL r∧r.length≤19∧∀ x∈r,goodItem x:=by
 unfold Zac.j19
 simp only [dt]
 by_cases h:t=0
 ·rw [if_pos h]
  refine ⟨_,rfl,rfl,by simp,fun x hx=>?_⟩
  rw [List.mem_singleton] at hx
  subst hx
  exact ⟨by decide,by decide,rfl⟩
 ·rw [if_neg h]
  exact fit15_end n n out t he (by omega) (by omega) (by omega) (by omega) hg
end Rv
namespace Rv
open Go
theorem tmod6 (k:Int):-6 < Int.tmod k 6∧Int.tmod k 6 < 6:=by
 by_cases h:0≤k
 ·rw [Int.tmod_eq_emod_of_nonneg h]; omega
 ·have:k=-(-k):=by omega
  rw [this,Int.neg_tmod,Int.tmod_eq_emod_of_nonneg (by omega)]; omega
def kindOf (k:Int):Int:=IntKind.i64.wrap (1+Int.tmod (IntKind.i64.wrap (Int.tmod k 6+6)) 6)
theorem kindOf_range (k:Int):1≤kindOf k∧kindOf k≤6:=by
 unfold kindOf
 have h1:=tmod6 k
 rw [w64 (x:=Int.tmod k 6+6) (by omega),Int.tmod_eq_emod_of_nonneg (show 0≤Int.tmod k 6+6 by omega),w64 (by omega)]
 omega
end Rv
namespace Rv
open Go
def wfItems (l:List Item):Prop:=∀ x∈l,0≤x.2.1∧x.2.1≤4294967295∧x.2.2.1.length≤9223372036854775807
theorem fit15_push (n:Nat) (rl) (l out:List Item) (t:Int) (i:Nat) (hi:i < 10) (hlen:out.length=i) (x:Item) :
  Zac.j18 n rl l out t (i:Int) x.1 x.2.1 x.2.2.1=rl l (out++[x]) t ((i+1:Nat):Int):=by
 unfold Zac.j18
 rw [if_pos (by simp; omega),w64 (by omega)]
 rfl
theorem getD_mem {l:List Item} {i:Nat} (h:i < l.length) (d:Item):l.getD i d∈l:=by
 rw [List.getD_eq_getElem?_getD,List.getElem?_eq_getElem h]; exact List.getElem_mem h
theorem fit15_j9 (n:Nat) (rl) (l out:List Item) (t:Int) (i:Nat) (hi:i < 10) (hil:i < l.length) (hlen:out.length=i) (ht:0≤t∧t≤i) (hw:wfItems l) (K:Int) (hK:1≤K∧K≤6) (h3:K=3→1≤t) (h4:4≤K→2≤t) :
  ∃ x k,needsR x=(k,true)∧¬ t < k∧goodItem x∧Zac.j9 n rl l out t (i:Int) K 0 ([]:Str)=rl l (out++[x]) (t+(1 - k)) ((i+1:Nat):Int):=by
 have hx:=hw _ (getD_mem hil ((0:Int),((0:Int),(([]:Str),()))))
 unfold Zac.j9
 simp only [dt,Int.toNat_natCast]
 generalize l.getD i ((0:Int),((0:Int),(([]:Str),())))=y at hx ⊢
 obtain ⟨hy0,hy1,hy2⟩:=hx
 by_cases k1:K=1
 ·subst k1
  rw [if_pos rfl,if_pos (by omega),w64 (by omega)]
  refine ⟨((1:Int),y.2.1,([]:Str),()),0,rfl,by omega,⟨hy0,hy1,rfl⟩,?_⟩
  exact fit15_push n rl l out _ i hi hlen ((1:Int),y.2.1,([]:Str),())
 ·rw [if_neg k1]
  by_cases k2:K=2
  ·subst k2
   have e1:(mn (y.2.2.1.length:Int) 6)=((min y.2.2.1.length 6:Nat):Int):=by unfold mn; split <;> omega
   obtain ⟨r,hr,hlab,_⟩:=fit13_label (y.2.2.1.take (min y.2.2.1.length 6)) (by simp; omega)
   have e2:(y.2.2.1.take (mn (y.2.2.1.length:Int) 6).toNat).drop 0=y.2.2.1.take (min y.2.2.1.length 6):=by rw [e1,Int.toNat_natCast,List.drop_zero]
   rw [if_pos rfl,if_pos (by omega),if_pos (by omega),if_pos (by rw [e1]; omega),e2,hr,Option.bind_some,w64 (by omega)]
   have hn:needsR ((2:Int),0,r,())=(0,true):=by
    unfold needsR
    simp [hlab]
   refine ⟨((2:Int),0,r,()),0,hn,by omega,⟨Int.le_refl 0,(by decide:(0:Int)≤4294967295),by rw [hn]⟩,?_⟩
   exact fit15_push n rl l out _ i hi hlen ((2:Int),0,r,())
  ·rw [if_neg k2]
   by_cases k3:K=3
   ·subst k3
    rw [if_pos rfl]
    refine ⟨((3:Int),0,([]:Str),()),1,rfl,by have:=h3 rfl; omega,⟨by decide,by decide,rfl⟩,?_⟩
    rw [show t+(1 - 1)=t by omega]
    exact fit15_push n rl l out _ i hi hlen ((3:Int),0,([]:Str),())
   ·rw [if_neg k3,w64 (by omega)]
    have hn:needsR (K,0,([]:Str),())=(2,true):=by
     unfold needsR
     have:K=4∨K=5∨K=6:=by omega
     simp [k1,k2,k3,this]
    refine ⟨(K,0,([]:Str),()),2,hn,by have:=h4 (by omega); omega,⟨Int.le_refl 0,(by decide:(0:Int)≤4294967295),by rw [hn]⟩,?_⟩
    rw [show t+(1 - 2)=t - 1 by omega]
    exact fit15_push n rl l out _ i hi hlen (K,0,([]:Str),())
theorem fit15_loop (l:List Item) (hl:l.length≤9223372036854775807) (hw:wfItems l) (n:Nat) (hn:100≤n):∀ (m i:Nat) (out:List Item) (t:Int),i≤l.length→i≤10→10 - i < m→out.length=i→enough 0 out=some t→0≤t→t≤i→(∀ x∈out,goodItem x) →
  ∃ r,Zac.l4 n m l out t (i:Int)=some (r,())∧wellL r∧r.length≤19∧∀ x∈r,goodItem x:=by
 intro m
 induction m with
 | zero=>intro i out t _ _ h; omega
 | succ m ih=>
  intro i out t hi hi10 hm hlen he h0 ht hg
  have fin:=fit15_after n hn out t he h0 (by omega) (by omega) hg
  simp only [Zac.l4,dt,df,Int.toNat_natCast]
  by_cases h1:i < l.length
  ·rw [if_pos (show (i:Int) < l.length by omega)]
   by_cases h2:i < 10
   ·rw [if_pos (show (i:Int) < 10 by omega),if_pos (by omega)]
    have hkk:IntKind.i64.wrap (1+Int.tmod (IntKind.i64.wrap (Int.tmod (l.getD i ((0:Int),((0:Int),(([]:Str),())))).1 6+6)) 6)=kindOf (l.getD i ((0:Int),((0:Int),(([]:Str),())))).1:=rfl
    rw [hkk]
    have hK:=kindOf_range (l.getD i ((0:Int),((0:Int),(([]:Str),())))).1
    generalize kindOf (l.getD i ((0:Int),((0:Int),(([]:Str),())))).1=K at *
    have go:∀ K:Int,1≤K∧K≤6→(K=3→1≤t)→(4≤K→2≤t)→∃ r,Zac.j9 n (Zac.l4 n m) l out t (i:Int) K 0 ([]:Str)=some (r,())∧wellL r∧r.length≤19∧∀ x∈r,goodItem x:=fun K hK h3 h4=>by
     obtain ⟨x,k,hx,hk,hgx,heq⟩:=fit15_j9 n (Zac.l4 n m) l out t i h2 h1 hlen ⟨h0,ht⟩ hw K hK h3 h4
     rw [heq]
     have hr:=needs_range x
     rw [hx] at hr
     refine ih (i+1) (out++[x]) (t+(1 - k)) (by omega) (by omega) (by omega) (by simp [hlen]) (enough_snoc he hx hk) (by simp at hr; omega) (by simp at hr; omega) fun y hy=>?_
     rcases List.mem_append.1 hy with hy | hy
     ·exact hg y hy
     ·rw [List.mem_singleton] at hy; subst hy; exact hgx
    by_cases k3:K=3
    ·rw [if_pos k3]
     by_cases t1:t < 1
     ·rw [if_neg (by omega)]
      exact go 1 (by omega) (by omega) (by omega)
     ·rw [if_pos t1]
      by_cases k4:3 < K
      ·omega
      ·rw [if_neg k4]
       exact go K hK (by omega) (by omega)
    ·rw [if_neg k3]
     by_cases k4:3 < K
     ·rw [if_pos k4]
      by_cases t2:t < 2
      ·rw [if_pos t2]
       exact go 1 (by omega) (by omega) (by omega)
      ·rw [if_neg t2]
       exact go K hK (by omega) (by omega)
     ·rw [if_neg k4]
      exact go K hK (by omega) (by omega)
   ·rw [if_neg (by omega)]
    exact fin
  ·rw [if_neg (by omega)]
   exact fin
theorem fit15_eq (l:List Item) (hl:l.length≤9223372036854775807) (hw:wfItems l):∃ r,Zac.g l=some (r,())∧wellL r∧r.length≤19∧∀ x∈r,goodItem x:=by
 unfold Zac.g Zac.f
 exact fit15_loop l hl hw _ (by omega) _ 0 [] 0 (by omega) (by omega) (by omega) rfl rfl (by omega) (by omega) (fun x hx=>by cases hx)
end Rv
namespace Rv
open Go
theorem find16_loop (l:List Sym) (s:Str) (hl:l.length≤4611686018427387904) (n:Nat):∀ (m i:Nat),i≤l.length→l.length - i < m →
  Zas.l2 n m l s (i:Int)=some ((findR s (l.drop i)).getD 0,(findR s (l.drop i)).isSome,()):=by
 intro m
 induction m with
 | zero=>intro i _ h; omega
 | succ m ih=>
  intro i hi hm
  by_cases h1:i < l.length
  ·have hx:l.drop i=l.getD i (([]:Str),((0:Int),()))::l.drop (i+1):=by
    rw [List.drop_eq_getElem_cons h1,List.getD_eq_getElem?_getD,List.getElem?_eq_getElem h1]; rfl
   rw [hx]
   simp only [Zas.l2,dt,Int.toNat_natCast]
   rw [if_pos (by omega),if_pos (by omega)]
   generalize l.getD i (([]:Str),((0:Int),()))=x
   unfold findR
   by_cases h2:x.1=s
   ·rw [if_pos h2,if_pos h2,if_pos (by omega)]; rfl
   ·rw [if_neg h2,if_neg h2,w64 (by omega),show (i:Int)+1=((i+1:Nat):Int) by omega,ih (i+1) (by omega) (by omega)]
  ·have hi':i=l.length:=by omega
   subst hi'
   simp only [Zas.l2,dt]
   rw [if_neg (by omega),List.drop_length]
   rfl
theorem find16_eq (l:List Sym) (s:Str) (hl:l.length≤4611686018427387904):Zas.g l s=some ((findR s l).getD 0,(findR s l).isSome,()):=by
 unfold Zas.g Zas.f
 have:=find16_loop l s hl (1000+l.length+s.length) (1000+l.length+s.length) 0 (by omega) (by omega)
 rwa [List.drop_zero] at this
theorem findR_mem {s:Str}:∀ {l:List Sym},findR s l=none→s ∉ l.map (·.1)
 | [],_=>by simp
 | x::l,h=>by
  unfold findR at h
  split at h
  ·cases h
  ·rename_i hne
   simp only [List.map_cons,List.mem_cons,not_or]
   exact ⟨fun e=>hne e.symm,findR_mem h⟩
end Rv
namespace Rv
open Go
theorem rof_push (labels:List Sym) (e:List Item) (n:Nat) (rl) (i:Nat) (hi:i≤1000) (b0 b1:Int) (st tl:List Val) (hst:st.length+tl.length≤1000) (v0 v1:Int) :
  Zaj.j29 n rl e labels (st++tl) (i:Int) (st.length:Int) b0 b1 v0 v1=rl e labels (st++[(v0,v1,())]) ((i+1:Nat):Int) b0 b1:=by
 unfold Zaj.j29
 rw [if_pos (by simp; omega),Int.toNat_natCast,List.take_left,List.nil_append,if_pos (by simp; omega),if_pos (by simp; omega),w64 (by omega)]
 rfl
theorem rof_loop (labels:List Sym) (hlab:labels.length≤4611686018427387904) (e:List Item) (he:e.length≤999) (n:Nat):∀ (m i:Nat) (st:List Val) (b0 b1:Int),i≤e.length→e.length - i < m→wellR (st.length:Int) (e.drop i)=true→st.length≤i →
  Zaj.l5 n m e labels st (i:Int) b0 b1=match runR labels st (e.drop i) with
   | .error x=>some (0,0,x,())
   | .ok st'=>lastV st':=by
 intro m
 induction m with
 | zero=>intro i st b0 b1 _ h; omega
 | succ m ih=>
  intro i st b0 b1 hi hm hw hst
  rw [Zaj.l5]
  simp only [dt,df,Int.toNat_natCast]
  by_cases h1:i < e.length
  ·have hx:e.drop i=e.getD i ((0:Int),((0:Int),(([]:Str),())))::e.drop (i+1):=by
    rw [List.drop_eq_getElem_cons h1,List.getD_eq_getElem?_getD,List.getElem?_eq_getElem h1]; rfl
   rw [hx] at hw ⊢
   rw [if_pos (by omega),if_pos (by omega),if_pos (by omega)]
   generalize e.getD i ((0:Int),((0:Int),(([]:Str),())))=x at hw ⊢
   obtain ⟨a,b,c,u⟩:=x
   cases u
   simp only [wellR,Bool.and_eq_true,Bool.not_eq_true',decide_eq_false_iff_not] at hw
   obtain ⟨hk,hlt,hw⟩:=hw
   have next:∀ (s tl:List Val) (v0 v1:Int),s.length+tl.length≤1000→s.length+1≤i+1→wellR ((s.length+1:Nat):Int) (e.drop (i+1))=true →
     Zaj.j29 n (Zaj.l5 n m) e labels (s++tl) (i:Int) (s.length:Int) b0 b1 v0 v1=match runR labels (s++[(v0,v1,())]) (e.drop (i+1)) with
      | .error x=>some (0,0,x,())
      | .ok st'=>lastV st':=fun s tl v0 v1 hs1 hs hws=>by
    rw [rof_push labels e n _ i (by omega) b0 b1 s tl hs1 v0 v1]
    exact ih (i+1) _ b0 b1 (by omega) (by omega) (by simpa using hws) (by simpa using hs)
   simp only [runR,stepR]
   by_cases k2:a=2
   ·subst k2
    rw [if_pos rfl,if_pos rfl,if_pos (by omega),find16_eq labels c hlab,Option.bind_some]
    have e0:(needsR (2,b,c,())).1=0:=rfl
    rw [e0] at hw
    cases hf:findR c labels with
    | none=>rfl
    | some at_=>
     dsimp only [Option.isSome,Option.getD]
     rw [if_neg (by simp)]
     have:=next st [] (IntKind.u32.wrap at_) 1 (by simp; omega) (by omega) (by simpa using hw)
     rwa [List.append_nil] at this
   ·rw [if_neg k2,if_neg k2]
    by_cases k3:a=3
    ·subst k3
     have e0:(needsR (3,b,c,())).1=1:=rfl
     rw [e0] at hlt hw
     rcases snocV st with rfl | ⟨l,v,rfl⟩
     ·simp at hlt
     ·obtain ⟨g1,g2⟩:=last1 l v
      have hw1:IntKind.i64.wrap (((l++[v]).length:Int) - 1)=(l.length:Int):=by rw [w64 (by simp at hst ⊢; omega)]; simp
      have hgd:(l++[v]).getD l.length ((0:Int),((0:Int),()))=v:=by
       rw [List.getD_eq_getElem?_getD,List.getElem?_append_right (Nat.le_refl _)]; simp
      rw [if_pos rfl,if_pos rfl,g1,g2,hw1,if_pos (by simp; omega),if_pos (by simp; omega)]
      simp only [Int.toNat_natCast,hgd]
      exact next l [v] _ _ (by simp at hst ⊢; omega) (by simp at hst; omega) (by simpa using hw)
    ·rw [if_neg k3,if_neg k3]
     by_cases k4:a=4∨a=5∨a=6
     ·have e0:(needsR (a,b,c,())).1=2:=by
       unfold needsR
       rcases k4 with rfl | rfl | rfl <;> rfl
      rw [e0] at hlt hw
      rcases snocV st with rfl | ⟨l0,v,rfl⟩
      ·simp at hlt
      ·rcases snocV l0 with rfl | ⟨l,w,rfl⟩
       ·simp at hlt
       ·obtain ⟨g1,g2⟩:=last1 (l++[w]) v
        obtain ⟨g3,g4⟩:=last1 l w
        rw [if_pos k4,g1,g2,g3,g4]
        dsimp only
        have hw1:IntKind.i64.wrap (((l++[w]++[v]).length:Int) - 2)=(l.length:Int):=by rw [w64 (by simp at hst ⊢; omega)]; simp <;> omega
        have hw2:IntKind.i64.wrap ((l.length:Int)+1)=((l.length+1:Nat):Int):=by rw [w64 (by simp at hst; omega)]; omega
        have hd1:(l++[w]++[v]).getD l.length ((0:Int),((0:Int),()))=w:=by
         rw [List.append_assoc,List.getD_eq_getElem?_getD,List.getElem?_append_right (Nat.le_refl _)]; simp
        have hd2:(l++[w]++[v]).getD (l.length+1) ((0:Int),((0:Int),()))=v:=by
         rw [List.append_assoc,List.getD_eq_getElem?_getD,List.getElem?_append_right (by omega)]; simp
        have hlen:(l++[w]++[v]).length=l.length+2:=by simp
        have hc1:0≤(l.length:Int)∧(l.length:Int) < ((l++[w]++[v]).length:Int):=by rw [hlen]; omega
        have hc2:0≤((l.length+1:Nat):Int)∧((l.length+1:Nat):Int) < ((l++[w]++[v]).length:Int):=by rw [hlen]; omega
        simp only [hw1,hw2,Int.toNat_natCast,hd1,hd2]
        have hs1:l.length+1≤i+1:=by simp at hst; omega
        have hwx:wellR ((l.length+1:Nat):Int) (e.drop (i+1))=true:=by
         have:((l++[w]++[v]).length:Int)+(1 - 2)=((l.length+1:Nat):Int):=by simp; omega
         rw [← this]; exact hw
        have hn:=fun v0 v1=>next l ([w]++[v]) v0 v1 (by simp at hst ⊢; omega) hs1 hwx
        rw [← List.append_assoc] at hn
        rcases k4 with rfl | rfl | rfl
        ·rw [if_pos rfl,if_pos rfl,if_pos hc1,if_pos hc2,if_pos hc1,if_pos hc2]
         exact hn _ _
        ·rw [if_neg (show ¬ (5:Int)=4 by decide),if_neg (show ¬ (5:Int)=4 by decide),if_pos rfl,if_pos rfl,if_pos hc1,if_pos hc2,if_pos hc1,if_pos hc2]
         exact hn _ _
        ·rw [if_neg (show ¬ (6:Int)=4 by decide),if_neg (show ¬ (6:Int)=4 by decide),if_neg (show ¬ (6:Int)=5 by decide),if_neg (show ¬ (6:Int)=5 by decide),if_pos rfl,if_pos hc1]
         by_cases z1:w.2.1=0
         ·rw [if_pos (by simpa using z1),if_pos hc2]
          by_cases z2:v.2.1=0
          ·rw [if_neg (by simpa using z2),if_pos hc1,if_pos hc2,if_pos ⟨z1,z2⟩]
           exact hn _ _
          ·rw [if_pos z2,if_neg (show ¬ (w.2.1=0∧v.2.1=0) from fun h=>z2 h.2)]
         ·rw [if_neg (by simpa using z1),if_neg (show ¬ (w.2.1=0∧v.2.1=0) from fun h=>z1 h.1)]
     ·have ha:a=1:=by
       apply Classical.byContradiction
       intro h1'
       have:(needsR (a,b,c,())).2=false:=by
        unfold needsR
        simp [h1',k2,k3,k4]
       rw [this] at hk
       cases hk
      subst ha
      have e0:(needsR (1,b,c,())).1=0:=rfl
      rw [e0] at hw
      rw [if_neg k4,if_neg (show ¬ (1:Int)=4 by decide),if_neg (show ¬ (1:Int)=5 by decide),if_neg (show ¬ (1:Int)=6 by decide)]
      have:=next st [] b 0 (by simp; omega) (by omega) (by simpa using hw)
      rwa [List.append_nil] at this
  ·have hi':i=e.length:=by omega
   subst hi'
   rw [if_neg (by omega),List.drop_length]
   simp only [runR]
   rw [List.drop_length] at hw
   simp only [wellR,decide_eq_true_eq] at hw
   match st,hw with
   | [v],_=>
    rw [if_pos (by simp)]
    rfl
   | [],hw=>simp at hw
   | _::_::_,hw=>simp at hw; omega
theorem rof_eq (labels:List Sym) (hlab:labels.length≤4611686018427387904) (e:List Item) (he:e.length≤100000) (hn:∀ x∈e,x.2.2.1.length≤100000):Zaj.g e labels=ofR labels e:=by
 unfold Zaj.g Zaj.f ofR
 rw [rwell_eq e he hn,Option.bind_some]
 dsimp only
 by_cases hw:well e=true
 ·rw [hw,if_neg (by decide),if_pos rfl]
  unfold well at hw
  rw [Bool.and_eq_true,decide_eq_true_eq] at hw
  exact rof_loop labels hlab e (by omega) _ _ 0 [] 0 0 (by omega) (by omega) (by simpa using hw.1) (by simp)
 ·have hw':well e=false:=by simpa using hw
  rw [hw']
  rfl
end Rv
namespace Rv
open Go
theorem lsize_eq (x:Ln):Zbi.g x.2.1.1 x.2.1.2.1 x.2.1.2.2.1 x.2.1.2.2.2.1 x.2.1.2.2.2.2.1 x.2.1.2.2.2.2.2.1 x.2.1.2.2.2.2.2.2.1 x.2.1.2.2.2.2.2.2.2.1=some ((sizeN x:Int),()):=by
 unfold Zbi.g Zbi.f sizeN
 simp only [dt]
 by_cases h0:x.2.1.1=0
 ·rw [if_pos h0,if_pos h0,if_pos (.inl h0)]; rfl
 ·rw [if_neg h0]
  by_cases h1:x.2.1.1=10
  ·rw [if_pos h1,if_pos (.inr h1)]; rfl
  ·rw [if_neg h1,if_neg (by rintro (h | h) <;> contradiction)]; rfl
theorem rsize_eq (x:Ln):Zbv.g x.2.1.1 x.2.1.2.1 x.2.1.2.2.1 x.2.1.2.2.2.1 x.2.1.2.2.2.2.1 x.2.1.2.2.2.2.2.1 x.2.1.2.2.2.2.2.2.1 x.2.1.2.2.2.2.2.2.2.1=some ((sizeN x:Int),()):=by
 unfold Zbv.g Zbv.f sizeN
 simp only [dt,df]
 by_cases h0:x.2.1.1=0
 ·rw [if_neg (by simpa using h0),if_pos (.inl h0)]; rfl
 ·rw [if_pos h0]
  by_cases h1:x.2.1.1=10
  ·rw [if_pos h1,if_pos (.inr h1)]; rfl
  ·rw [if_neg h1,if_neg (by rintro (h | h) <;> contradiction)]; rfl
theorem val_is (x:Val) (a b:Int):(decide (x.1=a) && (decide (x.2.1=b) && true))=decide (x=(a,b,())):=by
 obtain ⟨x1,x2,_⟩:=x
 simp only [Bool.and_true]
 by_cases h1:x1=a <;> by_cases h2:x2=b <;> simp [h1,h2]
theorem pool_loop (p:List Val) (a b:Int) (hp:p.length≤1000000) (n:Nat):∀ (m i:Nat),i≤p.length→p.length - i < m →
  Zbj.l2 n m p p (p.length:Int) (i:Int) a b=some (if (a,b,())∈p.drop i then p else p++[(a,b,())],((i+posR (a,b,()) (p.drop i):Nat):Int),()):=by
 intro m
 induction m with
 | zero=>intro i _ h; omega
 | succ m ih=>
  intro i hi hm
  rw [Zbj.l2]
  simp only [val_is,dt,Int.toNat_natCast]
  by_cases h:i < p.length
  ·have hd:p.drop i=p.getD i ((0:Int),((0:Int),()))::p.drop (i+1):=by
    rw [List.drop_eq_getElem_cons h,List.getD_eq_getElem?_getD,List.getElem?_eq_getElem h]; rfl
   rw [if_pos (by omega),if_pos (by omega),hd]
   generalize p.getD i ((0:Int),((0:Int),()))=x
   unfold posR
   by_cases hx:x=(a,b,())
   ·rw [if_pos hx,if_pos (by rw [hx]; simp),if_pos hx]; simp
   ·rw [if_neg hx,if_neg hx,w64 (by omega),show (i:Int)+1=((i+1:Nat):Int) by omega,ih (i+1) (by omega) (by omega)]
    have e:((a,b,())∈x::p.drop (i+1))=((a,b,())∈p.drop (i+1)):=by
     apply propext; rw [List.mem_cons]
     exact ⟨fun h=>h.resolve_left fun e=>hx e.symm,.inr⟩
    simp only [e]
    rw [show i+1+posR (a,b,()) (p.drop (i+1))=i+(posR (a,b,()) (p.drop (i+1))+1) by omega]
  ·obtain rfl:i=p.length:=by omega
   rw [if_neg (by omega),List.drop_length]
   unfold Zcp.g Zcp.f
   rw [if_pos ⟨rfl,rfl,rfl⟩,Option.bind_some]
   dsimp only
   rw [if_pos (by simp),if_pos (by simp; omega),if_neg (by simp)]
   rfl
theorem pool_eq (p:List Val) (a b:Int) (hp:p.length≤1000000):Zbj.g p a b=some (addR p (a,b,()),(posR (a,b,()) p:Int),()):=by
 unfold Zbj.g Zbj.f
 have:=pool_loop p a b hp (1000+p.length+a.toNat+b.toNat) (1000+p.length+a.toNat+b.toNat) 0 (by omega) (by omega)
 rw [List.drop_zero,Nat.zero_add] at this
 exact this
theorem radd_loop (p:List Val) (a b:Int) (hp:p.length≤1000000) (n:Nat):∀ (m i:Nat),i≤p.length→p.length - i < m →
  Zbk.l2 n m p (i:Int) a b=some (if (a,b,())∈p.drop i then p else p++[(a,b,())],((i+posR (a,b,()) (p.drop i):Nat):Int),()):=by
 intro m
 induction m with
 | zero=>intro i _ h; omega
 | succ m ih=>
  intro i hi hm
  rw [Zbk.l2]
  simp only [val_is,dt,Int.toNat_natCast]
  by_cases h:i < p.length
  ·have hd:p.drop i=p.getD i ((0:Int),((0:Int),()))::p.drop (i+1):=by
    rw [List.drop_eq_getElem_cons h,List.getD_eq_getElem?_getD,List.getElem?_eq_getElem h]; rfl
   rw [if_pos (by omega),if_pos (by omega),hd]
   generalize p.getD i ((0:Int),((0:Int),()))=x
   unfold posR
   by_cases hx:x=(a,b,())
   ·rw [if_pos hx,if_pos (by rw [hx]; simp),if_pos hx]; simp
   ·rw [if_neg hx,if_neg hx,w64 (by omega),show (i:Int)+1=((i+1:Nat):Int) by omega,ih (i+1) (by omega) (by omega)]
    have e:((a,b,())∈x::p.drop (i+1))=((a,b,())∈p.drop (i+1)):=by
     apply propext; rw [List.mem_cons]
     exact ⟨fun h=>h.resolve_left fun e=>hx e.symm,.inr⟩
    simp only [e]
    rw [show i+1+posR (a,b,()) (p.drop (i+1))=i+(posR (a,b,()) (p.drop (i+1))+1) by omega]
  ·obtain rfl:i=p.length:=by omega
   rw [if_neg (by omega),List.drop_length,if_pos (by simp; omega),if_pos (by simp; omega),if_neg (by simp)]
   rfl
theorem radd_eq (p:List Val) (a b:Int) (hp:p.length≤1000000):Zbk.g p a b=some (addR p (a,b,()),(posR (a,b,()) p:Int),()):=by
 unfold Zbk.g Zbk.f
 have:=radd_loop p a b hp (1000+p.length+a.toNat+b.toNat) (1000+p.length+a.toNat+b.toNat) 0 (by omega) (by omega)
 rw [List.drop_zero,Nat.zero_add] at this
 exact this
theorem wrap_from {c k:Nat} (hc:c≤1000000) (hk:k≤1):IntKind.i64.wrap (((4 * c:Nat):Int)+IntKind.i64.wrap (4 * (k:Int)))=((4 * (c+k):Nat):Int):=by
 rw [w64 (x:=4 * (k:Int)) (by omega),w64 (by omega)]; omega
theorem plan1_eq (x:Ln) (t:List Int) (lb:List Sym) (q:List Val) (c:Nat) (s:Int) (ht:t.length≤1000000) (hlb:lb.length≤1000000) (hc:c≤1000000) :
  Zbr.g x.1 x.2.1.1 x.2.1.2.1 x.2.1.2.2.1 x.2.1.2.2.2.1 x.2.1.2.2.2.2.1 x.2.1.2.2.2.2.2.1 x.2.1.2.2.2.2.2.2.1 x.2.1.2.2.2.2.2.2.2.1 t lb q ((4 * c:Nat):Int) s =
   some (if x.1=[] then (0,t++[((4 * c:Nat):Int)],lb,q,((4 * (c+sizeN x):Nat):Int),s,()) else if (findR x.1 lb).isSome=true then (26,t++[((4 * c:Nat):Int)],lb,q,((4 * c:Nat):Int),s,())
    else (0,t++[((4 * c:Nat):Int)],lb++[(x.1,((4 * c:Nat):Int),())],q,((4 * (c+sizeN x):Nat):Int),s,())):=by
 unfold Zbr.g
 generalize 1000+_+_+_+_+_+_+_+_+_+_+_+_+_=n
 unfold Zbr.f Zbr.j7
 rw [if_pos (by simp; omega),find_eq lb x.1 (by omega),Option.bind_some,lsize_eq,Option.bind_some]
 dsimp only
 rw [wrap_from hc (sizeN_le x)]
 simp only [Bool.not_eq_true',decide_eq_false_iff_not]
 by_cases h:x.1=[]
 ·rw [if_neg (by simpa using h),if_pos h,Option.bind_some]
  dsimp only
  rw [wrap_from hc (sizeN_le x)]
 ·rw [if_pos h,if_neg h]
  by_cases h2:(findR x.1 lb).isSome=true
  ·rw [if_pos h2,if_pos h2]
  ·rw [if_neg h2,if_neg h2,if_pos (by simp; omega)]
theorem drop_ln {a:List Ln} {i:Nat} (h:i < a.length):a.drop i=a.getD i zL::a.drop (i+1):=by
 rw [List.drop_eq_getElem_cons h,List.getD_eq_getElem?_getD,List.getElem?_eq_getElem h]; rfl
theorem getD_ln {a:List Ln} {i:Nat} (h:i < a.length):a.getD i zL∈a:=by
 rw [List.getD_eq_getElem?_getD,List.getElem?_eq_getElem h]; exact List.getElem_mem h
theorem first44 (a:List Ln) (ha:a.length≤1000000) (n:Nat) (q:List Val) (s:Int):∀ (m i:Nat) (t:List Int) (lb:List Sym) (c:Nat),i≤a.length→a.length - i < m→t.length≤i→lb.length≤i→c≤i →
  ∃ r,Zbt.l2 n m a (a.length:Int) (i:Int) t lb q ((4 * c:Nat):Int) s=some r∧(∀ x,placeR (a.drop i) i t lb c=.error x→r.1=(x.1:Int)∧r.2.1=x.2∧x.2≠0) ∧
   (∀ y,placeR (a.drop i) i t lb c=.ok y→r=(0,0,y.1,y.2.1,q,((4 * y.2.2:Nat):Int),s,())):=by
 intro m
 induction m with
 | zero=>intro i _ _ _ _ h; omega
 | succ m ih=>
  intro i t lb c hi hm ht hlb hc
  rw [Zbt.l2]
  simp only [dt,Int.toNat_natCast]
  by_cases h:i < a.length
  ·rw [if_pos (by omega),if_pos (by omega),plan1_eq _ t lb q c s (by omega) (by omega) (by omega),Option.bind_some,drop_ln h]
   have hs:=sizeN_le (a.getD i zL)
   generalize a.getD i zL=x at hs
   have W:IntKind.i64.wrap ((i:Int)+1)=((i+1:Nat):Int):=by rw [w64 (by omega)]; omega
   rw [placeR,W]
   by_cases h1:x.1=[]
   ·rw [if_pos h1,if_pos h1]
    simp only [ne_eq,not_true_eq_false,↓reduceIte]
    exact ih (i+1) _ _ _ (by omega) (by omega) (by simp; omega) (by omega) (by omega)
   ·rw [if_neg h1,if_neg h1]
    by_cases h2:(findR x.1 lb).isSome=true
    ·rw [if_pos h2,if_pos h2]
     dsimp only
     rw [if_pos (by decide)]
     exact ⟨_,rfl,fun y hy=>by cases hy; exact ⟨rfl,rfl,(by decide:(26:Int)≠0)⟩,fun y hy=>by cases hy⟩
    ·rw [if_neg h2,if_neg h2]
     simp only [ne_eq,not_true_eq_false,↓reduceIte]
     exact ih (i+1) _ _ _ (by omega) (by omega) (by simp; omega) (by simp; omega) (by omega)
  ·obtain rfl:i=a.length:=by omega
   rw [if_neg (by omega),List.drop_length]
   exact ⟨_,rfl,fun x hx=>by (rw [placeR] at hx; cases hx),fun y hy=>by (rw [placeR] at hy; cases hy; rfl)⟩
theorem plan2_eq (x:Ln) (t:List Int) (lb:List Sym) (q:List Val) (f s:Int) (hlb:lb.length≤1000000) (hq:q.length≤1000000) (he:(eL x).length≤4611686018427387904) :
  Zce.g x.1 x.2.1.1 x.2.1.2.1 x.2.1.2.2.1 x.2.1.2.2.2.1 x.2.1.2.2.2.2.1 x.2.1.2.2.2.2.2.1 x.2.1.2.2.2.2.2.2.1 x.2.1.2.2.2.2.2.2.2.1 t lb q f s =
   some (if x.2.1.1=8 then (if (vOf lb (eL x)).2.2.1≠0 then ((vOf lb (eL x)).2.2.1,t,lb,q,f,s,()) else if (vOf lb (eL x)).2.1 < 0∨1 < (vOf lb (eL x)).2.1 then (27,t,lb,q,f,s,())
    else (0,t,lb,addR q ((vOf lb (eL x)).1,(vOf lb (eL x)).2.1,()),f,s,())) else (0,t,lb,q,f,s,())):=by
 unfold Zce.g
 generalize 1000+_+_+_+_+_+_+_+_+_+_+_+_+_=n
 unfold Zce.f
 rw [of_eq lb (by omega) _ he,ofR_vOf,Option.bind_some]
 simp only [dt,df]
 by_cases h8:x.2.1.1=8
 ·rw [if_neg (by simpa using h8),if_pos h8]
  show (if (vOf lb (eL x)).2.2.1≠0 then _ else _)=_
  by_cases h1:(vOf lb (eL x)).2.2.1≠0
  ·rw [if_pos h1,if_pos h1]
  ·rw [if_neg h1,if_neg h1,pool_eq q _ _ hq,Option.bind_some]
   by_cases h2:(vOf lb (eL x)).2.1 < 0
   ·rw [if_neg (by simpa using h2),if_pos (.inl h2)]
   ·rw [if_pos h2]
    by_cases h3:1 < (vOf lb (eL x)).2.1
    ·rw [if_pos h3,if_pos (.inr h3)]
    ·rw [if_neg h3,if_neg (by rintro (h | h) <;> contradiction)]
 ·rw [if_pos h8,if_neg h8]
theorem first45 (a:List Ln) (ha:a.length≤1000000) (he:∀ x∈a,(eL x).length≤4611686018427387904) (n:Nat) (t:List Int) (lb:List Sym) (hlb:lb.length≤1000000) (f s:Int):∀ (m i:Nat) (q:List Val),i≤a.length→a.length - i < m→q.length≤i →
  ∃ r,Zbu.l2 n m a (a.length:Int) (i:Int) t lb q f s=some r∧(∀ x,loadR lb (a.drop i) i q=.error x→r.1=(x.1:Int)∧r.2.1=x.2∧x.2≠0) ∧
   (∀ y,loadR lb (a.drop i) i q=.ok y→r=(0,0,t,lb,y,f,s,())):=by
 intro m
 induction m with
 | zero=>intro i _ _ h; omega
 | succ m ih=>
  intro i q hi hm hq
  rw [Zbu.l2]
  simp only [dt,Int.toNat_natCast]
  by_cases h:i < a.length
  ·rw [if_pos (by omega),if_pos (by omega),plan2_eq _ t lb q f s hlb (by omega) (he _ (getD_ln h)),Option.bind_some,drop_ln h]
   generalize a.getD i zL=x
   have W:IntKind.i64.wrap ((i:Int)+1)=((i+1:Nat):Int):=by rw [w64 (by omega)]; omega
   rw [loadR,W]
   by_cases h8:x.2.1.1=8
   ·rw [if_pos h8,if_pos h8]
    show ∃ r,_∧(∀ y,(if (vOf lb (eL x)).2.2.1≠0 then _ else _)=_→_)∧_
    by_cases h1:(vOf lb (eL x)).2.2.1≠0
    ·rw [if_pos h1]
     dsimp only
     rw [if_pos h1]
     refine ⟨_,rfl,fun y hy=>?_,fun y hy=>?_⟩
     ·rw [if_pos h1] at hy; cases hy; exact ⟨rfl,rfl,h1⟩
     ·rw [if_pos h1] at hy; cases hy
    ·rw [if_neg h1]
     by_cases h2:(vOf lb (eL x)).2.1 < 0∨1 < (vOf lb (eL x)).2.1
     ·rw [if_pos h2]
      dsimp only
      rw [if_pos (by decide)]
      refine ⟨_,rfl,fun y hy=>?_,fun y hy=>?_⟩
      ·rw [if_neg h1,if_pos h2] at hy; cases hy; exact ⟨rfl,rfl,(by decide:(27:Int)≠0)⟩
      ·rw [if_neg h1,if_pos h2] at hy; cases hy
     ·rw [if_neg h2]
      simp only [ne_eq,not_true_eq_false,↓reduceIte]
      have hl:=addR_len q ((vOf lb (eL x)).1,(vOf lb (eL x)).2.1,())
      obtain ⟨r,hr,g1,g2⟩:=ih (i+1) (addR q ((vOf lb (eL x)).1,(vOf lb (eL x)).2.1,())) (by omega) (by omega) (by omega)
      refine ⟨r,hr,fun y hy=>g1 y ?_,fun y hy=>g2 y ?_⟩
      ·rw [if_neg h1,if_neg h2] at hy; exact hy
      ·rw [if_neg h1,if_neg h2] at hy; exact hy
   ·rw [if_neg h8,if_neg h8]
    simp only [ne_eq,not_true_eq_false,↓reduceIte]
    exact ih (i+1) q (by omega) (by omega) (by omega)
  ·obtain rfl:i=a.length:=by omega
   rw [if_neg (by omega),List.drop_length]
   exact ⟨_,rfl,fun x hx=>by (rw [loadR] at hx; cases hx),fun y hy=>by (rw [loadR] at hy; cases hy; rfl)⟩
theorem plan_words {c k:Nat} (hc:c≤1000000) (hk:k≤1000000):IntKind.i64.wrap (IntKind.i64.wrap (Int.tdiv ((4 * c:Nat):Int) 4)+(k:Int))=((c+k:Nat):Int):=by
 have:Int.tdiv ((4 * c:Nat):Int) 4=(c:Int):=by
  rw [Int.tdiv_eq_ediv_of_nonneg (by omega)]; omega
 rw [this,w64 (x:=(c:Int)) (by omega),w64 (by omega)]; omega
theorem plan_eq (a:List Ln) (ha:a.length≤1000000) (he:∀ x∈a,(eL x).length≤4611686018427387904):Zag.g a=some (planR a):=by
 have key:∀ n m,3≤m→Zag.l4 n m a 2 0 [] [] [] 0 0=some (planR a):=by
  intro n m hm
  obtain ⟨k,rfl⟩:∃ k,m=k+3:=⟨m - 3,by omega⟩
  obtain ⟨r,hr,g1,g2⟩:=first44 a ha (1000+a.length+([]:List Int).length+([]:List Sym).length+([]:List Val).length+(0:Int).toNat+(0:Int).toNat) [] 0 (1000+a.length+([]:List Int).length+([]:List Sym).length+([]:List Val).length+(0:Int).toNat+(0:Int).toNat) 0 [] [] 0 (by omega) (by omega) (by simp) (by simp) (by omega)
  rw [List.drop_zero] at g1 g2
  have hr':Zbt.g a [] [] [] 0 0=some r:=hr
  rw [Zag.l4,if_pos (by decide),if_pos rfl,hr',Option.bind_some,Zag.j7]
  unfold planR plFin
  cases hp:placeR a 0 [] [] 0 with
  | error x=>
   obtain ⟨e1,e2,e3⟩:=g1 x hp
   rw [e1,e2]
   simp only [dt]
   rw [if_pos e3]; rfl
  | ok y=>
   obtain rfl:=g2 y hp
   simp only [ne_eq,not_true_eq_false,decide_false,Bool.false_eq_true,↓reduceIte]
   have hl:=placeR_len _ _ _ _ _ hp
   simp only [List.length_nil,Nat.zero_add] at hl
   rw [show IntKind.i64.wrap ((0:Int)+1)=1 from rfl,Zag.l4,if_pos (by decide),if_neg (by decide),if_pos rfl]
   obtain ⟨r2,hr2,k1,k2⟩:=first45 a ha he (1000+a.length+y.1.length+y.2.1.length+([]:List Val).length+(((4 * y.2.2:Nat):Int)).toNat+(0:Int).toNat) y.1 y.2.1 (by omega) ((4 * y.2.2:Nat):Int) 0 (1000+a.length+y.1.length+y.2.1.length+([]:List Val).length+(((4 * y.2.2:Nat):Int)).toNat+(0:Int).toNat) 0 [] (by omega) (by omega) (by simp)
   rw [List.drop_zero] at k1 k2
   have hr2':Zbu.g a y.1 y.2.1 [] ((4 * y.2.2:Nat):Int) 0=some r2:=hr2
   rw [hr2',Option.bind_some,Zag.j7]
   cases hq:loadR y.2.1 a 0 [] with
   | error x=>
    obtain ⟨e1,e2,e3⟩:=k1 x hq
    rw [e1,e2]
    simp only [dt]
    rw [if_pos e3]; rfl
   | ok z=>
    obtain rfl:=k2 z hq
    have hz:=loadR_len _ _ _ _ hq
    simp only [List.length_nil,Nat.zero_add] at hz
    simp only [ne_eq,not_true_eq_false,decide_false,Bool.false_eq_true,↓reduceIte]
    rw [show IntKind.i64.wrap ((1:Int)+1)=2 from rfl,Zag.l4,if_neg (by decide),plan_words (by omega) (by omega)]
    simp only [dt]
    unfold plEnd
    by_cases hw:1024 < y.2.2+z.length
    ·rw [if_pos (by omega)]; dsimp only; rw [if_pos hw]; rfl
    ·rw [if_neg (by omega)]; dsimp only; rw [if_neg hw]
 exact key _ _ (by omega)
end Rv
namespace Rv
open Go
def midL (x:Ln):Prop:=(eL x).length≤100000∧∀ y∈eL x,y.2.2.1.length≤100000
theorem rl13 (a:List Ln) (ha:a.length≤1000000) (he:∀ x∈a,midL x) (n:Nat) (c':List Int) (d':List Sym) (e':List Val) (i' j':Int) (t:List Int) (lb:List Sym) (hlb:lb.length≤1000000) (c:Nat) (hc:c≤1000000):∀ (m i:Nat) (q:List Val),i≤a.length→a.length - i < m→q.length≤i →
  Zae.l13 n m a (i:Int) c' d' e' i' j' t lb q ((4 * c:Nat):Int) 0=some (plEnd t lb c (loadR lb (a.drop i) i q)):=by
 intro m
 induction m with
 | zero=>intro i _ _ h; omega
 | succ m ih=>
  intro i q hi hm hq
  rw [Zae.l13]
  simp only [dt,Int.toNat_natCast]
  by_cases h:i < a.length
  ·have hx:=he _ (getD_ln h)
   rw [if_pos (by omega),if_pos (by omega),drop_ln h]
   generalize a.getD i zL=x at hx
   have W:IntKind.i64.wrap ((i:Int)+1)=((i+1:Nat):Int):=by rw [w64 (by omega)]; omega
   have W2:((i:Nat):Int)+1=((i+1:Nat):Int):=by omega
   rw [loadR]
   by_cases h8:x.2.1.1=8
   ·rw [if_neg (by simpa using h8),if_pos h8,if_pos (by omega),rof_eq lb (by omega) _ hx.1 hx.2,ofR_vOf,Option.bind_some]
    have J:∀ k:Int,Zae.j19 n (Zae.l13 n m) a (i:Int) k c' d' e' i' j' t lb q ((4 * c:Nat):Int) 0 (vOf lb (eL x)).1 (vOf lb (eL x)).2.1 =
      some (if k≠0 then noPlan (i+1) k else plEnd t lb c (loadR lb (a.drop (i+1)) (i+1) (addR q ((vOf lb (eL x)).1,(vOf lb (eL x)).2.1,())))):=fun k=>by
     unfold Zae.j19 Zae.j14
     simp only [dt]
     rw [W,radd_eq q _ _ (by omega),Option.bind_some]
     by_cases hk:k≠0
     ·rw [if_pos hk,if_pos hk]; rfl
     ·rw [if_neg hk,if_neg hk]
      exact ih (i+1) _ (by omega) (by omega) (Nat.le_trans (addR_len _ _) (by omega))
    show (if (vOf lb (eL x)).2.2.1=0 then _ else Zae.j19 _ _ _ _ _ _ _ _ _ _ _ _ _ _ _ (vOf lb (eL x)).1 (vOf lb (eL x)).2.1)=some (plEnd t lb c (if (vOf lb (eL x)).2.2.1≠0 then _ else _))
    by_cases h1:(vOf lb (eL x)).2.2.1=0
    ·rw [if_pos h1,if_neg (show ¬ ((vOf lb (eL x)).2.2.1≠0) from fun hh=>hh h1)]
     by_cases h2:(vOf lb (eL x)).2.1 < 0∨1 < (vOf lb (eL x)).2.1
     ·rw [if_pos h2]
      show (if (vOf lb (eL x)).2.1≠0 then (if (vOf lb (eL x)).2.1≠1 then Zae.j19 _ _ _ _ _ _ _ _ _ _ _ _ _ _ _ (vOf lb (eL x)).1 (vOf lb (eL x)).2.1 else _) else _)=_
      rw [if_pos (by omega),if_pos (by omega),J 27,if_pos (by decide)]; rfl
     ·rw [if_neg h2]
      show (if (vOf lb (eL x)).2.1≠0 then (if (vOf lb (eL x)).2.1≠1 then _ else Zae.j19 _ _ _ _ _ _ _ _ _ _ _ _ _ _ _ (vOf lb (eL x)).1 (vOf lb (eL x)).2.1) else Zae.j19 _ _ _ _ _ _ _ _ _ _ _ _ _ _ _ (vOf lb (eL x)).1 (vOf lb (eL x)).2.1)=_
      have hJ:=J (vOf lb (eL x)).2.2.1
      rw [if_neg (show ¬ ((vOf lb (eL x)).2.2.1≠0) from fun hh=>hh h1)] at hJ
      by_cases h3:(vOf lb (eL x)).2.1≠0
      ·rw [if_pos h3,if_neg (by omega)]; exact hJ
      ·rw [if_neg h3]; exact hJ
    ·rw [if_neg h1,if_pos h1,J,if_pos h1]; rfl
   ·rw [if_pos h8,if_neg h8]
    unfold Zae.j14
    rw [W]
    exact ih (i+1) q (by omega) (by omega) (by omega)
  ·obtain rfl:i=a.length:=by omega
   rw [if_neg (by omega),List.drop_length,loadR,plan_words hc (by omega)]
   unfold plEnd
   by_cases hw:1024 < c+q.length
   ·rw [if_pos (by omega)]; dsimp only; rw [if_pos hw]; rfl
   ·rw [if_neg (by omega)]; dsimp only; rw [if_neg hw]
theorem rl3 (a:List Ln) (ha:a.length≤1000000) (he:∀ x∈a,midL x) (n:Nat) (hn:a.length < n) (c':List Int) (d':List Sym) (e':List Val) (i' j':Int):∀ (m i:Nat) (t:List Int) (lb:List Sym) (c:Nat),i≤a.length→a.length - i < m→t.length≤i→lb.length≤i→c≤i →
  Zae.l3 n m a (i:Int) c' d' e' i' j' t lb [] ((4 * c:Nat):Int) 0=some (plFin a (placeR (a.drop i) i t lb c)):=by
 intro m
 induction m with
 | zero=>intro i _ _ _ _ h; omega
 | succ m ih=>
  intro i t lb c hi hm ht hlb hc
  rw [Zae.l3]
  simp only [dt,Int.toNat_natCast]
  by_cases h:i < a.length
  ·rw [if_pos (by omega),if_pos (by simp; omega),if_pos (by omega),drop_ln h]
   have W:IntKind.i64.wrap ((i:Int)+1)=((i+1:Nat):Int):=by rw [w64 (by omega)]; omega
   have J:∀ (t':List Int) (lb':List Sym),Zae.j11 n (Zae.l3 n m) a (i:Int) c' d' e' i' j' t' lb' [] ((4 * c:Nat):Int) 0=Zae.l3 n m a ((i+1:Nat):Int) c' d' e' i' j' t' lb' [] ((4 * (c+sizeN (a.getD i zL)):Nat):Int) 0:=fun t' lb'=>by
    unfold Zae.j11
    simp only [Int.toNat_natCast]
    rw [if_pos (by omega),rsize_eq,Option.bind_some]
    dsimp only
    rw [wrap_from (by omega) (sizeN_le _),W]
   have hs:=sizeN_le (a.getD i zL)
   rw [placeR]
   by_cases h1:(a.getD i zL).1=[]
   ·rw [if_neg (by simpa using h1),if_pos h1,J]
    exact ih (i+1) _ _ _ (by omega) (by omega) (by simp; omega) (by omega) (by omega)
   ·rw [if_pos (by simpa using h1),if_neg h1,if_pos (by omega),find16_eq lb (a.getD i zL).1 (by omega),Option.bind_some]
    dsimp only
    by_cases h2:(findR (a.getD i zL).1 lb).isSome=true
    ·rw [if_pos h2,if_pos h2,W]; rfl
    ·rw [if_neg h2,if_neg h2,if_pos (by omega),if_pos (by simp; omega),J]
     exact ih (i+1) _ _ _ (by omega) (by omega) (by simp; omega) (by simp; omega) (by omega)
  ·obtain rfl:i=a.length:=by omega
   rw [if_neg (by omega),List.drop_length,placeR]
   exact rl13 a ha he n c' d' e' i' j' t lb (by omega) c (by omega) n 0 [] (by omega) (by omega) (by simp)
theorem rplan_eq (a:List Ln) (ha:a.length≤1000000) (he:∀ x∈a,midL x):Zae.g a=some (planR a):=by
 unfold Zae.g Zae.f planR
 have:=rl3 a ha he (1000+a.length) (by omega) [] [] [] 0 0 (1000+a.length) 0 [] [] 0 (by omega) (by omega) (by simp) (by simp) (by omega)
 rw [List.drop_zero] at this
 exact this
theorem same08 (a:List Int) (ha:a.length≤1000000):Zbl.g a a=some (true,()):=by
 have loop:∀ (n m i:Nat),i≤a.length→a.length - i < m→Zbl.l4 n m a a (i:Int)=some (true,()):=by
  intro n m
  induction m with
  | zero=>intro i _ h; omega
  | succ m ih=>
   intro i hi hm
   rw [Zbl.l4]
   simp only [dt]
   by_cases h:i < a.length
   ·rw [if_pos (by omega),if_pos (by omega),if_pos (by omega),if_neg (by simp),w64 (by omega)]
    exact ih (i+1) (by omega) (by omega)
   ·rw [if_neg (by omega)]
 unfold Zbl.g Zbl.f
 rw [if_neg (by simp)]
 exact loop _ _ 0 (by omega) (by omega)
theorem same19 (a:List Val) (ha:a.length≤1000000):Zbm.g a a=some (true,()):=by
 have loop:∀ (n m i:Nat),i≤a.length→a.length - i < m→Zbm.l4 n m a a (i:Int)=some (true,()):=by
  intro n m
  induction m with
  | zero=>intro i _ h; omega
  | succ m ih=>
   intro i hi hm
   rw [Zbm.l4]
   simp only [dt]
   by_cases h:i < a.length
   ·rw [if_pos (by omega),if_pos (by omega),if_pos (by omega),if_neg (by simp),w64 (by omega)]
    exact ih (i+1) (by omega) (by omega)
   ·rw [if_neg (by omega)]
 unfold Zbm.g Zbm.f
 rw [if_neg (by simp)]
 exact loop _ _ 0 (by omega) (by omega)
theorem same20 (t:List Int) (lb:List Sym) (q:List Val) (f w:Int) (ht:t.length≤1000000) (hlb:lb.length≤1000000) (hq:q.length≤1000000):Zbe.g t lb q f w t lb q f w=some (true,()):=by
 have loop:∀ (n m i:Nat),i≤lb.length→lb.length - i < m→Zbe.l4 n m (i:Int) t lb q f w t lb q f w=some (true,()):=by
  intro n m
  induction m with
  | zero=>intro i _ h; omega
  | succ m ih=>
   intro i hi hm
   rw [Zbe.l4]
   simp only [dt]
   by_cases h:i < lb.length
   ·rw [if_pos (by omega),if_pos (by omega),if_pos (by omega),if_neg (by simp),w64 (by omega)]
    exact ih (i+1) (by omega) (by omega)
   ·rw [if_neg (by omega),same08 t ht,Option.bind_some,if_pos rfl,same19 q hq]; rfl
 unfold Zbe.g Zbe.f
 rw [if_pos (by simp),if_pos (by simp),if_neg (by simp)]
 exact loop _ _ 0 (by omega) (by omega)
theorem planR_len (l:List Ln):(planR l).1.length≤l.length∧(planR l).2.1.length≤l.length∧(planR l).2.2.1.length≤l.length:=by
 unfold planR plFin
 cases hp:placeR l 0 [] [] 0 with
 | error x=>exact ⟨Nat.zero_le _,Nat.zero_le _,Nat.zero_le _⟩
 | ok r=>
  have h1:=placeR_len _ _ _ _ _ hp
  dsimp only
  cases hq:loadR r.2.1 l 0 [] with
  | error x=>exact ⟨Nat.zero_le _,Nat.zero_le _,Nat.zero_le _⟩
  | ok p=>
   have h2:=loadR_len _ _ _ _ hq
   unfold plEnd
   dsimp only
   simp only [List.length_nil,Nat.zero_add] at h1 h2
   split
   ·exact ⟨Nat.zero_le _,Nat.zero_le _,Nat.zero_le _⟩
   ·exact ⟨by dsimp only; omega,by dsimp only; omega,h2⟩
end Rv
namespace Rv
open Go
end Rv
namespace Rv
open Go
def rg (x:Int):Prop:=0≤x∧x < 16
inductive GoodI0:Int→Int→Int→Int→Int→Bool→Prop
 | reg {o a b c:Int} {u:Bool}:0 < o→o < 12→rg a→rg b→rg c→(u=true→8≤o∧o≤10)→GoodI0 1 o a b c u
 | mov {a c:Int}:rg a→rg c→GoodI0 1 0 a 0 c false
 | imm {o a b:Int} {u:Bool}:0 < o→o < 12→rg a→rg b→(u=true→8≤o∧o≤10)→GoodI0 2 o a b 0 u
 | movi {a:Int} {u:Bool}:rg a→GoodI0 2 0 a 0 0 u
 | hi {a:Int}:rg a→GoodI0 3 0 a 0 0 false
 | fl {a:Int}:rg a→GoodI0 4 0 a 0 0 false
 | mem {o a b:Int}:0≤o→o < 4→rg a→rg b→GoodI0 5 o a b 0 false
 | br {o c:Int} {u:Bool}:rg o→rg c→GoodI0 6 o 0 0 c u
 | jmp {o:Int} {u:Bool}:rg o→GoodI0 7 o 0 0 0 u
end Rv
namespace Rv
open Go
end Rv
namespace Rv
open Go
end Rv
namespace Rv
open Go
end Rv
namespace Rv
open Go
set_option maxRecDepth 100000
end Rv
namespace Rv
open Go
end Rv
namespace Rv
open Go
abbrev TokL:=Int×Int×Str×Int×Unit
end Rv
namespace Rv
open Go
inductive Opr
 | add | sub | mul
def Opr.kind:Opr→Int
 | .add=>4 | .sub=>5 | .mul=>6
def Opr.byte:Opr→UInt8
 | .add=>43 | .sub=>45 | .mul=>42
def Opr.tight:Opr→Nat
 | .mul=>1 | _=>0
inductive Tr
 | num (n:Int) | nam (s:Str) | neg (x:Tr) | bin (o:Opr) (a b:Tr) | br (x:Tr)
namespace Tr
def post:Tr→List Item
 | .num n=>[(1,n,[],())]
 | .nam s=>[(2,0,s,())]
 | .neg x=>x.post++[(3,0,[],())]
 | .bin o a b=>a.post++b.post++[(o.kind,0,[],())]
 | .br x=>x.post
def ok:Tr→Prop
 | .num n=>0≤n∧n≤4294967295
 | .nam s=>labelOk s=true
 | .neg x=>x.ok
 | .bin _ a b=>a.ok∧b.ok
 | .br x=>x.ok
def plain:Tr→Prop
 | .neg x=>x.plain
 | .bin _ a b=>a.plain∧b.plain
 | .br _=>False
 | _=>True
def tight:Tr→Nat
 | .bin o _ _=>o.tight
 | _=>2
end Tr
abbrev Bt:=Int×Str×Int
def bare (t:TokL):Bt:=(t.1,t.2.2.1,t.2.2.2.1)
namespace Tr
theorem post_pos:∀ x:Tr,1≤x.post.length
 | .num _=>by simp [post]
 | .nam _=>by simp [post]
 | .neg _=>by simp [post]
 | .bin _ _ _=>by simp [post]; omega
 | .br x=>post_pos x
def cnt (l:List Bt):Nat:=l.countP fun b=>decide (b.2.1=[45]) || decide (b.2.1=[40])
end Tr
theorem item_cases {x:Item} (h:(needsR x).2=true):(∃ n,x=(1,n,[],()))∨(∃ s,x=(2,0,s,())∧labelOk s=true)∨x=(3,0,[],())∨∃ o:Opr,x=(o.kind,0,[],()):=by
 obtain ⟨a,b,c,u⟩:=x
 cases u
 unfold needsR at h
 dsimp only at h
 split at h
 ·rename_i h1
  simp only [decide_eq_true_eq] at h
  exact .inl ⟨b,by rw [h1,h]⟩
 ·split at h
  ·rename_i h2
   simp only [Bool.and_eq_true,decide_eq_true_eq] at h
   exact .inr (.inl ⟨c,by rw [h2,h.1],h.2⟩)
  ·split at h
   ·rename_i h3
    simp only [Bool.and_eq_true,decide_eq_true_eq] at h
    exact .inr (.inr (.inl (by rw [h3,h.1,h.2])))
   ·split at h
    ·rename_i h4
     simp only [Bool.and_eq_true,decide_eq_true_eq] at h
     obtain ⟨rfl,rfl⟩:=h
     rcases h4 with rfl | rfl | rfl
     ·exact .inr (.inr (.inr ⟨.add,rfl⟩))
     ·exact .inr (.inr (.inr ⟨.sub,rfl⟩))
     ·exact .inr (.inr (.inr ⟨.mul,rfl⟩))
    ·cases h
theorem snocT (l:List Tr):l=[]∨∃ a x,l=a++[x]:=by
 rcases List.eq_nil_or_concat l with h | ⟨a,x,h⟩
 ·exact .inl h
 ·exact .inr ⟨a,x,by simpa using h⟩
def posts (st:List Tr):List Item:=(st.map Tr.post).flatten
theorem posts_app (a b:List Tr):posts (a++b)=posts a++posts b:=by simp [posts]
theorem posts_one (x:Tr):posts [x]=x.post:=by simp [posts]
theorem trees_of:∀ (e:List Item) (st:List Tr) (k:Int),enough (st.length:Int) e=some k→(∀ x∈e,goodItem x)→(∀ x∈st,x.ok∧x.plain) →
  ∃ st':List Tr,(st'.length:Int)=k∧posts st++e=posts st'∧∀ x∈st',x.ok∧x.plain
 | [],st,k,h,_,ho=>by
  simp only [enough,Option.some.injEq] at h
  exact ⟨st,h,by simp,ho⟩
 | x::e,st,k,h,hg,ho=>by
  have hgx:=hg x (by simp)
  unfold enough at h
  split at h
  case isFalse=>cases h
  rename_i hc
  have push:∀ (l:List Tr) (t:Tr),(∀ y∈l,y.ok∧y.plain)→t.ok∧t.plain→((l.length:Int)+1=st.length+(1 - (needsR x).1))→posts st++[x]=posts l++t.post→∃ st':List Tr,(st'.length:Int)=k∧posts st++x::e=posts st'∧∀ x∈st',x.ok∧x.plain:=by
   intro l t hl ht hlen hp
   obtain ⟨st',h1,h2,h3⟩:=trees_of e (l++[t]) k (by rw [show ((l++[t]).length:Int)=st.length+(1 - (needsR x).1) by rw [← hlen]; simp]; exact h) (fun y hy=>hg y (by simp [hy])) (fun y hy=>by
    rcases List.mem_append.1 hy with hy | hy
    ·exact hl y hy
    ·rw [List.mem_singleton] at hy; subst hy; exact ht)
   refine ⟨st',h1,?_,h3⟩
   rw [← h2,posts_app,posts_one,← hp]; simp
  rcases item_cases hc.1 with ⟨n,rfl⟩ | ⟨s,rfl,hs⟩ | rfl | ⟨o,rfl⟩
  ·exact push st (.num n) ho ⟨⟨hgx.1,hgx.2.1⟩,trivial⟩ (by rw [show (needsR (1,n,[],())).1=0 from rfl]; omega) rfl
  ·exact push st (.nam s) ho ⟨hs,trivial⟩ (by rw [show (needsR (2,0,s,())).1=0 from rfl]; omega) rfl
  ·have e1:(needsR (3,0,[],())).1=1:=rfl
   rcases snocT st with rfl | ⟨l,v,rfl⟩
   ·exact absurd hc.2 (by rw [e1]; simp)
   ·have hv:=ho v (by simp)
    exact push l (.neg v) (fun y hy=>ho y (by simp [hy])) hv (by rw [e1]; simp <;> omega) (by rw [posts_app,posts_one]; simp [Tr.post])
  ·have e2:(needsR (o.kind,0,[],())).1=2:=by cases o <;> rfl
   rcases snocT st with rfl | ⟨l0,v,rfl⟩
   ·exact absurd hc.2 (by rw [e2]; simp)
   ·rcases snocT l0 with rfl | ⟨l,w,rfl⟩
    ·exact absurd hc.2 (by rw [e2]; simp)
    ·exact push l (.bin o w v) (fun y hy=>ho y (by simp [hy])) ⟨⟨(ho w (by simp)).1,(ho v (by simp)).1⟩,(ho w (by simp)).2,(ho v (by simp)).2⟩ (by rw [e2]; simp <;> omega) (by rw [posts_app,posts_app,posts_one,posts_one]; simp [Tr.post])
theorem tree_of {e:List Item} (h:wellL e) (hg:∀ x∈e,goodItem x):∃ t:Tr,t.post=e∧t.ok∧t.plain:=by
 obtain ⟨st,h1,h2,h3⟩:=trees_of e [] 1 h hg (fun x hx=>by cases hx)
 match st,h1,h2,h3 with
 | [t],_,h2,h3=>exact ⟨t,by rw [posts_one] at h2; exact h2.symm,h3 t (by simp)⟩
 | [],h1,_,_=>simp at h1
 | _::_::_,h1,_,_=>simp at h1; omega
end Rv
namespace Rv
open Go
end Rv
namespace Rv
open Go
def brkT (b:Bool) (s:Str):Str:=if b then 40::(s++[41]) else s
namespace Tr
def txt:Tr→Str
 | .num n=>Lib.itoa n
 | .nam s=>s
 | .neg x=>45::brkT (decide (x.tight < 2)) x.txt
 | .bin o a b=>brkT (decide (a.tight < o.tight)) a.txt++([32,o.byte,32]++brkT (decide (b.tight < o.tight+1)) b.txt)
 | .br x=>40::(x.txt++[41])
end Tr
end Rv
namespace Rv
open Go
def parts (st:List Tr):List (Str×Int×Unit):=st.map fun t=>(t.txt,(t.tight:Int),())
end Rv
namespace Rv
open Go
abbrev R:=rec_expr_parser_sum
def mc:Tr→Nat
 | .bin .mul a _=>mc a+1
 | _=>0
end Rv
namespace Rv
open Go
end Rv
namespace Rv
open Go
theorem fit_tree (l:List Item) (hl:l.length≤9223372036854775807) (hw:wfItems l):∃ t:Tr,Zac.g l=some (t.post,())∧t.ok∧t.plain∧wellL t.post∧t.post.length≤19:=by
 obtain ⟨r,h1,h2,h3,h4⟩:=fit15_eq l hl hw
 obtain ⟨t,rfl,ho,hp⟩:=tree_of h2 h4
 exact ⟨t,h1,ho,hp,h2,h3⟩
end Rv
namespace Rv
open Go
structure Sm where
 k:Int
 o:Int
 a:Int
 b:Int
 c:Int
 u:Bool
 e:List Item
 nm:Str
def okT' (t:Tr):Prop:=t.ok∧t.plain∧wellL t.post∧t.post.length≤64
def postO:Option Tr→List Item
 | none=>[]
 | some t=>t.post
inductive GoodS:Sm→Option Tr→Prop
 | none:GoodS ⟨0,0,0,0,0,false,[],[]⟩ none
 | ins0 {k o a b c:Int} {u:Bool}:GoodI0 k o a b c u→(k=1∨k=3∨k=4∨k=6)→GoodS ⟨k,o,a,b,c,u,[],[]⟩ none
 | ins1 {k o a b c:Int} {u:Bool} {t:Tr}:GoodI0 k o a b c u→(k=2∨k=5∨k=7)→okT' t→GoodS ⟨k,o,a,b,c,u,t.post,[]⟩ (some t)
 | load {a:Int} {t:Tr}:rg a→okT' t→GoodS ⟨8,0,a,0,0,false,t.post,[]⟩ (some t)
 | word {t:Tr}:okT' t→GoodS ⟨9,0,0,0,0,false,t.post,[]⟩ (some t)
 | exp {nm:Str}:nameOk nm=true→GoodS ⟨10,0,0,0,0,false,[],nm⟩ none
end Rv
