/- Texts put together. -/
import Derived.Test.YtbommpjdbjfdjaaGreatDoorI1
import Derived.Test.YtbommpjdbjfdjaaGreatDoorC6
import Derived.Test.YtbommpjdbjfdjaaGreatDoorC1
import Derived.IntWalk
set_option linter.all false
namespace Rv
open Go Go.Proofs
noncomputable section
set_option maxRecDepth 100000
set_option maxHeartbeats 2000000
variable {ad:LQ}
abbrev u0:Ty:=.pair (.int .i64) (.pair (.int .i64) (.pair .str (.pair (.int .u32) .nil)))
abbrev u1:Ty:=.pair (.int .i64) (.pair (.int .u32) (.pair .str .nil))
abbrev u2:Ty:=.pair .str (.pair (.pair (.int .i64) (.pair (.int .i64) (.pair (.int .i64) (.pair (.int .i64) (.pair (.int .i64) (.pair .bool (.pair (.sl (.pair (.int .i64) (.pair (.int .u32) (.pair .str .nil)))) (.pair .str .nil)))))))) .nil)
abbrev u3:Ty:=.pair .str (.pair (.int .i64) .nil)
abbrev u4:Ty:=.pair (.int .u32) (.pair (.int .i64) .nil)
abbrev u5:Ty:=.pair (.int .i64) (.pair (.int .i64) (.pair (.int .i64) .nil))
abbrev u6:Ty:=.pair (.sl (.int .i64)) (.pair (.sl (.pair .str (.pair (.int .i64) .nil))) (.pair (.sl (.pair (.int .u32) (.pair (.int .i64) .nil))) (.pair (.int .i64) (.pair (.int .i64) .nil))))
abbrev u7:Ty:=.pair (.int .i64) (.pair (.int .i64) (.pair (.int .i64) (.pair (.int .i64) (.pair (.int .i64) (.pair .bool (.pair (.sl (.pair (.int .i64) (.pair (.int .u32) (.pair .str .nil)))) (.pair .str .nil)))))))
abbrev u8:Ty:=.pair (.sl (.int .u32)) (.pair (.sl (.int .i64)) (.pair (.sl (.pair .str (.pair (.int .i64) .nil))) .nil))
abbrev u9:Ty:=.pair (.int .i64) (.pair (.int .i64) (.pair (.int .i64) (.pair (.int .i64) (.pair (.int .i64) (.pair (.int .i64) (.pair .bool .nil))))))
abbrev u10:Ty:=.pair (.pair (.sl (.int .i64)) (.pair (.sl (.pair .str (.pair (.int .i64) .nil))) (.pair (.sl (.pair (.int .u32) (.pair (.int .i64) .nil))) (.pair (.int .i64) (.pair (.int .i64) .nil))))) (.pair (.pair (.sl (.int .u32)) (.pair (.sl (.int .i64)) (.pair (.sl (.pair .str (.pair (.int .i64) .nil))) .nil))) .nil)
abbrev u11:Ty:=.pair .fn (.pair .fn .nil)
abbrev u12:Ty:=.pair (.int .i64) (.pair (.int .i64) .nil)
abbrev u13:Ty:=.pair (.sl (.pair (.int .i64) (.pair (.int .i64) (.pair .str (.pair (.int .u32) .nil))))) (.pair (.int .i64) (.pair (.int .i64) .nil))
abbrev u14:Ty:=.pair (.sl (.pair (.int .i64) (.pair (.int .i64) (.pair .str (.pair (.int .u32) .nil))))) (.pair (.int .i64) (.pair (.sl (.pair (.int .i64) (.pair (.int .u32) (.pair .str .nil)))) (.pair (.int .i64) .nil)))
abbrev c0:List CD:=[ki,ki,ki,ki,ki,.bool,.sl u1,.str]
abbrev c1:List CD:=[.sl u0,ki,.row 56 u1,ki]
abbrev c2:List CD:=[.str,ki,ki,ki,ki,ki,.bool,.sl u1,.str]
abbrev c3:List CD:=[.row 3 (.int .i64),.row 52 u3,.sl u4,ki,ki]
abbrev c4:List CD:=[.sl (.int .i64),.sl u3,.sl u4,ki,ki,.row 43 (.int .u32),.row 3 (.int .i64),.row 52 u3]
abbrev c5:List CD:=[ki,ki,ki,ki,ki,ki,.bool]
abbrev c6:List CD:=[.row 43 (.int .u32),.row 3 (.int .i64),.row 52 u3]
abbrev c7:List CD:=[.sl (.int .i64),.sl u3,.sl u4,ki,ki]
def types:List (TypeId×TI):=[
 tI 2 .i64 8,
 tI 3 .i64 8,
 tB 4 1,
 tI 5 .u8 1,
 tS 9 16,
 tI 21 .i32 4,
 tL 22 38 u2,
 tL 24 3 (.int .i64),
 tL 25 52 u3,
 tL 26 45 u4,
 (28,⟨5,true,88,[.nilS,.nilS,.nilS,.int .i64 0,.int .i64 0],[(0,1,false),(1,1,false),(2,1,false),(3,1,false),(4,1,false)],none,some u6,none,false,false,false,none,none⟩),
 tI 29 .i64 8,
 tL 34 56 u1,
 (36,⟨8,true,88,[.int .i64 0,.int .i64 0,.int .i64 0,.int .i64 0,.int .i64 0,.bool false,.nilS,.str []],[(0,1,false),(1,1,false),(2,1,false),(3,1,false),(4,1,false),(5,1,false),(6,1,false),(7,1,false)],none,some u7,none,false,false,false,none,none⟩),
 (38,⟨9,true,104,[.str [],.int .i64 0,.int .i64 0,.int .i64 0,.int .i64 0,.int .i64 0,.bool false,.nilS,.str []],[(0,1,false),(1,8,true)],none,some u2,none,false,false,false,none,none⟩),
 tI 43 .u32 4,
 (45,⟨2,true,16,[.int .u32 0,.int .i64 0],[(0,1,false),(1,1,false)],none,some u4,none,false,false,false,some u4,none⟩),
 (52,⟨2,true,24,[.str [],.int .i64 0],[(0,1,false),(1,1,false)],none,some u3,none,false,false,false,none,none⟩),
 (56,⟨3,true,32,[.int .i64 0,.int .u32 0,.str []],[(0,1,false),(1,1,false),(2,1,false)],none,some u1,none,false,false,false,none,none⟩),
 tL 58 43 (.int .u32),
 (60,⟨3,true,72,[.nilS,.nilS,.nilS],[(0,1,false),(1,1,false),(2,1,false)],none,some u8,none,false,false,false,none,none⟩),
 (68,⟨7,true,56,[.int .i64 0,.int .i64 0,.int .i64 0,.int .i64 0,.int .i64 0,.int .i64 0,.bool false],[(0,1,false),(1,1,false),(2,1,false),(3,1,false),(4,1,false),(5,1,false),(6,1,false)],none,some u9,none,false,false,false,some u9,none⟩),
 tL 84 5 (.int .u8),
 (90,⟨1,false,8,[.raw .nilFunc],[],none,some .fn,none,false,false,false,none,none⟩),
 tL 93 90 .fn,
 tL 103 45 u4,
 (107,⟨1,false,8,[.raw (.pointer none)],[],none,none,none,false,false,false,none,none⟩),
 (109,⟨8,true,160,[.nilS,.nilS,.nilS,.int .i64 0,.int .i64 0,.nilS,.nilS,.nilS],[(0,5,true),(5,3,true)],none,some u10,none,false,false,false,none,none⟩),
 tL 116 9 .str,
 tL 144 195 u0,
 (160,⟨3,true,24,[.int .i64 0,.int .i64 0,.int .i64 0],[],none,some u5,none,false,false,false,none,some 3⟩),
 tI 165 .u64 8,
 tL 171 176 u11,
 (173,⟨1,false,8,[.raw .nilFunc],[],none,some .fn,none,false,false,false,none,none⟩),
 (176,⟨2,true,16,[.raw .nilFunc,.raw .nilFunc],[(0,1,false),(1,1,false)],none,some u11,none,false,false,false,none,none⟩),
 (182,⟨1,false,16,[.raw .nilIface],[],none,none,none,false,true,false,none,none⟩),
 (195,⟨4,true,40,[.int .i64 0,.int .i64 0,.str [],.int .u32 0],[(0,1,false),(1,1,false),(2,1,false),(3,1,false)],none,some u0,none,false,false,false,none,none⟩),
 (208,⟨2,true,16,[.int .i64 0,.int .i64 0],[],none,some u12,none,false,false,false,none,some 2⟩),
 tL 210 160 u5,
 (218,⟨3,true,40,[.nilS,.int .i64 0,.int .i64 0],[(0,1,false),(1,1,false),(2,1,false)],none,some u13,none,false,false,false,none,none⟩),
 (229,⟨1,false,8,[.raw .nilFunc],[],none,some .fn,none,false,false,false,none,none⟩),
 tI 251 .u64 8,
 (268,⟨1,false,8,[.raw (.pointer none)],[],none,none,none,false,false,false,none,none⟩),
 (270,⟨4,true,64,[.nilS,.int .i64 0,.nilS,.int .i64 0],[(0,1,false),(1,1,false),(2,1,false),(3,1,false)],none,some u14,none,false,false,false,none,none⟩),
 tI 286 .i64 8]
theorem types_ok:(types.all fun p=>checkTI P p.1 p.2)=true:=by kernel_rfl
def internal_strconv_underscoreOK.T (ad:LQ):TF P (LW ad):=⟨259,[],internal_strconv_underscoreOK.sp,internal_strconv_underscoreOK.sat,internal_strconv_underscoreOK.enter⟩
def strconv_toError.T (ad:LQ):TF P (LW ad):=⟨240,[],strconv_toError.sp,strconv_toError.sat,strconv_toError.enter⟩
def strings_CutPrefix.T (ad:LQ):TF P (LW ad):=⟨207,[],strings_CutPrefix.sp,strings_CutPrefix.sat,strings_CutPrefix.enter⟩
def strings_Contains.T (ad:LQ):TF P (LW ad):=⟨208,[],strings_Contains.sp,strings_Contains.sat,strings_Contains.enter⟩
def strings_IndexByte.T (ad:LQ):TF P (LW ad):=⟨167,[],strings_IndexByte.sp,strings_IndexByte.sat,strings_IndexByte.enter⟩
def strings_Trim.T (ad:LQ):TF P (LW ad):=⟨138,[],strings_Trim.sp,strings_Trim.sat,strings_Trim.enter⟩
def strconv_Itoa.T (ad:LQ):TF P (LW ad):=⟨213,[],strconv_Itoa.sp,strconv_Itoa.sat,strconv_Itoa.enter⟩
def name_Of.T (ad:LQ):TF P (LW ad):=⟨169,[],name_Of.sp,name_Of.sat,name_Of.enter⟩
def stmt_operands.T (ad:LQ):TF P (LW ad):=⟨129,[],stmt_operands.sp,stmt_operands.sat,stmt_operands.enter⟩
def strings_Split.T (ad:LQ):TF P (LW ad):=⟨70,[],strings_Split.sp,strings_Split.sat,strings_Split.enter⟩
def strings_Compare.T (ad:LQ):TF P (LW ad):=⟨151,[],strings_Compare.sp,strings_Compare.sat,strings_Compare.enter⟩
def slices_Insert_api_Sym_api_Sym.T (ad:LQ):TF P (LW ad):=⟨152,[],slices_Insert_api_Sym_api_Sym.sp,slices_Insert_api_Sym_api_Sym.sat,slices_Insert_api_Sym_api_Sym.enter⟩
def mkF (ad:LQ):=@mkT P (LW ad) types mixed types_ok maps maps_ok
def mkFa (ad:LQ):=@mkTa P (LW ad) types mixed types_ok maps maps_ok
namespace Zbw
def sp:Spec:=mkSp ⟨[(0,Sb)],[]⟩ ⟨[(0,SB)],[]⟩ g
noncomputable def T (ad:LQ):=mkF ad 163 [] sp [] t0 t0 t0 21 [] f (fun a=>1000+a.toNat) (by kernel_rfl)
end Zbw
namespace Zcj
def sp:Spec:=mkSp ⟨[(0,Sb)],[]⟩ ⟨[(0,SB)],[]⟩ g
noncomputable def T (ad:LQ):=mkF ad 165 [] sp [] t0 t0 t0 9 [] f (fun a=>1000+a.toNat) (by kernel_rfl)
end Zcj
namespace Zay
def sp:Spec:=mkSp ⟨[(0,Ss)],[]⟩ ⟨[(0,Ss)],[]⟩ g
noncomputable def T (ad:LQ):=mkF ad 164 [] sp [Zbw.T ad,Zcj.T ad] (fun n=>tj 3 ⟨[(0,Ss),(3,Si)],[]⟩ (fun ms=>j3 n (l2 n ms.head!)) <| tj 4 ⟨[(0,Ss),(3,Si)],[]⟩ (fun _=>j4 n) <| tn) (fun n=>tl 2 ⟨[(0,Ss),(3,Si)],[]⟩ (fun _=>l2 n) <| tn) t0 25 [] f (fun a=>1000+a.length) (by kernel_rfl)
end Zay
namespace Zai
def sp:Spec:=mkSp ⟨[(0,Sb)],[]⟩ ⟨[(0,Sb)],[]⟩ g
noncomputable def T (ad:LQ):=mkF ad 258 [] sp [] t0 t0 t0 5 [] f (fun a=>1000+a.toNat) (by kernel_rfl)
end Zai
namespace Zaa
def sp:Spec:=mkSp ⟨[(0,Ss),(1,Si),(2,Si)],[]⟩ ⟨[(0,.c kq),(1,.c (.ifo 286 .i64))],[]⟩ g
noncomputable def T (ad:LQ):=mkF ad 239 [] sp [Zai.T ad,internal_strconv_underscoreOK.T ad] (fun n=>tj 55 ⟨[(1,Si),(8,SB),(9,Ss),(10,.c kq),(11,.c kq),(12,SB),(13,.c kq),(99,.c (.sl (.int .u8))),(100,Si),(101,Si)],[]⟩ (fun ms=>j55 n (l36 n ms.head!)) <| tj 46 ⟨[(1,Si),(8,SB),(9,Ss),(10,.c kq),(11,.c kq),(12,SB),(13,.c kq),(16,Sb),(99,.c (.sl (.int .u8))),(100,Si),(101,Si)],[]⟩ (fun ms=>j46 n (l36 n ms.head!)) <| tj 32 ⟨[(0,Ss),(1,Si),(2,Si),(8,SB),(9,Ss),(10,.c kq)],[]⟩ (fun _=>j32 n) <| tj 25 ⟨[(0,Ss),(1,Si),(2,Si),(8,SB),(9,Ss)],[]⟩ (fun _=>j25 n) <| tj 21 ⟨[(0,Ss),(1,Si),(2,Si),(8,SB),(9,Ss)],[]⟩ (fun _=>j21 n) <| tj 17 ⟨[(0,Ss),(1,Si),(2,Si),(8,SB),(9,Ss)],[]⟩ (fun _=>j17 n) <| tj 20 ⟨[(0,Ss),(1,Si),(2,Si),(8,SB),(9,Ss)],[]⟩ (fun _=>j20 n) <| tj 11 ⟨[(0,Ss),(1,Si),(2,Si),(8,SB),(9,Ss)],[]⟩ (fun _=>j11 n) <| tj 9 ⟨[(0,Ss),(1,Si),(2,Si),(8,SB),(9,Ss)],[]⟩ (fun _=>j9 n) <| tn) (fun n=>tl 36 ⟨[(1,Si),(8,SB),(9,Ss),(10,.c kq),(11,.c kq),(12,SB),(13,.c kq),(99,.c (.sl (.int .u8))),(100,Si),(101,Si)],[]⟩ (fun _=>l36 n) <| tn) t0 172 [] f (fun a b c=>1000+a.length+b.toNat+c.toNat) (by kernel_rfl)
end Zaa
namespace Zcw
def sp:Spec:=mkSp ⟨[(0,Ss),(1,Si),(2,Si)],[]⟩ ⟨[(0,.c kq),(1,Se)],[]⟩ g
noncomputable def T (ad:LQ):=mkF ad 209 [] sp [Zaa.T ad,strconv_toError.T ad] t0 t0 t0 26 [] f (fun a b c=>1000+a.length+b.toNat+c.toNat) (by kernel_rfl)
end Zcw
namespace Zck
def sp:Spec:=mkSp ⟨[(0,Ss)],[]⟩ ⟨[(0,Su),(1,SB)],[]⟩ g
noncomputable def T (ad:LQ):=mkF ad 166 [] sp [strings_CutPrefix.T ad,strings_Contains.T ad,Zcw.T ad] (fun n=>tj 5 ⟨[(0,Ss),(4,Si)],[]⟩ (fun _=>j5 n) <| tn) t0 t0 28 [] f (fun a=>1000+a.length) (by kernel_rfl)
end Zck
namespace Zak
def sp:Spec:=mkSp ⟨[(0,Ss)],[]⟩ ⟨[(0,.c (.row 195 u0)),(1,Si)],[]⟩ g
noncomputable def T (ad:LQ):=mkF ad 122 [] sp [Zbw.T ad,Zay.T ad,Zcj.T ad,Zck.T ad,strings_IndexByte.T ad] (fun n=>tj 23 ⟨[(0,Ss),(4,.c (.row 195 u0)),(5,Si),(6,Sp 0 0)],[(some 3,[ki,ki,.str,ku])]⟩ (fun ms=>j23 n (g0 n ms.head!)) <| tn) t0 (fun n=>tl 0 ⟨[(0,Ss),(4,.c (.row 195 u0)),(5,Si)],[]⟩ (fun _=>g0 n) <| tn) 108 [] f (fun a=>1000+a.length) (by kernel_rfl)
end Zak
namespace Zab
def sp:Spec:=mkSp ⟨[(0,Ss)],[]⟩ ⟨[(0,SB)],[]⟩ g
noncomputable def T (ad:LQ):=mkF ad 124 [] sp [strings_Trim.T ad] (fun n=>tj 9 ⟨[(0,Ss),(24,Si),(25,Si)],[]⟩ (fun ms=>j9 n (l4 n ms.head!)) <| tj 3 ⟨[(0,Ss)],[]⟩ (fun _=>j3 n) <| tn) (fun n=>tl 4 ⟨[(0,Ss),(24,Si),(25,Si)],[]⟩ (fun _=>l4 n) <| tn) t0 84 [] f (fun a=>1000+a.length) (by kernel_rfl)
end Zab
namespace Zap
def sp:Spec:=mkSp ⟨[(0,Sp 0 0),(1,SB)],[(some 0,[.sl u0,ki,ki])]⟩ ⟨[],[(none,[.sl u0,ki,ki])]⟩ g
noncomputable def T (ad:LQ):=mkF ad 168 [] sp [] t0 t0 t0 16 [] f (fun _ b c d=>1000+b.length+c.toNat+d.toNat) (by kernel_rfl)
end Zap
namespace Zcz
def sp:Spec:=mkSp ⟨[(0,Si)],[]⟩ ⟨[(0,SB)],[]⟩ g
noncomputable def T (ad:LQ):=mkF ad 128 [] sp [] t0 t0 t0 9 [] f (fun a=>1000+a.toNat) (by kernel_rfl)
end Zcz
namespace Zco
def sp:Spec:=mkSp ⟨[(0,Sp 0 0),(1,Si)],[(some 0,[.sl u0,ki,ki])]⟩ ⟨[(0,Ss)],[(none,[.sl u0,ki,ki])]⟩ g
noncomputable def T (ad:LQ):=mkF ad 211 [] sp [] t0 t0 t0 48 [] f (fun a b c d=>1000+a.toNat+b.length+c.toNat+d.toNat) (by kernel_rfl)
end Zco
namespace Zbk
def sp:Spec:=mkSp ⟨[(0,Sp 0 0),(1,Si)],[(some 0,[.sl u0,ki,ki])]⟩ ⟨[(0,Ss)],[(none,[.sl u0,ki,ki])]⟩ g
noncomputable def T (ad:LQ):=mkF ad 170 [] sp [Zco.T ad] t0 t0 t0 17 [] f (fun a b c d=>1000+a.toNat+b.length+c.toNat+d.toNat) (by kernel_rfl)
end Zbk
namespace Zar
def sp:Spec:=mkSp ⟨[(0,Ss),(1,Si),(2,Si)],[]⟩ ⟨[(0,Si),(1,.c (.ifo 286 .i64))],[]⟩ g
noncomputable def T (ad:LQ):=mkF ad 279 [] sp [Zaa.T ad] (fun n=>tj 21 ⟨[(8,SB),(9,.c kq)],[]⟩ (fun _=>j21 n) <| tj 19 ⟨[(8,SB),(9,.c kq),(10,.c kq)],[]⟩ (fun _=>j19 n) <| tj 16 ⟨[(2,Si),(8,SB),(9,.c kq)],[]⟩ (fun _=>j16 n) <| tj 14 ⟨[(2,Si),(8,SB),(9,.c kq)],[]⟩ (fun _=>j14 n) <| tj 10 ⟨[(0,Ss),(1,Si),(2,Si),(8,SB)],[]⟩ (fun _=>j10 n) <| tn) t0 t0 73 [] f (fun a b c=>1000+a.length+b.toNat+c.toNat) (by kernel_rfl)
end Zar
namespace Zbb
def sp:Spec:=mkSp ⟨[(0,Ss)],[]⟩ ⟨[(0,Si),(1,.c (.ifo 286 .i64))],[]⟩ g
noncomputable def T (ad:LQ):=mkF ad 264 [] sp [Zar.T ad] (fun n=>tj 8 ⟨[(0,Ss),(5,Ss)],[]⟩ (fun _=>j8 n) <| tj 6 ⟨[(0,Ss),(5,Ss)],[]⟩ (fun _=>j6 n) <| tj 20 ⟨[(0,Ss)],[]⟩ (fun _=>j20 n) <| tn) (fun n=>tl 10 ⟨[(5,Ss),(6,Si),(47,.c (.sl (.int .u8))),(48,Si),(49,Si)],[]⟩ (fun _=>l10 n) <| tn) t0 77 [] f (fun a=>1000+a.length) (by kernel_rfl)
end Zbb
namespace Zcx
def sp:Spec:=mkSp ⟨[(0,Ss)],[]⟩ ⟨[(0,Si),(1,Se)],[]⟩ g
noncomputable def T (ad:LQ):=mkF ad 242 [] sp [Zbb.T ad,strconv_toError.T ad] t0 t0 t0 18 [] f (fun a=>1000+a.length) (by kernel_rfl)
end Zcx
namespace Zcy
def sp:Spec:=mkSp ⟨[(0,Si)],[]⟩ ⟨[(0,Ss)],[]⟩ g
noncomputable def T (ad:LQ):=mkF ad 173 [] sp [strconv_Itoa.T ad] t0 t0 t0 12 [] f (fun a=>1000+a.toNat) (by kernel_rfl)
end Zcy
namespace Zcl
def sp:Spec:=mkSp ⟨[(0,Ss)],[]⟩ ⟨[(0,Si),(1,SB)],[]⟩ g
noncomputable def T (ad:LQ):=mkF ad 212 [] sp [strings_CutPrefix.T ad,Zcx.T ad,Zcy.T ad] t0 t0 t0 31 [] f (fun a=>1000+a.length) (by kernel_rfl)
end Zcl
namespace Zda
def sp:Spec:=mkSp ⟨[(0,Sp 0 0),(1,Sp 1 0)],[(some 0,[.sl u0,ki,ki]),(some 1,c0)]⟩ ⟨[],[(none,[.sl u0,ki,ki]),(none,c0)]⟩ g
noncomputable def T (ad:LQ):=mkF ad 171 [] sp [Zco.T ad,Zcl.T ad] t0 t0 t0 50 [] f (fun a b c d e i j k _ o p=>1000+a.length+b.toNat+c.toNat+d.toNat+e.toNat+i.toNat+j.toNat+k.toNat+o.length+p.length) (by kernel_rfl)
end Zda
namespace Zdb
def sp:Spec:=mkSp ⟨[(0,Sp 0 0)],[(some 0,c0)]⟩ ⟨[(0,Sp 0 2)],[(none,c0)]⟩ g
noncomputable def T (ad:LQ):=mkF ad 176 [] sp [] t0 t0 t0 6 [] f (fun a b c d e _ j k=>1000+a.toNat+b.toNat+c.toNat+d.toNat+e.toNat+j.length+k.length) (by kernel_rfl)
end Zdb
namespace Zdc
def sp:Spec:=mkSp ⟨[(0,Sp 0 0)],[(some 0,c0)]⟩ ⟨[(0,Sp 0 3)],[(none,c0)]⟩ g
noncomputable def T (ad:LQ):=mkF ad 177 [] sp [] t0 t0 t0 6 [] f (fun a b c d e _ j k=>1000+a.toNat+b.toNat+c.toNat+d.toNat+e.toNat+j.length+k.length) (by kernel_rfl)
end Zdc
namespace Zdd
def sp:Spec:=mkSp ⟨[(0,Sp 0 0)],[(some 0,c0)]⟩ ⟨[(0,Sp 0 4)],[(none,c0)]⟩ g
noncomputable def T (ad:LQ):=mkF ad 178 [] sp [] t0 t0 t0 6 [] f (fun a b c d e _ j k=>1000+a.toNat+b.toNat+c.toNat+d.toNat+e.toNat+j.length+k.length) (by kernel_rfl)
end Zdd
namespace Zcp
def sp:Spec:=mkSp ⟨[(0,Sp 0 0),(1,Sp 1 0),(2,.c (.pp .fn))],[(some 0,[.sl u0,ki,ki]),(some 1,c0)]⟩ ⟨[],[(none,[.sl u0,ki,ki]),(none,c0)]⟩ g
noncomputable def T (ad:LQ):=mkF ad 217 [] sp [Zbk.T ad,Zcl.T ad,Zap.T ad,Zdb.T ad,Zdc.T ad,Zdd.T ad] t0 t0 t0 21 [K.atA,K.atB,K.atC] f (fun _ b c d e i j k l _ p q=>1000+b.length+c.toNat+d.toNat+e.toNat+i.toNat+j.toNat+k.toNat+l.toNat+p.length+q.length) (by kernel_rfl)
end Zcp
namespace Zbc
def sp:Spec:=mkSp ⟨[(0,Sp 0 0),(1,Si)],[(some 0,c1)]⟩ ⟨[],[(none,c1)]⟩ g
noncomputable def T (ad:LQ):=mkF ad 288 [] sp [] t0 t0 t0 13 [] f (fun a b c d e=>1000+a.toNat+b.length+c.toNat+d.length+e.toNat) (by kernel_rfl)
end Zbc
namespace Zbx
def sp:Spec:=mkSp ⟨[(0,Sp 0 0)],[(some 0,c1)]⟩ ⟨[(0,.agg [ki,ki,.str,ku]),(1,SB)],[(none,c1)]⟩ g
noncomputable def T (ad:LQ):=mkF ad 289 [] sp [] t0 t0 t0 39 [] f (fun a b c d=>1000+a.length+b.toNat+c.length+d.toNat) (by kernel_rfl)
end Zbx
namespace Zal
def sp:Spec:=mkSp ⟨[(0,Sp 0 0),(1,.c (.sl .str))],[(some 0,c1)]⟩ ⟨[(0,Ss),(1,SB)],[(none,c1)]⟩ g
noncomputable def T (ad:LQ):=mkF ad 286 [] sp [Zbx.T ad] (fun n=>tj 8 ⟨[(0,Sp 0 0),(6,Sp 1 0),(7,SB),(15,.c (.sl .str)),(16,Si),(17,Si)],[(none,c1),(some 1,[ki,ki,.str,ku])]⟩ (fun ms=>j8 n (l3 n ms.head!)) <| tn) (fun n=>tl 3 ⟨[(0,Sp 0 0),(6,Sp 1 0),(7,SB),(15,.c (.sl .str)),(16,Si),(17,Si)],[(none,c1),(some 1,[ki,ki,.str,ku])]⟩ (fun _=>l3 n) <| tn) t0 42 [] f (fun a b c d e=>1000+a.length+b.length+c.toNat+d.length+e.toNat) (by kernel_rfl)
end Zal
namespace Zau
def sp:Spec:=mkSp ⟨[(0,Sp 0 0),(1,.agg [ki,ku,.str])],[(some 0,c1)]⟩ ⟨[],[(none,c1)]⟩ g
noncomputable def T (ad:LQ):=mkF ad 287 [] sp [] t0 t0 t0 14 [] f (fun a b c d e i j=>1000+a.toNat+b.toNat+c.length+d.length+e.toNat+i.length+j.toNat) (by kernel_rfl)
end Zau
def expr_parser_sum.spq (q:Nat):Spec:=mkSp ⟨[(0,Sp 0 0),(1,Si)],[(some 0,c1)]⟩ ⟨[],[(none,c1)]⟩ (rec_expr_parser_sum q).expr_parser_sum
def expr_parser_row_c270.spq (q:Nat):Spec:=mkSp ⟨[(0,Sp 0 0),(1,.clo 270 [.ptr 1 0,.ptr 2 0]),(2,.c (.sl .str))],[(some 0,c1),(some 1,[.ptr 0 0]),(some 2,[ki])]⟩ ⟨[],[(none,c1),(none,[.ptr 0 0]),(none,[ki])]⟩ (rec_expr_parser_sum q).expr_parser_row_c270
def expr_parser_sum_1.spq (q:Nat):Spec:=mkSp ⟨[(0,Sp 0 0),(1,Sp 1 0)],[(some 0,[.ptr 2 0]),(some 1,[ki]),(some 2,c1)]⟩ ⟨[],[(none,[.ptr 2 0]),(none,[ki]),(none,c1)]⟩ (rec_expr_parser_sum q).expr_parser_sum_1
def expr_parser_row_c271.spq (q:Nat):Spec:=mkSp ⟨[(0,Sp 0 0),(1,.clo 271 [.ptr 1 0,.ptr 2 0]),(2,.c (.sl .str))],[(some 0,c1),(some 1,[.ptr 0 0]),(some 2,[ki])]⟩ ⟨[],[(none,c1),(none,[.ptr 0 0]),(none,[ki])]⟩ (rec_expr_parser_sum q).expr_parser_row_c271
def expr_parser_sum_1_1.spq (q:Nat):Spec:=mkSp ⟨[(0,Sp 0 0),(1,Sp 1 0)],[(some 0,[.ptr 2 0]),(some 1,[ki]),(some 2,c1)]⟩ ⟨[],[(none,[.ptr 2 0]),(none,[ki]),(none,c1)]⟩ (rec_expr_parser_sum q).expr_parser_sum_1_1
def expr_parser_factor.spq (q:Nat):Spec:=mkSp ⟨[(0,Sp 0 0),(1,Si)],[(some 0,c1)]⟩ ⟨[],[(none,c1)]⟩ (rec_expr_parser_sum q).expr_parser_factor
namespace expr_parser_sum
theorem step (q:Nat) (ih:Sat P (LW ad) 248 (expr_parser_sum.spq q)∧Sat P (LW ad) 269 (expr_parser_row_c270.spq q)∧Sat P (LW ad) 270 (expr_parser_sum_1.spq q)∧Sat P (LW ad) 269 (expr_parser_row_c271.spq q)∧Sat P (LW ad) 271 (expr_parser_sum_1_1.spq q)∧Sat P (LW ad) 272 (expr_parser_factor.spq q)∧True):Sat P (LW ad) 248 (spq (q+1)):=sat_q mixed types_ok maps_ok 248 (spq (q+1)) [((269,[270]),expr_parser_row_c270.spq q)] (specs_cons ih.2.1 (enter_of (by kernel_rfl)) specs_nil) t0 t0 t0 8 [] (fun n=>f n (rec_expr_parser_sum q)) (fun a b c d e=>1000+a.toNat+b.length+c.toNat+d.length+e.toNat) (by kernel_rfl) (by kernel_rfl)
end expr_parser_sum
namespace expr_parser_row_c270
theorem step (q:Nat) (ih:Sat P (LW ad) 248 (expr_parser_sum.spq q)∧Sat P (LW ad) 269 (expr_parser_row_c270.spq q)∧Sat P (LW ad) 270 (expr_parser_sum_1.spq q)∧Sat P (LW ad) 269 (expr_parser_row_c271.spq q)∧Sat P (LW ad) 271 (expr_parser_sum_1_1.spq q)∧Sat P (LW ad) 272 (expr_parser_factor.spq q)∧True):Sat P (LW ad) 269 (spq (q+1)):=sat_q mixed types_ok maps_ok 269 (spq (q+1)) [((270,[]),expr_parser_sum_1.spq q),(Zal.T ad).kv,(Zau.T ad).kv] (specs_cons ih.2.2.1 (enter_of (by kernel_rfl)) (specs_T (Zal.T ad) (specs_T (Zau.T ad) specs_nil))) t0 (fun n=>tl 1 ⟨[(0,Sp 0 0),(1,.clo 270 [.ptr 1 0,.ptr 2 0]),(2,.c (.sl .str))],[(none,c1),(none,[.ptr 0 0]),(none,[ki])]⟩ (fun _=>l1 n (rec_expr_parser_sum q)) <| tn) t0 26 [] (fun n=>f n (rec_expr_parser_sum q)) (fun a b c d e i=>1000+a.length+b.length+c.toNat+d.length+e.toNat+i.toNat) (by kernel_rfl) (by kernel_rfl)
end expr_parser_row_c270
namespace expr_parser_sum_1
theorem step (q:Nat) (ih:Sat P (LW ad) 248 (expr_parser_sum.spq q)∧Sat P (LW ad) 269 (expr_parser_row_c270.spq q)∧Sat P (LW ad) 270 (expr_parser_sum_1.spq q)∧Sat P (LW ad) 269 (expr_parser_row_c271.spq q)∧Sat P (LW ad) 271 (expr_parser_sum_1_1.spq q)∧Sat P (LW ad) 272 (expr_parser_factor.spq q)∧True):Sat P (LW ad) 270 (spq (q+1)):=sat_q mixed types_ok maps_ok 270 (spq (q+1)) [((269,[271]),expr_parser_row_c271.spq q)] (specs_cons ih.2.2.2.1 (enter_of (by kernel_rfl)) specs_nil) t0 t0 t0 6 [] (fun n=>f n (rec_expr_parser_sum q)) (fun a b c d e=>1000+a.toNat+b.length+c.toNat+d.length+e.toNat) (by kernel_rfl) (by kernel_rfl)
end expr_parser_sum_1
namespace expr_parser_row_c271
theorem step (q:Nat) (ih:Sat P (LW ad) 248 (expr_parser_sum.spq q)∧Sat P (LW ad) 269 (expr_parser_row_c270.spq q)∧Sat P (LW ad) 270 (expr_parser_sum_1.spq q)∧Sat P (LW ad) 269 (expr_parser_row_c271.spq q)∧Sat P (LW ad) 271 (expr_parser_sum_1_1.spq q)∧Sat P (LW ad) 272 (expr_parser_factor.spq q)∧True):Sat P (LW ad) 269 (spq (q+1)):=sat_q mixed types_ok maps_ok 269 (spq (q+1)) [((271,[]),expr_parser_sum_1_1.spq q),(Zal.T ad).kv,(Zau.T ad).kv] (specs_cons ih.2.2.2.2.1 (enter_of (by kernel_rfl)) (specs_T (Zal.T ad) (specs_T (Zau.T ad) specs_nil))) t0 (fun n=>tl 1 ⟨[(0,Sp 0 0),(1,.clo 271 [.ptr 1 0,.ptr 2 0]),(2,.c (.sl .str))],[(none,c1),(none,[.ptr 0 0]),(none,[ki])]⟩ (fun _=>l1 n (rec_expr_parser_sum q)) <| tn) t0 26 [] (fun n=>f n (rec_expr_parser_sum q)) (fun a b c d e i=>1000+a.length+b.length+c.toNat+d.length+e.toNat+i.toNat) (by kernel_rfl) (by kernel_rfl)
end expr_parser_row_c271
namespace expr_parser_sum_1_1
theorem step (q:Nat) (ih:Sat P (LW ad) 248 (expr_parser_sum.spq q)∧Sat P (LW ad) 269 (expr_parser_row_c270.spq q)∧Sat P (LW ad) 270 (expr_parser_sum_1.spq q)∧Sat P (LW ad) 269 (expr_parser_row_c271.spq q)∧Sat P (LW ad) 271 (expr_parser_sum_1_1.spq q)∧Sat P (LW ad) 272 (expr_parser_factor.spq q)∧True):Sat P (LW ad) 271 (spq (q+1)):=sat_q mixed types_ok maps_ok 271 (spq (q+1)) [((272,[]),expr_parser_factor.spq q)] (specs_cons ih.2.2.2.2.2.1 (enter_of (by kernel_rfl)) specs_nil) t0 t0 t0 5 [] (fun n=>f n (rec_expr_parser_sum q)) (fun a b c d e=>1000+a.toNat+b.length+c.toNat+d.length+e.toNat) (by kernel_rfl) (by kernel_rfl)
end expr_parser_sum_1_1
namespace expr_parser_factor
theorem step (q:Nat) (ih:Sat P (LW ad) 248 (expr_parser_sum.spq q)∧Sat P (LW ad) 269 (expr_parser_row_c270.spq q)∧Sat P (LW ad) 270 (expr_parser_sum_1.spq q)∧Sat P (LW ad) 269 (expr_parser_row_c271.spq q)∧Sat P (LW ad) 271 (expr_parser_sum_1_1.spq q)∧Sat P (LW ad) 272 (expr_parser_factor.spq q)∧True):Sat P (LW ad) 272 (spq (q+1)):=sat_q mixed types_ok maps_ok 272 (spq (q+1)) [(Zbc.T ad).kv,(Zal.T ad).kv,((272,[]),expr_parser_factor.spq q),(Zau.T ad).kv,((248,[]),expr_parser_sum.spq q),(Zbx.T ad).kv,(Zab.T ad).kv] (specs_T (Zbc.T ad) (specs_T (Zal.T ad) (specs_cons ih.2.2.2.2.2.1 (enter_of (by kernel_rfl)) (specs_T (Zau.T ad) (specs_cons ih.1 (enter_of (by kernel_rfl)) (specs_T (Zbx.T ad) (specs_T (Zab.T ad) specs_nil))))))) (fun n=>tj 19 ⟨[(0,Sp 0 0)],[(none,c1)]⟩ (fun _=>j19 n (rec_expr_parser_sum q)) <| tn) t0 t0 94 [] (fun n=>f n (rec_expr_parser_sum q)) (fun a b c d e=>1000+a.toNat+b.length+c.toNat+d.length+e.toNat) (by kernel_rfl) (by kernel_rfl)
end expr_parser_factor
theorem rec_expr_parser_sum_sat:∀ q,Sat P (LW ad) 248 (expr_parser_sum.spq q)∧Sat P (LW ad) 269 (expr_parser_row_c270.spq q)∧Sat P (LW ad) 270 (expr_parser_sum_1.spq q)∧Sat P (LW ad) 269 (expr_parser_row_c271.spq q)∧Sat P (LW ad) 271 (expr_parser_sum_1_1.spq q)∧Sat P (LW ad) 272 (expr_parser_factor.spq q)∧True
 | 0=>⟨sat_none fun _=>rfl,sat_none fun _=>rfl,sat_none fun _=>rfl,sat_none fun _=>rfl,sat_none fun _=>rfl,sat_none fun _=>rfl,trivial⟩
 | q+1=>⟨expr_parser_sum.step q (rec_expr_parser_sum_sat q),expr_parser_row_c270.step q (rec_expr_parser_sum_sat q),expr_parser_sum_1.step q (rec_expr_parser_sum_sat q),expr_parser_row_c271.step q (rec_expr_parser_sum_sat q),expr_parser_sum_1_1.step q (rec_expr_parser_sum_sat q),expr_parser_factor.step q (rec_expr_parser_sum_sat q),trivial⟩
def expr_parser_sum.sp:Spec:=mkSp ⟨[(0,Sp 0 0),(1,Si)],[(some 0,c1)]⟩ ⟨[],[(none,c1)]⟩ expr_parser_sum.g
noncomputable def expr_parser_sum.T (ad:LQ):TF P (LW ad):=⟨248,[],expr_parser_sum.sp,sat_fq (F:=fun q=>(rec_expr_parser_sum q).expr_parser_sum) (fun a b c d e=>1000+a.toNat+b.length+c.toNat+d.length+e.toNat) (fun q=>(rec_expr_parser_sum_sat q).1) (fun _=>by kernel_rfl),enter_of (by kernel_rfl)⟩
def expr_parser_row_c270.sp:Spec:=mkSp ⟨[(0,Sp 0 0),(1,.clo 270 [.ptr 1 0,.ptr 2 0]),(2,.c (.sl .str))],[(some 0,c1),(some 1,[.ptr 0 0]),(some 2,[ki])]⟩ ⟨[],[(none,c1),(none,[.ptr 0 0]),(none,[ki])]⟩ expr_parser_row_c270.g
noncomputable def expr_parser_row_c270.T (ad:LQ):TF P (LW ad):=⟨269,[270],expr_parser_row_c270.sp,sat_fq (F:=fun q=>(rec_expr_parser_sum q).expr_parser_row_c270) (fun a b c d e i=>1000+a.length+b.length+c.toNat+d.length+e.toNat+i.toNat) (fun q=>(rec_expr_parser_sum_sat q).2.1) (fun _=>by kernel_rfl),enter_of (by kernel_rfl)⟩
def expr_parser_sum_1.sp:Spec:=mkSp ⟨[(0,Sp 0 0),(1,Sp 1 0)],[(some 0,[.ptr 2 0]),(some 1,[ki]),(some 2,c1)]⟩ ⟨[],[(none,[.ptr 2 0]),(none,[ki]),(none,c1)]⟩ expr_parser_sum_1.g
noncomputable def expr_parser_sum_1.T (ad:LQ):TF P (LW ad):=⟨270,[],expr_parser_sum_1.sp,sat_fq (F:=fun q=>(rec_expr_parser_sum q).expr_parser_sum_1) (fun a b c d e=>1000+a.toNat+b.length+c.toNat+d.length+e.toNat) (fun q=>(rec_expr_parser_sum_sat q).2.2.1) (fun _=>by kernel_rfl),enter_of (by kernel_rfl)⟩
def expr_parser_row_c271.sp:Spec:=mkSp ⟨[(0,Sp 0 0),(1,.clo 271 [.ptr 1 0,.ptr 2 0]),(2,.c (.sl .str))],[(some 0,c1),(some 1,[.ptr 0 0]),(some 2,[ki])]⟩ ⟨[],[(none,c1),(none,[.ptr 0 0]),(none,[ki])]⟩ expr_parser_row_c271.g
noncomputable def expr_parser_row_c271.T (ad:LQ):TF P (LW ad):=⟨269,[271],expr_parser_row_c271.sp,sat_fq (F:=fun q=>(rec_expr_parser_sum q).expr_parser_row_c271) (fun a b c d e i=>1000+a.length+b.length+c.toNat+d.length+e.toNat+i.toNat) (fun q=>(rec_expr_parser_sum_sat q).2.2.2.1) (fun _=>by kernel_rfl),enter_of (by kernel_rfl)⟩
def expr_parser_sum_1_1.sp:Spec:=mkSp ⟨[(0,Sp 0 0),(1,Sp 1 0)],[(some 0,[.ptr 2 0]),(some 1,[ki]),(some 2,c1)]⟩ ⟨[],[(none,[.ptr 2 0]),(none,[ki]),(none,c1)]⟩ expr_parser_sum_1_1.g
noncomputable def expr_parser_sum_1_1.T (ad:LQ):TF P (LW ad):=⟨271,[],expr_parser_sum_1_1.sp,sat_fq (F:=fun q=>(rec_expr_parser_sum q).expr_parser_sum_1_1) (fun a b c d e=>1000+a.toNat+b.length+c.toNat+d.length+e.toNat) (fun q=>(rec_expr_parser_sum_sat q).2.2.2.2.1) (fun _=>by kernel_rfl),enter_of (by kernel_rfl)⟩
def expr_parser_factor.sp:Spec:=mkSp ⟨[(0,Sp 0 0),(1,Si)],[(some 0,c1)]⟩ ⟨[],[(none,c1)]⟩ expr_parser_factor.g
noncomputable def expr_parser_factor.T (ad:LQ):TF P (LW ad):=⟨272,[],expr_parser_factor.sp,sat_fq (F:=fun q=>(rec_expr_parser_sum q).expr_parser_factor) (fun a b c d e=>1000+a.toNat+b.length+c.toNat+d.length+e.toNat) (fun q=>(rec_expr_parser_sum_sat q).2.2.2.2.2.1) (fun _=>by kernel_rfl),enter_of (by kernel_rfl)⟩
namespace Zby
def sp:Spec:=mkSp ⟨[(0,.c (.sl u0)),(1,Si)],[]⟩ ⟨[(0,.c (.row 56 u1)),(1,Si),(2,Si)],[]⟩ g
noncomputable def T (ad:LQ):=mkF ad 220 [] sp [expr_parser_sum.T ad] (fun n=>tj 5 ⟨[(7,Sp 0 0)],[(some 0,c1)]⟩ (fun _=>j5 n) <| tn) t0 t0 47 [] f (fun a b=>1000+a.length+b.toNat) (by kernel_rfl)
end Zby
namespace Zbz
def sp:Spec:=mkSp ⟨[(0,Sp 0 0),(1,Sp 1 0),(2,.c (.pp .str))],[(some 0,[.sl u0,ki,ki]),(some 1,c0)]⟩ ⟨[],[(none,[.sl u0,ki,ki]),(none,c0)]⟩ g
noncomputable def T (ad:LQ):=mkF ad 219 [] sp [Zbk.T ad,Zap.T ad,Zby.T ad] (fun n=>tj 2 ⟨[(0,Sp 0 0),(1,Sp 1 0)],[(none,[.sl u0,ki,ki]),(none,c0)]⟩ (fun _=>j2 n) <| tn) t0 t0 40 [] f (fun a b c d e i j k l _ p q=>1000+a.length+b.length+c.toNat+d.toNat+e.toNat+i.toNat+j.toNat+k.toNat+l.toNat+p.length+q.length) (by kernel_rfl)
end Zbz
namespace Zbe
def sp:Spec:=mkSp ⟨[(0,Sb),(1,SB)],[]⟩ ⟨[(0,SB)],[]⟩ g
noncomputable def T (ad:LQ):=mkF ad 137 [] sp [] (fun n=>tj 4 ⟨[(0,Sb),(1,SB)],[]⟩ (fun _=>j4 n) <| tn) t0 t0 32 [] f (fun a _=>1000+a.toNat) (by kernel_rfl)
end Zbe
namespace Zam
def sp:Spec:=mkSp ⟨[(0,Ss)],[]⟩ ⟨[(0,SB)],[]⟩ g
noncomputable def T (ad:LQ):=mkF ad 89 [] sp [Zbe.T ad,strings_Trim.T ad] t0 (fun n=>tl 4 ⟨[(0,Ss),(14,Si),(15,Si)],[]⟩ (fun _=>l4 n) <| tn) t0 47 [] f (fun a=>1000+a.length) (by kernel_rfl)
end Zam
namespace Zde
def sp:Spec:=mkSp ⟨[(0,Sp 0 0),(1,Sp 1 0)],[(some 0,[.sl u0,ki,ki]),(some 1,c0)]⟩ ⟨[],[(none,[.sl u0,ki,ki]),(none,c0)]⟩ g
noncomputable def T (ad:LQ):=mkF ad 180 [] sp [Zbk.T ad,Zam.T ad,Zap.T ad] t0 t0 t0 16 [] f (fun a b c d e i j k _ o p=>1000+a.length+b.toNat+c.toNat+d.toNat+e.toNat+i.toNat+j.toNat+k.toNat+o.length+p.length) (by kernel_rfl)
end Zde
namespace Zae
def sp:Spec:=mkSp ⟨[(0,.c (.sl u0))],[]⟩ ⟨[(0,Ss),(1,.agg c0),(2,Si)],[]⟩ g
noncomputable def T (ad:LQ):=mkF ad 123 [] sp [Zab.T ad,Zap.T ad,name_Of.T ad,Zcz.T ad,stmt_operands.T ad,Zbk.T ad,Zda.T ad,Zcp.T ad,Zbz.T ad,Zde.T ad] (fun n=>tj 20 ⟨[(0,.c (.sl u0)),(2,Ss),(3,Sp 0 0),(5,Sp 1 0),(8,Si),(11,Si),(116,Si),(117,Si)],[(some 2,c0),(some 3,[.sl u0,ki,ki])]⟩ (fun ms=>j20 n (l13 n ms.head!)) <| tj 19 ⟨[(0,.c (.sl u0)),(2,Ss),(3,Sp 0 0),(5,Sp 1 0),(8,Si),(11,Si),(12,Si),(116,Si),(117,Si)],[(some 2,c0),(some 3,[.sl u0,ki,ki])]⟩ (fun ms=>j19 n (l13 n ms.head!)) <| tj 17 ⟨[(0,.c (.sl u0)),(2,Ss),(3,Sp 0 0),(5,Sp 1 0),(8,Si),(11,Si),(12,Si),(116,Si),(117,Si)],[(some 2,c0),(some 3,[.sl u0,ki,ki])]⟩ (fun ms=>j17 n (l13 n ms.head!)) <| tj 22 ⟨[(2,Ss),(3,Sp 0 0),(5,Sp 1 0)],[(some 1,c0),(some 2,[.sl u0,ki,ki])]⟩ (fun _=>j22 n) <| tj 9 ⟨[(0,.c (.sl u0)),(2,Ss),(3,Sp 0 0),(5,Sp 1 0),(7,Si),(8,Si),(9,SB)],[(some 2,c0),(some 3,[.sl u0,ki,ki])]⟩ (fun _=>j9 n) <| tj 5 ⟨[(0,.c (.sl u0)),(2,Ss),(3,Sp 0 0),(5,Sp 1 0)],[(some 2,c0),(some 3,[.sl u0,ki,ki])]⟩ (fun _=>j5 n) <| tn) (fun n=>tl 13 ⟨[(0,.c (.sl u0)),(2,Ss),(3,Sp 0 0),(5,Sp 1 0),(8,Si),(11,Si),(116,Si),(117,Si)],[(some 2,c0),(some 3,[.sl u0,ki,ki])]⟩ (fun _=>l13 n) <| tn) t0 165 [K.rdA,K.rdB,K.rdC,K.rdE,K.rdQ,K.rdN] f (fun a=>1000+a.length) (by kernel_rfl)
end Zae
namespace Zdf
def sp:Spec:=mkSp ⟨[(0,Ss)],[]⟩ ⟨[(0,.agg c2),(1,Si)],[]⟩ g
noncomputable def T (ad:LQ):=mkF ad 72 [] sp [Zak.T ad,Zae.T ad] t0 t0 t0 27 [] f (fun a=>1000+a.length) (by kernel_rfl)
end Zdf
namespace Zcr
def sp:Spec:=mkSp ⟨[(0,.c (.sl .str)),(1,.c (.raw (.func (.func 72) #[] #[])))],[]⟩ ⟨[(0,.c (.row 38 u2)),(1,Si),(2,Si)],[]⟩ g
noncomputable def T (ad:LQ):=mkF ad 71 [] sp [Zdf.T ad] t0 (fun n=>tl 5 ⟨[(1,.c (.raw (.func (.func 72) #[] #[]))),(7,.c (.row 38 u2)),(15,.c (.sl .str)),(16,Si),(17,Si)],[]⟩ (fun _=>l5 n) <| tn) t0 39 [] f (fun a=>1000+a.length) (by kernel_rfl)
end Zcr
namespace Zcs
def sp:Spec:=mkSp ⟨[(0,Ss)],[]⟩ ⟨[(0,.c (.row 38 u2)),(1,Si),(2,Si)],[]⟩ g
noncomputable def T (ad:LQ):=mkF ad 38 [] sp [strings_Split.T ad,Zcr.T ad] (fun n=>tj 7 ⟨[(5,.c (.sl .str))],[]⟩ (fun _=>j7 n) <| tn) t0 t0 28 [] f (fun a=>1000+a.length) (by kernel_rfl)
end Zcs
namespace Zcm
def sp:Spec:=mkSp ⟨[(0,.agg [.str,ki]),(1,Sp 0 0)],[(some 2,[.str])]⟩ ⟨[(0,SB)],[(none,[.str])]⟩ g
noncomputable def T (ad:LQ):=mkF ad 57 [] sp [] t0 t0 t0 8 [] f (fun a b c=>1000+a.length+b.toNat+c.length) (by kernel_rfl)
end Zcm
namespace Zbh
def sp:Spec:=mkSp ⟨[(0,.c (.sl u3)),(1,.clo 57 [.ptr 0 0])],[(some 1,[.str])]⟩ ⟨[(0,Si)],[(none,[.str])]⟩ g
noncomputable def T (ad:LQ):=mkF ad 56 [57] sp [Zcm.T ad] t0 (fun n=>tl 2 ⟨[(0,.c (.sl u3)),(1,.clo 57 [.ptr 0 0]),(7,Si),(8,Si)],[(none,[.str])]⟩ (fun _=>l2 n) <| tn) t0 19 [] f (fun a b=>1000+a.length+b.length) (by kernel_rfl)
end Zbh
namespace Zbi
def sp:Spec:=mkSp ⟨[(0,.c (.sl u3)),(1,Ss)],[]⟩ ⟨[(0,Si),(1,SB)],[]⟩ g
noncomputable def T (ad:LQ):=mkF ad 24 [] sp [Zbh.T ad] t0 t0 t0 17 [] f (fun a b=>1000+a.length+b.length) (by kernel_rfl)
end Zbi
namespace Zce
def sp:Spec:=mkSp ⟨[(0,.agg c0)],[]⟩ ⟨[(0,Si)],[]⟩ g
noncomputable def T (ad:LQ):=mkF ad 21 [] sp [] t0 t0 t0 8 [] f (fun a b c d e _ j k=>1000+a.toNat+b.toNat+c.toNat+d.toNat+e.toNat+j.length+k.length) (by kernel_rfl)
end Zce
namespace Zbn
def sp:Spec:=mkSp ⟨[(0,.agg c2),(1,Sp 0 0)],[(some 9,c3)]⟩ ⟨[(0,Si)],[(none,c3)]⟩ g
noncomputable def T (ad:LQ):=mkF ad 44 [] sp [Zbi.T ad,Zce.T ad] (fun n=>tj 7 ⟨[(1,Sp 0 0),(2,Sp 1 0)],[(none,c3),(some 1,c2)]⟩ (fun _=>j7 n) <| tn) t0 t0 43 [] f (fun a b c d e i _ k l o p q r s=>1000+a.length+b.toNat+c.toNat+d.toNat+e.toNat+i.toNat+k.length+l.length+o.length+p.length+q.length+r.toNat+s.toNat) (by kernel_rfl)
end Zbn
namespace Zbp
def sp:Spec:=mkSp ⟨[(0,.c (.sl u2)),(1,.clo 44 [.ptr 0 0])],[(some 1,c3)]⟩ ⟨[(0,Si),(1,Si)],[(none,c3)]⟩ g
noncomputable def T (ad:LQ):=mkF ad 47 [44] sp [Zbn.T ad] t0 (fun n=>tl 2 ⟨[(1,.clo 44 [.ptr 0 0]),(9,.c (.sl u2)),(10,Si),(11,Si)],[(none,c3)]⟩ (fun _=>l2 n) <| tn) t0 25 [] f (fun a b c d e i=>1000+a.length+b.length+c.length+d.length+e.toNat+i.toNat) (by kernel_rfl)
end Zbp
namespace Zbj
def sp:Spec:=mkSp ⟨[(0,.agg [ki,ku,.str])],[]⟩ ⟨[(0,Si),(1,SB)],[]⟩ g
noncomputable def T (ad:LQ):=mkF ad 96 [] sp [Zab.T ad] (fun n=>tj 2 ⟨[(1,Sp 0 0),(4,SB)],[(some 0,[ki,ku,.str])]⟩ (fun _=>j2 n) <| tn) t0 t0 38 [] f (fun a b c=>1000+a.toNat+b.toNat+c.length) (by kernel_rfl)
end Zbj
namespace Zbd
def sp:Spec:=mkSp ⟨[(0,.c (.sl u1))],[]⟩ ⟨[(0,SB)],[]⟩ g
noncomputable def T (ad:LQ):=mkF ad 58 [] sp [Zbj.T ad] t0 (fun n=>tl 3 ⟨[(0,.c (.sl u1)),(3,Si),(8,.c (.sl u1)),(9,Si),(10,Si)],[]⟩ (fun _=>l3 n) <| tn) t0 38 [] f (fun a=>1000+a.length) (by kernel_rfl)
end Zbd
namespace Zav
def sp:Spec:=mkSp ⟨[(0,Sp 0 0)],[(some 0,[.row 45 u4])]⟩ ⟨[(0,.agg [ku,ki])],[(none,[.row 45 u4])]⟩ g
noncomputable def T (ad:LQ):=mkF ad 60 [] sp [] t0 t0 t0 24 [] f (fun a=>1000+a.length) (by kernel_rfl)
end Zav
namespace Zbt
def sp:Spec:=mkSp ⟨[(0,.agg [ku,ki]),(1,Si)],[]⟩ ⟨[(0,.agg [ku,ki])],[]⟩ g
noncomputable def T (ad:LQ):=mkF ad 59 [] sp [] t0 t0 t0 15 [] f (fun a b c=>1000+a.toNat+b.toNat+c.toNat) (by kernel_rfl)
end Zbt
namespace Zcn
def sp:Spec:=mkSp ⟨[(0,.agg [ku,ki]),(1,.agg [ku,ki])],[]⟩ ⟨[(0,.agg [ku,ki])],[]⟩ g
noncomputable def T (ad:LQ):=mkF ad 61 [] sp [] t0 t0 t0 16 [] f (fun a b c d=>1000+a.toNat+b.toNat+c.toNat+d.toNat) (by kernel_rfl)
end Zcn
namespace Zad
def sp:Spec:=mkSp ⟨[(0,.c (.sl u1)),(1,.c (.sl u3))],[]⟩ ⟨[(0,.agg [ku,ki]),(1,Si)],[]⟩ g
noncomputable def T (ad:LQ):=mkF ad 25 [] sp [Zbd.T ad,Zbi.T ad,Zav.T ad,Zbt.T ad,Zcn.T ad] (fun n=>tj 27 ⟨[(1,.c (.sl u3)),(4,Sp 0 0),(6,Sp 1 0),(9,Sp 2 0),(20,.c (.sl u1)),(21,Si),(22,Si)],[(some 1,[ku,ki]),(some 2,[.row 45 u4]),(some 3,[ku,ki])]⟩ (fun ms=>j27 n (l5 n ms.head!)) <| tn) (fun n=>tl 5 ⟨[(1,.c (.sl u3)),(4,Sp 0 0),(6,Sp 1 0),(20,.c (.sl u1)),(21,Si),(22,Si)],[(some 1,[ku,ki]),(some 2,[.row 45 u4])]⟩ (fun _=>l5 n) <| tn) t0 92 [] f (fun a b=>1000+a.length+b.length) (by kernel_rfl)
end Zad
namespace Zct
def sp:Spec:=mkSp ⟨[(0,.c (.sl u4))],[]⟩ ⟨[(0,.c (.slc u4))],[]⟩ g
noncomputable def T (ad:LQ):=mkF ad 92 [] sp [] t0 t0 t0 9 [] f (fun a=>1000+a.length) (by kernel_rfl)
end Zct
namespace Zba
def sp:Spec:=mkSp ⟨[(0,.c (.sl u4)),(1,.agg [ku,ki])],[]⟩ ⟨[(0,.c (.sl u4)),(1,Si)],[]⟩ g
noncomputable def T (ad:LQ):=mkF ad 46 [] sp [Zct.T ad] t0 (fun n=>tl 2 ⟨[(0,.c (.sl u4)),(3,Sp 0 0),(8,.c (.sl u4)),(9,Si),(10,Si)],[(some 1,[ku,ki])]⟩ (fun _=>l2 n) <| tn) t0 28 [] f (fun a b c=>1000+a.length+b.toNat+c.toNat) (by kernel_rfl)
end Zba
namespace Zcf
def sp:Spec:=mkSp ⟨[(0,.agg c2),(1,Sp 0 0)],[(some 9,c3)]⟩ ⟨[(0,Si)],[(none,c3)]⟩ g
noncomputable def T (ad:LQ):=mkF ad 45 [] sp [Zad.T ad,Zba.T ad] t0 t0 t0 40 [] f (fun a b c d e i _ k l o p q r s=>1000+a.length+b.toNat+c.toNat+d.toNat+e.toNat+i.toNat+k.length+l.length+o.length+p.length+q.length+r.toNat+s.toNat) (by kernel_rfl)
end Zcf
namespace Zbq
def sp:Spec:=mkSp ⟨[(0,.c (.sl u2)),(1,.clo 45 [.ptr 0 0])],[(some 1,c3)]⟩ ⟨[(0,Si),(1,Si)],[(none,c3)]⟩ g
noncomputable def T (ad:LQ):=mkF ad 47 [45] sp [Zcf.T ad] t0 (fun n=>tl 2 ⟨[(1,.clo 45 [.ptr 0 0]),(9,.c (.sl u2)),(10,Si),(11,Si)],[(none,c3)]⟩ (fun _=>l2 n) <| tn) t0 25 [] f (fun a b c d e i=>1000+a.length+b.length+c.length+d.length+e.toNat+i.toNat) (by kernel_rfl)
end Zbq
namespace Zaq
def sp:Spec:=mkSp ⟨[(0,.c (.sl u2))],[]⟩ ⟨[(0,.agg c3),(1,Si),(2,Si)],[]⟩ g
noncomputable def T (ad:LQ):=mkF ad 16 [] sp [Zbp.T ad,Zbq.T ad] (fun n=>tj 7 ⟨[(0,.c (.sl u2)),(2,Sp 0 0),(3,Si),(4,Si),(13,.c (.clr 0 [44,45])),(14,Si),(15,Si)],[(some 1,c3)]⟩ (fun ms=>j7 n (l4 n ms.head!)) <| tn) (fun n=>tl 4 ⟨[(0,.c (.sl u2)),(2,Sp 0 0),(13,.c (.clr 0 [44,45])),(14,Si),(15,Si)],[(some 1,c3)]⟩ (fun _=>l4 n) <| tn) t0 44 [] f (fun a=>1000+a.length) (by kernel_rfl)
end Zaq
namespace Zcu
def sp:Spec:=mkSp ⟨[(0,.agg [.str,ki]),(1,Ss)],[]⟩ ⟨[(0,Si)],[]⟩ g
noncomputable def T (ad:LQ):=mkF ad 150 [] sp [strings_Compare.T ad] t0 t0 t0 9 [] f (fun a b c=>1000+a.length+b.toNat+c.length) (by kernel_rfl)
end Zcu
namespace Zbg
def sp:Spec:=mkSp ⟨[(0,.c (.sl u3)),(1,Ss),(2,.c (.raw (.func (.func 150) #[] #[])))],[]⟩ ⟨[(0,Si),(1,SB)],[]⟩ g
noncomputable def T (ad:LQ):=mkF ad 149 [] sp [Zcu.T ad] t0 (fun n=>tl 3 ⟨[(0,.c (.sl u3)),(1,Ss),(2,.c (.raw (.func (.func 150) #[] #[]))),(8,Si),(9,Si),(10,Si)],[]⟩ (fun _=>l3 n) <| tn) t0 49 [] f (fun a b=>1000+a.length+b.length) (by kernel_rfl)
end Zbg
namespace Zcg
def sp:Spec:=mkSp ⟨[(0,Sp 0 0),(1,Ss)],[(some 0,c4)]⟩ ⟨[(0,Si)],[(none,c4)]⟩ g
noncomputable def T (ad:LQ):=mkF ad 101 [] sp [Zbi.T ad,Zbg.T ad,Zam.T ad,slices_Insert_api_Sym_api_Sym.T ad] t0 t0 t0 53 [] f (fun a b c d e i j k l=>1000+a.length+b.length+c.length+d.length+e.toNat+i.toNat+j.length+k.length+l.length) (by kernel_rfl)
end Zcg
namespace Zag
def sp:Spec:=mkSp ⟨[(0,.c (.sl u1)),(1,.c (.sl u3)),(2,Si),(3,Si)],[]⟩ ⟨[(0,Si),(1,Si)],[]⟩ g
noncomputable def T (ad:LQ):=mkF ad 102 [] sp [Zad.T ad] (fun n=>tj 11 ⟨[(2,Si),(3,Si),(35,.agg [ki,ki]),(36,Si)],[]⟩ (fun ms=>j11 n (l7 n ms.head!)) <| tn) (fun n=>tl 7 ⟨[(2,Si),(3,Si),(35,.agg [ki,ki]),(36,Si)],[]⟩ (fun _=>l7 n) <| tn) t0 49 [] f (fun a b c d=>1000+a.length+b.length+c.toNat+d.toNat) (by kernel_rfl)
end Zag
namespace Zbo
def sp:Spec:=mkSp ⟨[(0,Si),(1,Si),(2,Si)],[]⟩ ⟨[(0,SB)],[]⟩ g
noncomputable def T (ad:LQ):=mkF ad 115 [] sp [] t0 t0 t0 15 [] f (fun a b c=>1000+a.toNat+b.toNat+c.toNat) (by kernel_rfl)
end Zbo
namespace Zcv
def sp:Spec:=mkSp ⟨[(0,SB)],[]⟩ ⟨[(0,Su)],[]⟩ g
noncomputable def T (ad:LQ):=mkF ad 156 [] sp [] t0 t0 t0 4 [] f (fun _=>(1000:Nat)) (by kernel_rfl)
end Zcv
namespace Zas
def sp:Spec:=mkSp ⟨[(0,Si),(1,SB),(2,SB)],[]⟩ ⟨[(0,.agg [ki,ki,ki])],[]⟩ g
noncomputable def T (ad:LQ):=mkF ad 117 [] sp [Zcv.T ad] t0 t0 t0 19 [] f (fun a _ _=>1000+a.toNat) (by kernel_rfl)
end Zas
namespace Zca
def sp:Spec:=mkSp ⟨[(0,Si),(1,Si),(2,Sp 0 0),(3,Sp 1 0)],[(some 2,[ku]),(some 3,[ku])]⟩ ⟨[],[(none,[ku]),(none,[ku])]⟩ g
noncomputable def T (ad:LQ):=mkF ad 202 [] sp [] t0 t0 t0 17 [] f (fun a b c d=>1000+a.toNat+b.toNat+c.toNat+d.toNat) (by kernel_rfl)
end Zca
namespace Zbl
def sp:Spec:=mkSp ⟨[(0,Si),(1,Si),(2,.clo 202 [.ptr 0 0,.ptr 1 0])],[(some 2,[ku]),(some 3,[ku])]⟩ ⟨[],[(none,[ku]),(none,[ku])]⟩ g
noncomputable def T (ad:LQ):=mkF ad 157 [202] sp [Zca.T ad] t0 (fun n=>tl 2 ⟨[(0,Si),(1,Si),(2,.clo 202 [.ptr 0 0,.ptr 1 0]),(6,Si)],[(none,[ku]),(none,[ku])]⟩ (fun _=>l2 n) <| tn) t0 38 [] f (fun a b c d=>1000+a.toNat+b.toNat+c.toNat+d.toNat) (by kernel_rfl)
end Zbl
namespace Zcb
def sp:Spec:=mkSp ⟨[(0,Su),(1,Si),(2,Si),(3,Su)],[]⟩ ⟨[(0,Su)],[]⟩ g
noncomputable def T (ad:LQ):=mkF ad 155 [] sp [Zbl.T ad] t0 t0 t0 14 [] f (fun a b c d=>1000+a.toNat+b.toNat+c.toNat+d.toNat) (by kernel_rfl)
end Zcb
namespace Zaj
def sp:Spec:=mkSp ⟨[(0,.c (.sl u5))],[]⟩ ⟨[(0,Su)],[]⟩ g
noncomputable def T (ad:LQ):=mkF ad 116 [] sp [Zcb.T ad] t0 (fun n=>tl 3 ⟨[(3,Su),(6,.c (.sl u5)),(7,Si),(8,Si)],[]⟩ (fun _=>l3 n) <| tn) t0 23 [] f (fun a=>1000+a.length) (by kernel_rfl)
end Zaj
namespace Zaz
def sp:Spec:=mkSp ⟨[(0,.agg c5)],[]⟩ ⟨[(0,Su)],[]⟩ g
noncomputable def T (ad:LQ):=mkF ad 68 [] sp [Zas.T ad,Zaj.T ad] (fun n=>tj 14 ⟨[(1,Sp 0 0),(6,Sp 1 0)],[(some 0,c5),(some 1,[ki,ki,ki])]⟩ (fun _=>j14 n) <| tn) t0 t0 97 [] f (fun a b c d e i _=>1000+a.toNat+b.toNat+c.toNat+d.toNat+e.toNat+i.toNat) (by kernel_rfl)
end Zaz
namespace Zcc
def sp:Spec:=mkSp ⟨[(0,Si),(1,Si),(2,Sp 0 0),(3,Sp 1 0)],[(some 2,[ku]),(some 3,[ku])]⟩ ⟨[],[(none,[ku]),(none,[ku])]⟩ g
noncomputable def T (ad:LQ):=mkF ad 158 [] sp [] t0 t0 t0 14 [] f (fun a b c d=>1000+a.toNat+b.toNat+c.toNat+d.toNat) (by kernel_rfl)
end Zcc
namespace Zbm
def sp:Spec:=mkSp ⟨[(0,Si),(1,Si),(2,.clo 158 [.ptr 0 0,.ptr 1 0])],[(some 2,[ku]),(some 3,[ku])]⟩ ⟨[],[(none,[ku]),(none,[ku])]⟩ g
noncomputable def T (ad:LQ):=mkF ad 157 [158] sp [Zcc.T ad] t0 (fun n=>tl 2 ⟨[(0,Si),(1,Si),(2,.clo 158 [.ptr 0 0,.ptr 1 0]),(6,Si)],[(none,[ku]),(none,[ku])]⟩ (fun _=>l2 n) <| tn) t0 38 [] f (fun a b c d=>1000+a.toNat+b.toNat+c.toNat+d.toNat) (by kernel_rfl)
end Zbm
namespace Zcd
def sp:Spec:=mkSp ⟨[(0,Su),(1,Si),(2,Si)],[]⟩ ⟨[(0,Su)],[]⟩ g
noncomputable def T (ad:LQ):=mkF ad 119 [] sp [Zbm.T ad] t0 t0 t0 13 [] f (fun a b c=>1000+a.toNat+b.toNat+c.toNat) (by kernel_rfl)
end Zcd
namespace Zan
def sp:Spec:=mkSp ⟨[(0,Si),(1,Si),(2,.c (.pp (.int .u32)))],[]⟩ ⟨[(0,Si)],[]⟩ g
noncomputable def T (ad:LQ):=mkF ad 118 [] sp [Zcd.T ad] t0 t0 t0 11 [] f (fun a b c=>1000+a.toNat+b.toNat+c.toNat) (by kernel_rfl)
end Zan
namespace Zcq
def sp:Spec:=mkSp ⟨[(0,Si)],[]⟩ ⟨[(0,Si)],[]⟩ g
noncomputable def T (ad:LQ):=mkF ad 159 [] sp [] t0 t0 t0 6 [] f (fun a=>1000+a.toNat) (by kernel_rfl)
end Zcq
namespace Zbu
def sp:Spec:=mkSp ⟨[(0,Su),(1,Si)],[]⟩ ⟨[(0,Si)],[]⟩ g
noncomputable def T (ad:LQ):=mkF ad 120 [] sp [Zcq.T ad] t0 t0 t0 16 [] f (fun a b=>1000+a.toNat+b.toNat) (by kernel_rfl)
end Zbu
namespace Zat
def sp:Spec:=mkSp ⟨[(0,Su)],[]⟩ ⟨[(0,.agg c5)],[]⟩ g
noncomputable def T (ad:LQ):=mkF ad 69 [] sp [Zan.T ad,Zbu.T ad] (fun n=>tj 16 ⟨[(2,Sp 0 0),(6,Sp 1 0)],[(some 0,c5),(some 1,c5)]⟩ (fun _=>j16 n) <| tn) t0 t0 80 [] f (fun a=>1000+a.toNat) (by kernel_rfl)
end Zat
namespace Zao
def sp:Spec:=mkSp ⟨[(0,.agg c5)],[]⟩ ⟨[(0,SB)],[]⟩ g
noncomputable def T (ad:LQ):=mkF ad 67 [] sp [Zbo.T ad,Zaz.T ad,Zat.T ad] (fun n=>tj 10 ⟨[(1,Sp 0 0)],[(some 0,c5)]⟩ (fun _=>j10 n) <| tn) t0 t0 64 [] f (fun a b c d e i _=>1000+a.toNat+b.toNat+c.toNat+d.toNat+e.toNat+i.toNat) (by kernel_rfl)
end Zao
namespace Zbf
def sp:Spec:=mkSp ⟨[(0,.agg c5)],[]⟩ ⟨[(0,Su),(1,Si)],[]⟩ g
noncomputable def T (ad:LQ):=mkF ad 35 [] sp [Zao.T ad,Zaz.T ad] t0 t0 t0 9 [] f (fun a b c d e i _=>1000+a.toNat+b.toNat+c.toNat+d.toNat+e.toNat+i.toNat) (by kernel_rfl)
end Zbf
namespace Zaw
def sp:Spec:=mkSp ⟨[(0,Sp 0 0),(1,.agg [ku,ki])],[(some 0,c4)]⟩ ⟨[],[(none,c4)]⟩ g
noncomputable def T (ad:LQ):=mkF ad 64 [] sp [] (fun n=>tj 3 ⟨[(0,Sp 0 0),(3,Sp 1 0)],[(none,c4),(some 1,[ku,ki])]⟩ (fun _=>j3 n) <| tn) t0 t0 37 [] f (fun a b c d e i j k l o=>1000+a.toNat+b.toNat+c.length+d.length+e.length+i.toNat+j.toNat+k.length+l.length+o.length) (by kernel_rfl)
end Zaw
namespace Zch
def sp:Spec:=mkSp ⟨[(0,Sp 0 0),(1,.agg c5)],[(some 0,c4)]⟩ ⟨[(0,Si)],[(none,c4)]⟩ g
noncomputable def T (ad:LQ):=mkF ad 105 [] sp [Zbf.T ad,Zaw.T ad] t0 t0 t0 19 [] f (fun a b c d e i _ k l o p q r s t=>1000+a.toNat+b.toNat+c.toNat+d.toNat+e.toNat+i.toNat+k.length+l.length+o.length+p.toNat+q.toNat+r.length+s.length+t.length) (by kernel_rfl)
end Zch
namespace Zbr
def sp:Spec:=mkSp ⟨[(0,Sp 0 0),(1,Sp 1 0),(2,Sp 2 0)],[(some 0,c0),(some 1,[.ptr 3 0]),(some 2,[ki]),(some 11,c4)]⟩ ⟨[(0,.agg [ku,ki])],[(none,c0),(none,[.ptr 3 0]),(none,[ki]),(none,c4)]⟩ g
noncomputable def T (ad:LQ):=mkF ad 100 [] sp [Zad.T ad] t0 t0 t0 16 [] f (fun a b c d e _ j k l o p q r s t u v=>1000+a.toNat+b.toNat+c.toNat+d.toNat+e.toNat+j.length+k.length+l.toNat+o.length+p.length+q.length+r.toNat+s.toNat+t.length+u.length+v.length) (by kernel_rfl)
end Zbr
namespace Zci
def sp:Spec:=mkSp ⟨[(0,.agg [ku,ki]),(1,Si)],[]⟩ ⟨[(0,Si),(1,Si)],[]⟩ g
noncomputable def T (ad:LQ):=mkF ad 103 [] sp [] t0 t0 t0 35 [] f (fun a b c=>1000+a.toNat+b.toNat+c.toNat) (by kernel_rfl)
end Zci
namespace Zbv
def sp:Spec:=mkSp ⟨[(0,Sp 0 0),(1,.agg [ku,ki])],[(some 0,c4)]⟩ ⟨[(0,Si)],[(none,c4)]⟩ g
noncomputable def T (ad:LQ):=mkF ad 104 [] sp [] t0 t0 t0 30 [] f (fun a b c d e i j k l o=>1000+a.toNat+b.toNat+c.length+d.length+e.length+i.toNat+j.toNat+k.length+l.length+o.length) (by kernel_rfl)
end Zbv
namespace Zaf
def sp:Spec:=mkSp ⟨[(0,Sp 0 0),(1,.agg c0),(2,Si)],[(some 0,c4)]⟩ ⟨[(0,Si)],[(none,c4)]⟩ g
noncomputable def T (ad:LQ):=mkF ad 63 [] sp [Zcg.T ad,Zag.T ad,Zch.T ad,Zbr.T ad,Zci.T ad,Zba.T ad,Zbv.T ad,Zaw.T ad] (fun n=>tj 32 ⟨[(3,Sp 1 0),(6,Sp 2 0),(7,Sp 3 0)],[(none,c4),(some 0,[.ptr 0 0]),(some 1,[ki]),(some 2,c5)]⟩ (fun _=>j32 n) <| tj 12 ⟨[(3,Sp 1 0),(4,Sp 2 0),(6,Sp 3 0),(7,Sp 4 0),(9,Si)],[(none,c4),(some 0,[.ptr 0 0]),(some 1,c0),(some 2,[ki]),(some 3,c5)]⟩ (fun _=>j12 n) <| tj 31 ⟨[(6,Sp 1 0)],[(none,c4),(some 0,[ki])]⟩ (fun _=>j31 n) <| tj 29 ⟨[(3,Sp 1 0),(6,Sp 2 0),(14,Sp 3 0)],[(none,c4),(some 0,[.ptr 0 0]),(some 1,[ki]),(some 2,[ku,ki])]⟩ (fun _=>j29 n) <| tn) t0 t0 139 [] f (fun a b c d e _ j k l o p q r s t u v=>1000+a.toNat+b.toNat+c.toNat+d.toNat+e.toNat+j.length+k.length+l.toNat+o.length+p.length+q.length+r.toNat+s.toNat+t.length+u.length+v.length) (by kernel_rfl)
end Zaf
namespace Zah
def sp:Spec:=mkSp ⟨[(0,.c (.sl u2))],[]⟩ ⟨[(0,.agg c6),(1,Si),(2,Si)],[]⟩ g
noncomputable def T (ad:LQ):=mkF ad 30 [] sp [Zaq.T ad,Zaf.T ad,Zaw.T ad] t0 (fun n=>tl 14 ⟨[(2,Sp 0 0),(6,Sp 1 0),(53,.c (.sl u4)),(54,Si),(55,Si)],[(some 0,c6),(some 1,c4)]⟩ (fun _=>l14 n) <| tl 7 ⟨[(2,Sp 0 0),(5,Sp 1 0),(6,Sp 2 0),(7,.clo 1000063 [.ptr 2 0]),(29,.c (.sl u2)),(30,Si),(31,Si)],[(some 0,c6),(some 1,c7),(some 2,c4)]⟩ (fun _=>l7 n) <| tn) t0 75 [] f (fun a=>1000+a.length) (by kernel_rfl)
end Zah
namespace Zdg
def sp:Spec:=mkSp ⟨[(0,Ss)],[]⟩ ⟨[(0,.agg c6),(1,Si),(2,Si)],[]⟩ g
noncomputable def T (ad:LQ):=mkF ad 27 [] sp [Zcs.T ad,Zah.T ad] t0 t0 t0 22 [] f (fun a=>1000+a.length) (by kernel_rfl)
end Zdg
namespace Zax
def sp:Spec:=mkSp ⟨[(0,.c (.sl (.int .u32))),(1,.c (.sl (.int .u32)))],[]⟩ ⟨[(0,SB)],[]⟩ g
noncomputable def T (ad:LQ):=mkF ad 36 [] sp [] t0 (fun n=>tl 4 ⟨[(0,.c (.sl (.int .u32))),(1,.c (.sl (.int .u32))),(5,Si)],[]⟩ (fun _=>l4 n) <| tn) t0 26 [] f (fun a b=>1000+a.length+b.length) (by kernel_rfl)
end Zax
namespace Zbs
def sp:Spec:=mkSp ⟨[],[]⟩ ⟨[(0,SB)],[]⟩ g
noncomputable def T (ad:LQ):=mkF ad 26 [] sp [Zdg.T ad,Zax.T ad] t0 t0 t0 21 [] f (1000:Nat) (by kernel_rfl)
end Zbs
namespace Zac
def sp:Spec:=mkSp ⟨[(0,.agg c5)],[]⟩ ⟨[(0,.agg c5)],[]⟩ g
noncomputable def T (ad:LQ):=mkF ad 34 [] sp [] (fun n=>tj 25 ⟨[(2,Sp 0 0),(3,Sp 1 0)],[(some 0,c5),(some 1,c5)]⟩ (fun _=>j25 n) <| tj 10 ⟨[(1,Sp 0 0),(2,Sp 1 0),(3,Sp 2 0),(4,Si)],[(some 0,c5),(some 1,c5),(some 2,c5)]⟩ (fun _=>j10 n) <| tj 9 ⟨[(1,Sp 0 0),(2,Sp 1 0),(3,Sp 2 0),(4,Si)],[(some 0,c5),(some 1,c5),(some 2,c5)]⟩ (fun _=>j9 n) <| tj 7 ⟨[(1,Sp 0 0),(2,Sp 1 0),(3,Sp 2 0),(4,Si)],[(some 0,c5),(some 1,c5),(some 2,c5)]⟩ (fun _=>j7 n) <| tj 19 ⟨[(1,Sp 0 0),(2,Sp 1 0),(3,Sp 2 0)],[(some 0,c5),(some 1,c5),(some 2,c5)]⟩ (fun _=>j19 n) <| tn) t0 t0 111 [] f (fun a b c d e i _=>1000+a.toNat+b.toNat+c.toNat+d.toNat+e.toNat+i.toNat) (by kernel_rfl)
end Zac
namespace rivetlaw21_AsmInstr
def sp:Spec:=mkSp ⟨[(0,.agg c5)],[]⟩ ⟨[(0,SB)],[]⟩ g
def Q (ad:LQ) (a_rivetlaw21_shown:Option (Bool×Unit)) (a_asm_Lines:(List Ln)→Option ((List Int)×(List Int)×(List (Str×Int×Unit))×Int×Int×Unit)):Nat→Env sp.r.T:=envQ types maps [((26,[]),mkSp ⟨[],[]⟩ ⟨[(0,SB)],[]⟩ a_rivetlaw21_shown),(Zac.T ad).kv,(Zbf.T ad).kv,((30,[]),mkSp ⟨[(0,.c (.sl u2))],[]⟩ ⟨[(0,.agg c6),(1,Si),(2,Si)],[]⟩ a_asm_Lines),(Zax.T ad).kv] (fun n=>tj 8 ⟨[(3,SB),(4,Sp 0 0),(5,Sp 1 0)],[(some 1,c5),(some 2,c0)]⟩ (fun _=>j8 a_rivetlaw21_shown a_asm_Lines n) <| tj 6 ⟨[(3,SB),(4,Sp 0 0),(5,Sp 1 0)],[(some 1,c5),(some 2,c0)]⟩ (fun _=>j6 a_rivetlaw21_shown a_asm_Lines n) <| tn) t0 t0 87 0 []
theorem q2 (ad:LQ) (a_rivetlaw21_shown:Option (Bool×Unit)) (a_asm_Lines:(List Ln)→Option ((List Int)×(List Int)×(List (Str×Int×Unit))×Int×Int×Unit)):(fun (n:Nat)=>sL P 10 sp (Q ad a_rivetlaw21_shown a_asm_Lines n),fun n=>runE P 10 sp 87 (Q ad a_rivetlaw21_shown a_asm_Lines n))=(fun n=>sR P 10 sp (Q ad a_rivetlaw21_shown a_asm_Lines n),fun n=>ap sp.a.all (f a_rivetlaw21_shown a_asm_Lines n)):=by kernel_rfl
noncomputable def T (ad:LQ):=mkFa ad 10 [] sp [Zbs.T ad,Zac.T ad,Zbf.T ad,Zah.T ad,Zax.T ad] (fun n=>tj 8 ⟨[(3,SB),(4,Sp 0 0),(5,Sp 1 0)],[(some 1,c5),(some 2,c0)]⟩ (fun _=>j8 Zbs.g Zah.g n) <| tj 6 ⟨[(3,SB),(4,Sp 0 0),(5,Sp 1 0)],[(some 1,c5),(some 2,c0)]⟩ (fun _=>j6 Zbs.g Zah.g n) <| tn) t0 t0 87 [] (fun n=>f Zbs.g Zah.g n) (fun a b c d e i _=>1000+a.toNat+b.toNat+c.toNat+d.toNat+e.toNat+i.toNat) (by kernel_rfl) (q2 ad Zbs.g Zah.g)
end rivetlaw21_AsmInstr
theorem rivetlaw21_AsmInstr.sat:Sat P (LW ad) 10 rivetlaw21_AsmInstr.sp:=(rivetlaw21_AsmInstr.T ad).sat
end
end Rv
namespace Rv
open Go
theorem w64 {x:Int} (h:-9223372036854775808≤x∧x≤9223372036854775807):IntKind.i64.wrap x=x:=IntWalk.i64_in _ h
theorem dt {p:Prop} [Decidable p]:(decide p=true)=p:=by simp
theorem df {p:Prop} [Decidable p]:(decide p=false)=¬ p:=by simp
theorem bt_nat (s:Str) (k:Nat):bt s (k:Int)=((s.getD k 0).toNat:Int):=rfl
theorem drop_cons {s:Str} {k:Nat} (h:k < s.length):s.drop k=s.getD k 0::s.drop (k+1):=by
 rw [List.drop_eq_getElem_cons h]
 congr 1
 simp [List.getD,h]
theorem byte_is (b:UInt8) (n:Nat) (hn:n < 256):((b.toNat:Int)=(n:Int))=(b=UInt8.ofNat n):=by
 apply propext
 constructor
 ·intro h
  apply UInt8.toNat_inj.1
  rw [UInt8.toNat_ofNat',Nat.mod_eq_of_lt hn]
  omega
 ·intro h
  rw [h,UInt8.toNat_ofNat',Nat.mod_eq_of_lt hn]
end Rv
namespace Rv
open Go
def isL (b:UInt8):Bool:=decide (65≤b.toNat∧b.toNat≤90∨97≤b.toNat∧b.toNat≤122∨b.toNat=95)
def isD (b:UInt8):Bool:=decide (48≤b.toNat∧b.toNat≤57)
def isW (b:UInt8):Bool:=isL b || isD b
def digOf (b:UInt8):Option Nat:=
 if 48≤b.toNat∧b.toNat≤57 then some (b.toNat - 48) else if 97≤b.toNat∧b.toNat≤122 then some (b.toNat - 87) else if 65≤b.toNat∧b.toNat≤90 then some (b.toNat - 55) else none
def numFrom (base:Nat):Nat→Str→Option Nat
 | n,[]=>some n
 | n,c::r=>match digOf c with
  | some d=>if d < base then (if n * base+d < 4294967296 then numFrom base (n * base+d) r else none) else none
  | none=>none
def num (s:Str):Option Nat:=
 if ([48,120]:Str).isPrefixOf s then (if s.drop 2=[] then none else numFrom 16 0 (s.drop 2)) else if s=[] then none else numFrom 10 0 s
abbrev Tok:=Int×Int×Str×Int×Unit
end Rv
namespace Rv
open Go
def shift (j:Int) (t:Tok):Tok:=(t.1,t.2.1+j,t.2.2)
end Rv
namespace Rv
open Go
end Rv
namespace Rv
open Go
end Rv
namespace Rv
open Go
def regLike (s:Str):Bool:=decide (s.getD 0 0=82) && (decide (s.length=2) || decide (s.length=3)) && (s.drop 1).all isD
def labelOk (s:Str):Bool:=decide (s≠[]) && decide (s.length≤12) && !isD (s.getD 0 0) && s.all isW && !regLike s
def labT (b:Int):Bool:=
 if bitsI .or .u8 b 32 < 97∨122 < bitsI .or .u8 b 32∨b < 65 then decide (b=95) || (!decide (b < 48) && !decide (57 < b)) else true
theorem labT_all:((List.range 256).all fun k=>labT k == isW (UInt8.ofNat k))=true:=by decide +kernel
theorem labT_eq (b:UInt8):labT b.toNat=isW b:=by
 have h:=List.all_eq_true.1 labT_all b.toNat (by simp; exact b.toNat_lt)
 simpa using h
theorem propTF (p:Prop):p=True∨p=False:=(Classical.em p).imp eq_true eq_false
theorem label_step (s:Str) (n m:Nat) (i:Nat) (h1:i < s.length) (X:Option (Bool×Unit)) (hX:Zab.j9 n (Zab.l4 n m) s (s.length:Int) (i:Int)=X) :
  Zab.l4 n (m+1) s (s.length:Int) (i:Int)=if labT (bt s i)=true then X else some (false,()):=by
 have hc:(0:Int)≤i∧(i:Int) < s.length:=by omega
 have hc2:(i:Int) < s.length:=hc.2
 simp only [Zab.l4,dt,df,hX,labT]
 by_cases a1:bitsI .or .u8 (bt s i) 32 < 97 <;> by_cases a2:122 < bitsI .or .u8 (bt s i) 32 <;> by_cases a3:bt s i < 65 <;> rcases propTF (bt s i=95) with a4 | a4 <;> by_cases a5:bt s i < 48 <;> by_cases a6:57 < bt s i <;>
  simp only [hc,hc2,a1,a2,a3,a4,a5,a6,if_true,if_false,not_true_eq_false,not_false_eq_true,ne_eq,true_or,or_true,or_false,false_or,or_self,and_self,true_and,decide_true,decide_false,Bool.true_or,Bool.false_or,Bool.not_true,Bool.not_false,Bool.and_true,Bool.and_false,Bool.false_and,Bool.true_and,Bool.or_self,Bool.or_false,Bool.or_true,Bool.false_eq_true]
theorem label_loop (s:Str) (hs:s.length≤12) (n:Nat):∀ (m i:Nat),i≤s.length→s.length - i < m →
  Zab.l4 n m s (s.length:Int) (i:Int)=if (s.drop i).all isW=true then Zab.l4 n 1 s (s.length:Int) (s.length:Int) else some (false,()):=by
 intro m
 induction m with
 | zero=>intro i _ h; omega
 | succ m ih=>
  intro i hi hm
  by_cases h1:i < s.length
  ·have hnext:Zab.j9 n (Zab.l4 n m) s (s.length:Int) (i:Int)=if (s.drop (i+1)).all isW=true then Zab.l4 n 1 s (s.length:Int) (s.length:Int) else some (false,()):=by
    unfold Zab.j9
    rw [w64 (by omega),show (i:Int)+1=((i+1:Nat):Int) by omega]
    exact ih (i+1) (by omega) (by omega)
   rw [label_step s n m i h1 _ hnext,bt_nat,labT_eq,drop_cons h1,List.all_cons]
   cases hw:isW (s.getD i 0)
   ·rfl
   ·rw [if_pos rfl,Bool.true_and]
  ·have hi':i=s.length:=by omega
   subst hi'
   rw [List.drop_length,List.all_nil,if_pos rfl]
   have hlt:¬ ((s.length:Int) < s.length):=by omega
   simp only [Zab.l4,dt,hlt,if_false]
theorem dig_eq (b:UInt8):L.isDig b=isD b:=by simp [L.isDig,isD]
theorem dropWhile_head {p:UInt8→Bool}:∀ {l:Str} {a:UInt8} {r:Str},l.dropWhile p=a::r→p a=false
 | [],_,_,h=>by simp at h
 | b::l,a,r,h=>by
  rw [List.dropWhile_cons] at h
  cases hb:p b
  ·rw [hb] at h
   simp only [Bool.false_eq_true,if_false,List.cons.injEq] at h
   rw [← h.1]; exact hb
  ·rw [hb] at h
   exact dropWhile_head (l:=l) (by simpa using h)
theorem trim_nil (s:Str):(L.trimDig s=[])=(s.all isD=true):=by
 have gen:∀ l:Str,(l.dropWhile L.isDig=[])↔l.all isD=true:=fun l=>by
  induction l with
  | nil=>simp
  | cons a l ih=>
   simp only [List.dropWhile_cons,List.all_cons,dig_eq]
   cases h:isD a
   ·simp
   ·simp [ih]
 unfold L.trimDig
 apply propext
 rw [gen]
 constructor
 ·intro h
  have h0:(s.reverse.dropWhile L.isDig)=[]:=by
   cases hr:s.reverse.dropWhile L.isDig with
   | nil=>rfl
   | cons a r=>
    exfalso
    rw [hr] at h
    have ha:isD a=true:=List.all_eq_true.1 h a (by simp)
    rw [← dig_eq,dropWhile_head hr] at ha
    cases ha
  rw [gen] at h0
  simpa using h0
 ·intro h
  have h0:s.reverse.dropWhile L.isDig=[]:=(gen _).2 (by simpa using h)
  rw [h0]; rfl
theorem label_eq (s:Str):Zab.g s=some (labelOk s,()):=by
 unfold Zab.g Zab.f
 simp only [dt,df]
 by_cases h0:s=[]
 ·subst h0; rw [if_neg (by simp)]; rfl
 ·rw [if_pos h0]
  have hl0:0 < s.length:=List.length_pos_iff.2 h0
  by_cases h12:s.length≤12
  ·rw [if_pos (by omega),if_pos (by omega)]
   have hj:¬ isD (s.getD 0 0)=true→Zab.j3 (1000+s.length) s=some (labelOk s,()):=fun hd=>by
    unfold Zab.j3
    have:=label_loop s h12 (1000+s.length) (1000+s.length) 0 (by omega) (by omega)
    rw [List.drop_zero] at this
    rw [show ((0:Nat):Int)=0 from rfl] at this
    rw [this]
    by_cases hw:s.all isW=true
    ·rw [if_pos hw]
     simp only [Zab.l4,dt,df,bt_nat]
     rw [if_neg (by omega),if_pos (by omega)]
     have hbt:bt s 0=((s.getD 0 0).toNat:Int):=rfl
     simp only [hbt]
     have h82:(((s.getD 0 0).toNat:Int)=82)=(s.getD 0 0=82):=byte_is _ 82 (by omega)
     simp only [h82]
     have htake:(s.take (s.length:Int).toNat).drop (1:Int).toNat=s.drop 1:=by
      rw [show (s.length:Int).toNat=s.length by omega,List.take_length]; rfl
     have htrim:s.length≤3→L.trimO ((s.take (s.length:Int).toNat).drop (1:Int).toNat) [48,49,50,51,52,53,54,55,56,57]=some (L.trimDig (s.drop 1),()):=fun h=>by
      rw [htake]
      unfold L.trimO
      rw [if_pos ⟨rfl,by simp; omega⟩]
     have hL:labelOk s=!regLike s:=by
      unfold labelOk
      rw [decide_eq_true (show s≠[] from h0),decide_eq_true h12,show isD (s.getD 0 0)=false by simpa using hd,hw]
      rfl
     have hT:decide (L.trimDig (s.drop 1)=[])=(s.drop 1).all isD:=by
      rw [Bool.eq_iff_iff,decide_eq_true_eq,trim_nil]
     rw [hL]
     unfold regLike
     by_cases hR:s.getD 0 0=82
     ·rw [if_pos hR,decide_eq_true hR]
      by_cases h2:s.length=2
      ·rw [if_neg (by omega),if_pos (by omega),htrim (by omega),Option.bind_some,decide_eq_true h2]
       dsimp only
       rw [hT]; rfl
      ·rw [if_pos (by omega),decide_eq_false h2]
       by_cases h3:s.length=3
       ·rw [if_pos (by omega),if_pos (by omega),htrim (by omega),Option.bind_some,decide_eq_true h3]
        dsimp only
        rw [hT]; rfl
       ·rw [if_neg (by omega),decide_eq_false h3]; rfl
     ·rw [if_neg hR,decide_eq_false hR]; rfl
    ·rw [if_neg hw]
     simp [labelOk,hw]
   have hbt:bt s 0=((s.getD 0 0).toNat:Int):=rfl
   simp only [hbt]
   by_cases h48:(48:Int)≤(s.getD 0 0).toNat
   ·rw [if_pos h48,if_pos (by omega)]
    by_cases h57:((s.getD 0 0).toNat:Int)≤57
    ·rw [if_pos h57]
     have hd:isD (s.getD 0 0)=true:=by unfold isD; rw [decide_eq_true_eq]; omega
     unfold labelOk
     rw [hd,decide_eq_true (show s≠[] from h0),decide_eq_true h12]; rfl
    ·rw [if_neg h57]
     exact hj (by unfold isD; rw [decide_eq_true_eq]; omega)
   ·rw [if_neg h48]
    exact hj (by unfold isD; rw [decide_eq_true_eq]; omega)
  ·rw [if_neg (by omega)]
   simp [labelOk,h12]
end Rv
namespace Rv
open Go
abbrev Item:=Int×Int×Str×Unit
def needsR (x:Item):Int×Bool:=
 if x.1=1 then (0,decide (x.2.2.1=[]))
 else if x.1=2 then (0,decide (x.2.1=0) && labelOk x.2.2.1)
 else if x.1=3 then (1,decide (x.2.1=0) && decide (x.2.2.1=[]))
 else if x.1=4∨x.1=5∨x.1=6 then (2,decide (x.2.1=0) && decide (x.2.2.1=[]))
 else (0,false)
theorem needs_eq (a b:Int) (c:Str):Zbj.g a b c=some ((needsR (a,b,c,())).1,(needsR (a,b,c,())).2,()):=by
 unfold Zbj.g Zbj.f
 simp only [Zbj.j2,dt,label_eq,Option.bind_some]
 unfold needsR
 dsimp only
 rcases propTF (b=0) with hb | hb
 all_goals
  by_cases h1:a=1
  ·subst h1; simp only [hb,if_true,if_false,decide_true,decide_false]
  by_cases h2:a=2
  ·subst h2; simp only [hb,if_true,if_false,decide_true,decide_false,Bool.true_and,Bool.false_and,show ¬ ((2:Int)=1) by decide]
  by_cases h3:a=3
  ·subst h3; simp only [hb,if_true,if_false,decide_true,decide_false,Bool.true_and,Bool.false_and,show ¬ ((3:Int)=1) by decide,show ¬ ((3:Int)=2) by decide]
  by_cases h4:a=4
  ·subst h4; simp only [hb,if_true,if_false,decide_true,decide_false,Bool.true_and,Bool.false_and,true_or,show ¬ ((4:Int)=1) by decide,show ¬ ((4:Int)=2) by decide,show ¬ ((4:Int)=3) by decide]
  by_cases h5:a=5
  ·subst h5; simp only [hb,if_true,if_false,decide_true,decide_false,Bool.true_and,Bool.false_and,true_or,or_true,show ¬ ((5:Int)=1) by decide,show ¬ ((5:Int)=2) by decide,show ¬ ((5:Int)=3) by decide,show ¬ ((5:Int)=4) by decide]
  by_cases h6:a=6
  ·subst h6; simp only [hb,if_true,if_false,decide_true,decide_false,Bool.true_and,Bool.false_and,true_or,or_true,show ¬ ((6:Int)=1) by decide,show ¬ ((6:Int)=2) by decide,show ¬ ((6:Int)=3) by decide,show ¬ ((6:Int)=4) by decide,show ¬ ((6:Int)=5) by decide]
  simp only [hb,h1,h2,h3,h4,h5,h6,if_true,if_false,or_self]
def wellR:Int→List Item→Bool
 | t,[]=>decide (t=1)
 | t,x::r=>(needsR x).2 && (!decide (t < (needsR x).1) && wellR (t+(1 - (needsR x).1)) r)
def well (e:List Item):Bool:=wellR 0 e && decide (e.length≤64)
theorem needs_range (x:Item):0≤(needsR x).1∧(needsR x).1≤2:=by
 unfold needsR
 split
 ·simp
 ·split
  ·simp
  ·split
   ·simp
   ·split <;> simp
theorem well_loop (e:List Item) (he:e.length≤4611686018427387904) (n:Nat):∀ (m i:Nat) (t:Int),i≤e.length→e.length - i < m→0≤t→t≤i →
  Zbd.l3 n m e t e (e.length:Int) (i:Int)=some (wellR t (e.drop i) && decide (e.length≤64),()):=by
 intro m
 induction m with
 | zero=>intro i t _ h; omega
 | succ m ih=>
  intro i t hi hm h0 ht
  by_cases h1:i < e.length
  ·have hx:e.drop i=e.getD i ((0:Int),((0:Int),(([]:Str),())))::e.drop (i+1):=by
    rw [List.drop_eq_getElem_cons h1,List.getD_eq_getElem?_getD,List.getElem?_eq_getElem h1]; rfl
   rw [hx]
   simp only [Zbd.l3,dt,df,needs_eq,Option.bind_some]
   rw [if_pos (by omega),if_pos (by omega),Int.toNat_natCast]
   generalize e.getD i ((0:Int),((0:Int),(([]:Str),())))=x
   obtain ⟨a,b,c,u⟩:=x
   cases u
   have hr:=needs_range (a,b,c,())
   simp only [wellR]
   generalize needsR (a,b,c,())=y at *
   obtain ⟨k,ok⟩:=y
   simp only at hr ⊢
   cases ok
   ·rfl
   ·rw [if_pos (show (!true)=false from rfl)]
    by_cases h2:t < k
    ·rw [if_pos h2]; simp [h2]
    ·rw [if_neg h2,w64 (x:=1 - k) (by omega),w64 (x:=t+(1 - k)) (by omega),w64 (x:=(i:Int)+1) (by omega),show (i:Int)+1=((i+1:Nat):Int) by omega]
     rw [ih (i+1) (t+(1 - k)) (by omega) (by omega) (by omega) (by omega)]
     simp [h2]
  ·have hi':i=e.length:=by omega
   subst hi'
   simp only [Zbd.l3,dt]
   rw [if_neg (by omega),List.drop_length]
   simp only [wellR]
   by_cases h3:t=1
   ·rw [if_pos h3]
    simp [h3]
    omega
   ·rw [if_neg h3]; simp [h3]
theorem well_eq (e:List Item) (he:e.length≤4611686018427387904):Zbd.g e=some (well e,()):=by
 unfold Zbd.g Zbd.f
 exact well_loop e he _ _ 0 0 (by omega) (by omega) (by omega) (by omega)
end Rv
namespace Rv
open Go
abbrev Sym:=Str×Int×Unit
def findR (s:Str):List Sym→Option Int
 | []=>none
 | x::r=>if x.1=s then some x.2.1 else findR s r
def findI (s:Str):List Sym→Option Nat
 | []=>none
 | x::r=>if x.1=s then some 0 else (findI s r).map (·+1)
theorem index_loop (l:List Sym) (s:Str) (hl:l.length≤4611686018427387904) (n:Nat):∀ (m i:Nat),i≤l.length→l.length - i < m →
  Zbh.l2 n m l (l.length:Int) (i:Int) s=some ((match findI s (l.drop i) with | some k=>((i+k:Nat):Int) | none=>-1),s,()):=by
 intro m
 induction m with
 | zero=>intro i _ h; omega
 | succ m ih=>
  intro i hi hm
  by_cases h1:i < l.length
  ·have hx:l.drop i=l.getD i (([]:Str),((0:Int),()))::l.drop (i+1):=by
    rw [List.drop_eq_getElem_cons h1,List.getD_eq_getElem?_getD,List.getElem?_eq_getElem h1]; rfl
   rw [hx]
   simp only [Zbh.l2,dt,Zcm.g,Zcm.f,Option.bind_some]
   rw [if_pos (by omega),if_pos (by omega),Int.toNat_natCast]
   generalize l.getD i (([]:Str),((0:Int),()))=x
   unfold findI
   by_cases h2:x.1=s
   ·rw [if_pos h2,if_pos h2]; simp
   ·rw [if_neg h2,if_neg h2,w64 (by omega),show (i:Int)+1=((i+1:Nat):Int) by omega,ih (i+1) (by omega) (by omega)]
    cases findI s (l.drop (i+1)) with
    | none=>rfl
    | some k=>simp only [Option.map_some]; rw [show i+1+k=i+(k+1) by omega]
  ·have hi':i=l.length:=by omega
   subst hi'
   simp only [Zbh.l2,dt]
   rw [if_neg (by omega),List.drop_length]
   rfl
theorem findI_some (s:Str):∀ {l:List Sym} {k:Nat},findI s l=some k→k < l.length∧findR s l=some (l.getD k (([]:Str),((0:Int),()))).2.1
 | [],_,h=>by cases h
 | x::r,k,h=>by
  unfold findI at h
  unfold findR
  by_cases h2:x.1=s
  ·rw [if_pos h2] at h ⊢
   cases h
   exact ⟨by simp,rfl⟩
  ·rw [if_neg h2] at h ⊢
   obtain ⟨j,hj,rfl⟩:=Option.map_eq_some_iff.1 h
   obtain ⟨h3,h4⟩:=findI_some s hj
   exact ⟨by simp; omega,by rw [h4]; rfl⟩
theorem findI_none (s:Str):∀ {l:List Sym},findI s l=none→findR s l=none
 | [],_=>rfl
 | x::r,h=>by
  unfold findI at h
  unfold findR
  by_cases h2:x.1=s
  ·rw [if_pos h2] at h; cases h
  ·rw [if_neg h2] at h ⊢
   exact findI_none s (Option.map_eq_none_iff.1 h)
theorem find_eq (l:List Sym) (s:Str) (hl:l.length≤4611686018427387904):Zbi.g l s=some ((findR s l).getD 0,(findR s l).isSome,()):=by
 unfold Zbi.g Zbi.f Zbh.g Zbh.f
 rw [show (0:Int)=((0:Nat):Int) from rfl,index_loop l s hl _ _ 0 (by omega) (by omega),Option.bind_some,List.drop_zero]
 dsimp only
 cases h:findI s l with
 | none=>
  rw [findI_none s h]
  rfl
 | some k=>
  obtain ⟨h1,h2⟩:=findI_some s h
  rw [h2]
  simp only [dt]
  rw [if_neg (by omega),if_pos (by omega)]
  simp
end Rv
namespace Rv
open Go
abbrev Val:=Int×Int×Unit
theorem pop_eq (l:List Val) (v:Val) (hl:l.length≤4611686018427387904):Zav.g (l++[v])=some (v.1,v.2.1,l,()):=by
 unfold Zav.g Zav.f
 have e1:IntKind.i64.wrap (((l++[v]).length:Int) - 1)=(l.length:Int):=by
  rw [w64 (by simp; omega)]; simp
 have e2:(l++[v]).getD l.length ((0:Int),((0:Int),()))=v:=by
  rw [List.getD_eq_getElem?_getD,List.getElem?_append_right (Nat.le_refl _)]; simp
 rw [e1,Int.toNat_natCast,if_pos (by simp; omega),if_pos (by simp; omega),e2,List.take_left]
def stepR (labels:List Sym) (st:List Val) (x:Item):Except Int (List Val):=
 if x.1=2 then match findR x.2.2.1 labels with
  | some a=>.ok (st++[(IntKind.u32.wrap a,1,())])
  | none=>.error 25
 else if x.1=3 then match st.getLast? with
  | some v=>.ok (st.dropLast++[(IntKind.u32.wrap (0 - v.1),IntKind.i64.wrap (0 - v.2.1),())])
  | none=>.error 99
 else if x.1=4∨x.1=5∨x.1=6 then match st.getLast?,st.dropLast.getLast? with
  | some b,some a=>
   if x.1=4 then .ok (st.dropLast.dropLast++[(IntKind.u32.wrap (a.1+b.1),IntKind.i64.wrap (a.2.1+b.2.1),())])
   else if x.1=5 then .ok (st.dropLast.dropLast++[(IntKind.u32.wrap (a.1 - b.1),IntKind.i64.wrap (a.2.1 - b.2.1),())])
   else if a.2.1=0∧b.2.1=0 then .ok (st.dropLast.dropLast++[(IntKind.u32.wrap (a.1 * b.1),0,())])
   else .error 27
  | _,_=>.error 99
 else .ok (st++[(x.2.1,0,())])
def runR (labels:List Sym):List Val→List Item→Except Int (List Val)
 | st,[]=>.ok st
 | st,x::r=>match stepR labels st x with
  | .ok st=>runR labels st r
  | .error e=>.error e
theorem times_neg (a b:Int):Zbt.g a b (-1)=some (IntKind.u32.wrap (0 - a),IntKind.i64.wrap (0 - b),()):=by
 unfold Zbt.g Zbt.f
 have e1:IntKind.u32.wrap (-1)=4294967295:=by rw [IntKind.wrap_u32]; rfl
 have e2:IntKind.u32.wrap (4294967295 * a)=IntKind.u32.wrap (0 - a):=by rw [IntKind.wrap_u32,IntKind.wrap_u32]; omega
 rw [e1,e2,show -1 * b=0 - b by omega]
theorem sum_eq (a b c d:Int):Zcn.g a b c d=some (IntKind.u32.wrap (a+c),IntKind.i64.wrap (b+d),()):=rfl
theorem i64_add_neg (a b:Int):IntKind.i64.wrap (a+IntKind.i64.wrap (0 - b))=IntKind.i64.wrap (a - b):=by
 rw [IntKind.wrap_i64,IntKind.wrap_i64,IntKind.wrap_i64]; omega
theorem u32_add_neg (a b:Int):IntKind.u32.wrap (a+IntKind.u32.wrap (0 - b))=IntKind.u32.wrap (a - b):=by
 rw [IntKind.wrap_u32,IntKind.wrap_u32,IntKind.wrap_u32]; omega
end Rv
namespace Rv
open Go
def lastV (st:List Val):Option (Int×Int×Int×Unit):=
 match st.getLast? with
 | some v=>some (v.1,v.2.1,0,())
 | none=>none
theorem of_push (labels:List Sym) (e:List Item) (n:Nat) (rl) (t:Int) (i:Nat) (hi:i≤1000) (b0 b1:Int) (st:List Val) (hst:st.length≤1000) (v0 v1:Int) :
  Zad.j27 n rl labels e t (i:Int) b0 b1 st v0 v1=rl labels e t ((i+1:Nat):Int) b0 b1 (st++[(v0,v1,())]):=by
 unfold Zad.j27
 rw [if_pos (by simp; omega),w64 (by omega)]
 rfl
theorem snocV (st:List Val):st=[]∨∃ l v,st=l++[v]:=by
 rcases List.eq_nil_or_concat st with h | ⟨l,v,h⟩
 ·exact .inl h
 ·exact .inr ⟨l,v,by rw [h,List.concat_eq_append]⟩
theorem last1 (l:List Val) (v:Val):(l++[v]).getLast?=some v∧(l++[v]).dropLast=l:=by simp
theorem of_loop (labels:List Sym) (hlab:labels.length≤4611686018427387904) (e:List Item) (he:e.length≤999) (n:Nat):∀ (m i:Nat) (st:List Val) (b0 b1:Int),i≤e.length→e.length - i < m→wellR (st.length:Int) (e.drop i)=true→st.length≤i →
  Zad.l5 n m labels e (e.length:Int) (i:Int) b0 b1 st=match runR labels st (e.drop i) with
   | .error x=>some (0,0,x,())
   | .ok st'=>lastV st':=by
 intro m
 induction m with
 | zero=>intro i st b0 b1 _ h; omega
 | succ m ih=>
  intro i st b0 b1 hi hm hw hst
  by_cases h1:i < e.length
  ·have hx:e.drop i=e.getD i ((0:Int),((0:Int),(([]:Str),())))::e.drop (i+1):=by
    rw [List.drop_eq_getElem_cons h1,List.getD_eq_getElem?_getD,List.getElem?_eq_getElem h1]; rfl
   rw [hx] at hw ⊢
   simp only [Zad.l5,dt,df]
   rw [if_pos (by omega),if_pos (by omega),Int.toNat_natCast]
   generalize e.getD i ((0:Int),((0:Int),(([]:Str),())))=x at hw ⊢
   obtain ⟨a,b,c,u⟩:=x
   cases u
   simp only [wellR,Bool.and_eq_true,Bool.not_eq_true',decide_eq_false_iff_not] at hw
   obtain ⟨hk,hlt,hw⟩:=hw
   have next:∀ (s:List Val) (v0 v1:Int),s.length+1≤i+1→wellR ((s.length+1:Nat):Int) (e.drop (i+1))=true →
     Zad.j27 n (Zad.l5 n m) labels e (e.length:Int) (i:Int) b0 b1 s v0 v1=match runR labels (s++[(v0,v1,())]) (e.drop (i+1)) with
      | .error x=>some (0,0,x,())
      | .ok st'=>lastV st':=fun s v0 v1 hs hws=>by
    rw [of_push labels e n _ _ i (by omega) b0 b1 s (by omega) v0 v1]
    exact ih (i+1) _ b0 b1 (by omega) (by omega) (by simpa using hws) (by simpa using hs)
   simp only [runR,stepR]
   by_cases k2:a=2
   ·subst k2
    rw [if_pos rfl,if_pos rfl,find_eq labels c hlab,Option.bind_some]
    have e0:(needsR (2,b,c,())).1=0:=rfl
    rw [e0] at hw
    cases hf:findR c labels with
    | none=>rfl
    | some at_=>
     dsimp only [Option.isSome,Option.getD]
     rw [if_neg (by simp)]
     exact next st _ 1 (by omega) (by simpa using hw)
   ·rw [if_neg k2,if_neg k2]
    by_cases k3:a=3
    ·subst k3
     have e0:(needsR (3,b,c,())).1=1:=rfl
     rw [e0] at hlt hw
     rcases snocV st with rfl | ⟨l,v,rfl⟩
     ·simp at hlt
     ·obtain ⟨g1,g2⟩:=last1 l v
      rw [if_pos rfl,if_pos rfl,g1,g2,pop_eq l v (by simp at hst; omega),Option.bind_some]
      dsimp only
      rw [times_neg,Option.bind_some]
      exact next l _ _ (by simp at hst; omega) (by simpa using hw)
    ·rw [if_neg k3,if_neg k3]
     by_cases k4:a=4∨a=5∨a=6
     ·have e0:(needsR (a,b,c,())).1=2:=by
       unfold needsR
       rcases k4 with rfl | rfl | rfl <;> rfl
      rw [e0] at hlt hw
      rcases snocV st with rfl | ⟨l0,v,rfl⟩
      ·simp at hlt
      ·rcases snocV l0 with rfl | ⟨l,w,rfl⟩
       ·simp at hlt
       ·obtain ⟨g1,g2⟩:=last1 (l++[w]) v
        obtain ⟨g3,g4⟩:=last1 l w
        have hl:l.length≤1000:=by simp at hst; omega
        have hn:=next l
        rw [if_pos k4,g1,g2,g3,g4,pop_eq (l++[w]) v (by simp; omega),Option.bind_some]
        dsimp only
        have hp2:=pop_eq l w (by omega)
        simp only [hp2,Option.bind_some,sum_eq,times_neg,u32_add_neg,i64_add_neg]
        have hs1:l.length+1≤i+1:=by simp at hst; omega
        have hw1:wellR ((l.length+1:Nat):Int) (e.drop (i+1))=true:=by
         have:((l++[w]++[v]).length:Int)+(1 - 2)=((l.length+1:Nat):Int):=by simp; omega
         rw [← this]; exact hw
        rcases k4 with rfl | rfl | rfl
        ·rw [if_pos rfl,if_pos rfl,Int.add_comm v.1 w.1,Int.add_comm v.2.1 w.2.1]
         exact next l _ _ hs1 hw1
        ·rw [if_neg (show ¬ (5:Int)=4 by decide),if_neg (show ¬ (5:Int)=4 by decide),if_pos rfl,if_pos rfl]
         exact next l _ _ hs1 hw1
        ·rw [if_neg (show ¬ (6:Int)=4 by decide),if_neg (show ¬ (6:Int)=4 by decide),if_neg (show ¬ (6:Int)=5 by decide),if_neg (show ¬ (6:Int)=5 by decide),if_pos rfl]
         by_cases z1:v.2.1=0
         ·by_cases z2:w.2.1=0
          ·rw [if_pos (show w.2.1=0∧v.2.1=0 from ⟨z2,z1⟩)]
           simp only [z1,z2,decide_true,Bool.and_self,Bool.not_true,if_true]
           rw [if_neg (by decide),Int.mul_comm v.1 w.1]
           exact next l _ _ hs1 hw1
          ·rw [if_neg (show ¬ (w.2.1=0∧v.2.1=0) from fun h=>z2 h.1)]
           simp [z1,z2]
         ·rw [if_neg (show ¬ (w.2.1=0∧v.2.1=0) from fun h=>z1 h.2)]
          simp [z1]
     ·have ha:a=1:=by
       apply Classical.byContradiction
       intro h1'
       have:(needsR (a,b,c,())).2=false:=by
        unfold needsR
        simp [h1',k2,k3,k4]
       rw [this] at hk
       cases hk
      subst ha
      have e0:(needsR (1,b,c,())).1=0:=rfl
      rw [e0] at hw
      rw [if_neg k4,if_neg (show ¬ (1:Int)=4 by decide),if_neg (show ¬ (1:Int)=5 by decide),if_neg (show ¬ (1:Int)=6 by decide)]
      exact next st b 0 (by omega) (by simpa using hw)
  ·have hi':i=e.length:=by omega
   subst hi'
   simp only [Zad.l5,dt]
   rw [if_neg (by omega),List.drop_length]
   simp only [runR]
   rw [List.drop_length] at hw
   rcases snocV st with rfl | ⟨l,v,rfl⟩
   ·simp [wellR] at hw
   ·rw [pop_eq l v (by simp at hst; omega),Option.bind_some]
    simp [lastV]
def ofR (labels:List Sym) (e:List Item):Option (Int×Int×Int×Unit):=
 if well e=true then (match runR labels [] e with
  | .error x=>some (0,0,x,())
  | .ok st=>lastV st)
 else some (0,0,23,())
theorem of_eq (labels:List Sym) (hlab:labels.length≤4611686018427387904) (e:List Item) (he:e.length≤4611686018427387904):Zad.g e labels=ofR labels e:=by
 unfold Zad.g Zad.f ofR
 rw [well_eq e he,Option.bind_some]
 dsimp only
 by_cases hw:well e=true
 ·rw [hw,if_neg (by decide),if_pos rfl]
  unfold well at hw
  rw [Bool.and_eq_true,decide_eq_true_eq] at hw
  exact of_loop labels hlab e (by omega) _ _ 0 [] 0 0 (by omega) (by omega) (by simpa using hw.1) (by simp)
 ·have hw':well e=false:=by simpa using hw
  rw [hw']
  rfl
end Rv
namespace Rv
open Go
def enough:Int→List Item→Option Int
 | t,[]=>some t
 | t,x::r=>if (needsR x).2=true∧¬ t < (needsR x).1 then enough (t+(1 - (needsR x).1)) r else none
theorem wellR_enough:∀ (e:List Item) (t:Int),(wellR t e=true)=(enough t e=some 1)
 | [],t=>by simp [wellR,enough]
 | x::r,t=>by
  simp only [wellR,enough,Bool.and_eq_true,Bool.not_eq_true',decide_eq_false_iff_not]
  by_cases h:(needsR x).2=true∧¬ t < (needsR x).1
  ·rw [if_pos h,← wellR_enough r]
   simp [h.1,h.2]
  ·rw [if_neg h]
   apply propext
   constructor
   ·intro h'; exact absurd ⟨h'.1,h'.2.1⟩ h
   ·intro h'; cases h'
def wellL (e:List Item):Prop:=enough 0 e=some 1
end Rv
namespace Rv
open Go
theorem step_len (labels:List Sym) (x:Item) (st st':List Val) (hk:(needsR x).2=true) (hl:¬ (st.length:Int) < (needsR x).1) (h:stepR labels st x=.ok st'):(st'.length:Int)=st.length+(1 - (needsR x).1):=by
 obtain ⟨a,b,c,u⟩:=x
 cases u
 unfold stepR at h
 dsimp only at h
 by_cases k2:a=2
 ·subst k2
  rw [if_pos rfl] at h
  have e0:(needsR (2,b,c,())).1=0:=rfl
  rw [e0]
  split at h
  ·cases h; simp
  ·cases h
 ·rw [if_neg k2] at h
  by_cases k3:a=3
  ·subst k3
   have e0:(needsR (3,b,c,())).1=1:=rfl
   rw [e0] at hl ⊢
   rcases snocV st with rfl | ⟨l,v,rfl⟩
   ·simp at hl
   ·rw [if_pos rfl,(last1 l v).1,(last1 l v).2] at h
    cases h; simp
  ·rw [if_neg k3] at h
   by_cases k4:a=4∨a=5∨a=6
   ·have e0:(needsR (a,b,c,())).1=2:=by
     unfold needsR
     rcases k4 with rfl | rfl | rfl <;> rfl
    rw [e0] at hl ⊢
    rcases snocV st with rfl | ⟨l0,v,rfl⟩
    ·simp at hl
    ·rcases snocV l0 with rfl | ⟨l,w,rfl⟩
     ·simp at hl
     ·rw [if_pos k4,(last1 _ v).1,(last1 _ v).2,(last1 l w).1,(last1 l w).2] at h
      dsimp only at h
      split at h
      ·cases h; simp; omega
      ·split at h
       ·cases h; simp; omega
       ·split at h
        ·cases h; simp; omega
        ·cases h
   ·rw [if_neg k4] at h
    have ha:a=1:=by
     apply Classical.byContradiction
     intro h1'
     have:(needsR (a,b,c,())).2=false:=by
      unfold needsR
      simp [h1',k2,k3,k4]
     rw [this] at hk
     cases hk
    subst ha
    have e0:(needsR (1,b,c,())).1=0:=rfl
    rw [e0]
    cases h; simp
def onE (f:List Val→List Val):Except Int (List Val)→Except Int (List Val)
 | .ok l=>.ok (f l)
 | .error e=>.error e
theorem step_base (labels:List Sym) (x:Item) (base st:List Val) (hl:¬ (st.length:Int) < (needsR x).1):stepR labels (base++st) x=onE (base++·) (stepR labels st x):=by
 obtain ⟨a,b,c,u⟩:=x
 cases u
 unfold stepR
 dsimp only
 by_cases k2:a=2
 ·subst k2
  rw [if_pos rfl,if_pos rfl]
  cases findR c labels with
  | none=>rfl
  | some y=>simp [onE]
 ·rw [if_neg k2,if_neg k2]
  by_cases k3:a=3
  ·subst k3
   have e0:(needsR (3,b,c,())).1=1:=rfl
   rw [e0] at hl
   rcases snocV st with rfl | ⟨l,v,rfl⟩
   ·simp at hl
   ·rw [if_pos rfl,if_pos rfl,← List.append_assoc,(last1 (base++l) v).1,(last1 (base++l) v).2,(last1 l v).1,(last1 l v).2]
    simp [onE]
  ·rw [if_neg k3,if_neg k3]
   by_cases k4:a=4∨a=5∨a=6
   ·have e0:(needsR (a,b,c,())).1=2:=by
     unfold needsR
     rcases k4 with rfl | rfl | rfl <;> rfl
    rw [e0] at hl
    rcases snocV st with rfl | ⟨l0,v,rfl⟩
    ·simp at hl
    ·rcases snocV l0 with rfl | ⟨l,w,rfl⟩
     ·simp at hl
     ·rw [if_pos k4,if_pos k4,← List.append_assoc,← List.append_assoc,(last1 (base++l++[w]) v).1,(last1 (base++l++[w]) v).2,(last1 (base++l) w).1,(last1 (base++l) w).2,(last1 (l++[w]) v).1,(last1 (l++[w]) v).2,(last1 l w).1,(last1 l w).2]
      dsimp only
      split
      ·simp [onE]
      ·split
       ·simp [onE]
       ·split
        ·simp [onE]
        ·rfl
   ·rw [if_neg k4,if_neg k4]
    simp [onE]
theorem run_base (labels:List Sym):∀ (e:List Item) (base st:List Val) (k:Int),enough (st.length:Int) e=some k→runR labels (base++st) e=onE (base++·) (runR labels st e)∧∀ st',runR labels st e=.ok st'→(st'.length:Int)=k
 | [],base,st,k,h=>by
  simp only [enough,Option.some.injEq] at h
  exact ⟨rfl,fun st' h'=>by cases h'; exact h⟩
 | x::e,base,st,k,h=>by
  simp only [enough] at h
  split at h
  ·rename_i hc
   simp only [runR]
   rw [step_base labels x base st hc.2]
   cases hs:stepR labels st x with
   | error er=>exact ⟨rfl,fun st' h'=>by cases h'⟩
   | ok s2=>
    have hl:=step_len labels x st s2 hc.1 hc.2 hs
    rw [← hl] at h
    exact run_base labels e base s2 k h
  ·cases h
end Rv
namespace Rv
open Go
theorem run_well (labels:List Sym) {e:List Item} (h:wellL e):(∃ x,runR labels [] e=.error x)∨∃ v,runR labels [] e=.ok [v]:=by
 obtain ⟨_,h2⟩:=run_base labels e [] [] 1 h
 cases hr:runR labels [] e with
 | error x=>exact .inl ⟨x,rfl⟩
 | ok st=>
  have:=h2 st hr
  match st,this with
  | [v],_=>exact .inr ⟨v,rfl⟩
end Rv
namespace Rv
open Go
end Rv
namespace Rv
open Go
def sizeN (x:Ln):Nat:=if x.2.1.1=0∨x.2.1.1=10 then 0 else 1
theorem sizeN_le (x:Ln):sizeN x≤1:=by unfold sizeN; split <;> omega
def placeR:List Ln→Nat→List Int→List Sym→Nat→Except (Nat×Int) (List Int×List Sym×Nat)
 | [],_,a,lb,c=>.ok (a,lb,c)
 | x::r,i,a,lb,c=>
  if x.1=[] then placeR r (i+1) (a++[((4 * c:Nat):Int)]) lb (c+sizeN x)
  else if (findR x.1 lb).isSome=true then .error (i+1,26)
  else placeR r (i+1) (a++[((4 * c:Nat):Int)]) (lb++[(x.1,((4 * c:Nat):Int),())]) (c+sizeN x)
def addR (p:List Val) (v:Val):List Val:=if v∈p then p else p++[v]
def vOf (lb:List Sym) (e:List Item):Int×Int×Int×Unit:=(ofR lb e).getD (0,0,99,())
def loadR (lb:List Sym):List Ln→Nat→List Val→Except (Nat×Int) (List Val)
 | [],_,p=>.ok p
 | x::r,i,p=>
  if x.2.1.1=8 then
   (if (vOf lb x.2.1.2.2.2.2.2.2.1).2.2.1≠0 then .error (i+1,(vOf lb x.2.1.2.2.2.2.2.2.1).2.2.1)
   else if (vOf lb x.2.1.2.2.2.2.2.2.1).2.1 < 0∨1 < (vOf lb x.2.1.2.2.2.2.2.2.1).2.1 then .error (i+1,27)
   else loadR lb r (i+1) (addR p ((vOf lb x.2.1.2.2.2.2.2.2.1).1,(vOf lb x.2.1.2.2.2.2.2.2.1).2.1,())))
  else loadR lb r (i+1) p
abbrev PlanT:=List Int×List Sym×List Val×Int×Int×Int×Int×Unit
def noPlan (i:Nat) (e:Int):PlanT:=([],[],[],0,0,(i:Int),e,())
def plEnd (t:List Int) (lb:List Sym) (c:Nat):Except (Nat×Int) (List Val)→PlanT
 | .error x=>noPlan x.1 x.2
 | .ok p=>if 1024 < c+p.length then noPlan 0 2 else (t,lb,p,((4 * c:Nat):Int),((c+p.length:Nat):Int),0,0,())
def plFin (l:List Ln):Except (Nat×Int) (List Int×List Sym×Nat)→PlanT
 | .error x=>noPlan x.1 x.2
 | .ok r=>plEnd r.1 r.2.1 r.2.2 (loadR r.2.1 l 0 [])
def planR (l:List Ln):PlanT:=plFin l (placeR l 0 [] [] 0)
def posR (v:Val):List Val→Nat
 | []=>0
 | x::r=>if x=v then 0 else posR v r+1
theorem ofR_any (labels:List Sym) (e:List Item):∃ v1 v2 x,ofR labels e=some (v1,v2,x,()):=by
 unfold ofR
 by_cases hw:well e=true
 ·rw [if_pos hw]
  unfold well at hw
  rw [Bool.and_eq_true,decide_eq_true_eq] at hw
  have hwl:wellL e:=by unfold wellL; rw [← wellR_enough]; exact hw.1
  rcases run_well labels hwl with ⟨x,hx⟩ | ⟨v,hv⟩
  ·rw [hx]; exact ⟨0,0,x,rfl⟩
  ·rw [hv]; exact ⟨v.1,v.2.1,0,rfl⟩
 ·rw [if_neg hw]; exact ⟨0,0,23,rfl⟩
theorem ofR_vOf (labels:List Sym) (e:List Item):ofR labels e=some (vOf labels e):=by
 obtain ⟨a,b,c,h⟩:=ofR_any labels e
 unfold vOf; rw [h]; rfl
theorem placeR_len:∀ (l:List Ln) (i:Nat) (a:List Int) (lb:List Sym) (c:Nat) {r},placeR l i a lb c=.ok r→r.1.length=a.length+l.length∧r.2.1.length≤lb.length+l.length∧r.2.2≤c+l.length
 | [],_,a,lb,c,r,h=>by cases h; simp
 | x::t,i,a,lb,c,r,h=>by
  have hs:=sizeN_le x
  unfold placeR at h
  split at h
  ·have:=placeR_len t _ _ _ _ h; simp at this ⊢; omega
  ·split at h
   ·cases h
   ·have:=placeR_len t _ _ _ _ h; simp at this ⊢; omega
theorem addR_len (p:List Val) (v:Val):(addR p v).length≤p.length+1:=by unfold addR; split <;> simp
theorem loadR_len (lb:List Sym):∀ (l:List Ln) (i:Nat) (p:List Val) {r},loadR lb l i p=.ok r→r.length≤p.length+l.length
 | [],_,p,r,h=>by cases h; simp
 | x::t,i,p,r,h=>by
  unfold loadR at h
  split at h
  ·split at h
   ·cases h
   ·split at h
    ·cases h
    ·have:=loadR_len lb t _ _ h; have:=addR_len p ((vOf lb x.2.1.2.2.2.2.2.2.1).1,(vOf lb x.2.1.2.2.2.2.2.2.1).2.1,()); simp; omega
  ·have:=loadR_len lb t _ _ h; simp; omega
end Rv
namespace Rv
open Go
abbrev zSy:Sym:=(([]:Str),((0:Int),()))
abbrev less (a b:Str):Bool:=Op.bytesLess a b
theorem cmp_less:∀ a b:Str,(L.cmpR a b < 0↔less a b=true)∧(L.cmpR a b=0↔a=b)
 | [],[]=>by simp [L.cmpR,Op.bytesLess]
 | [],_::_=>by simp [L.cmpR,Op.bytesLess]
 | _::_,[]=>by simp [L.cmpR,Op.bytesLess]
 | a::r,b::s=>by
  have ih:=cmp_less r s
  unfold L.cmpR less Op.bytesLess
  by_cases h1:a < b
  ·have:a≠b:=fun e=>by subst e; exact absurd h1 (UInt8.lt_irrefl a)
   simp [h1,this]
  ·by_cases h2:b < a
   ·have:a≠b:=fun e=>by subst e; exact absurd h2 (UInt8.lt_irrefl a)
    simp [h1,h2,this]
   ·have e:a=b:=UInt8.le_antisymm (UInt8.not_lt.1 h2) (UInt8.not_lt.1 h1)
    subst e
    simp only [h1,if_false,decide_false,Bool.false_or,beq_self_eq_true,Bool.true_and,List.cons.injEq,true_and]
    exact ih
theorem less_trans:∀ {a b c:Str},less a b=true→less b c=true→less a c=true
 | _,[],_,h,_=>by simp [Op.bytesLess] at h
 | _,_::_,[],_,h=>by simp [Op.bytesLess] at h
 | [],_::_,_::_,_,_=>by simp [Op.bytesLess]
 | a::x,b::y,c::z,h1,h2=>by
  simp only [less,Op.bytesLess,Bool.or_eq_true,decide_eq_true_eq,Bool.and_eq_true,beq_iff_eq] at h1 h2 ⊢
  rcases h1 with h1 | ⟨rfl,h1⟩
  ·rcases h2 with h2 | ⟨rfl,h2⟩
   ·exact .inl (UInt8.lt_trans h1 h2)
   ·exact .inl h1
  ·rcases h2 with h2 | ⟨rfl,h2⟩
   ·exact .inl h2
   ·exact .inr ⟨rfl,less_trans h1 h2⟩
theorem less_total {a b:Str} (h:less a b=false) (hne:a≠b):less b a=true:=by
 induction a generalizing b with
 | nil=>cases b with
  | nil=>exact absurd rfl hne
  | cons b y=>simp [Op.bytesLess] at h
 | cons a x ih=>cases b with
  | nil=>simp [Op.bytesLess]
  | cons b y=>
   simp only [less,Op.bytesLess,Bool.or_eq_false_iff,decide_eq_false_iff_not,Bool.and_eq_false_iff,beq_eq_false_iff_ne,Bool.or_eq_true,decide_eq_true_eq,Bool.and_eq_true,beq_iff_eq] at h ⊢
   obtain ⟨h1,h2⟩:=h
   by_cases e:a=b
   ·subst e
    refine .inr ⟨rfl,ih (h2.resolve_left (fun g=>g rfl)) fun e=>hne (by rw [e])⟩
   ·exact .inl (UInt8.lt_of_le_of_ne (UInt8.not_lt.1 h1) (Ne.symm e))
def sortedS (y:List Sym):Prop:=y.Pairwise fun a b=>less a.1 b.1=true
def kS:List Sym→Str→Nat
 | [],_=>0
 | x::r,s=>if less x.1 s=true then kS r s+1 else 0
theorem kS_le:∀ (y:List Sym) (s:Str),kS y s≤y.length
 | [],_=>Nat.le_refl _
 | x::r,s=>by unfold kS; split; exact Nat.succ_le_succ (kS_le r s); exact Nat.zero_le _
theorem kS_is:∀ {y:List Sym} {s:Str} {i:Nat},(∀ t,t < i→less (y.getD t zSy).1 s=true)→i≤y.length→(i < y.length→less (y.getD i zSy).1 s=false)→kS y s=i
 | [],_,i,_,h,_=>by simp at h; subst h; rfl
 | x::r,s,0,_,_,h=>by
  have h:=h (by simp)
  have h:less x.1 s=false:=h
  unfold kS; rw [if_neg (by rw [h]; decide)]
 | x::r,s,i+1,h1,h2,h3=>by
  have h0:less x.1 s=true:=h1 0 (by omega)
  unfold kS
  rw [if_pos h0,kS_is (y:=r) (i:=i) (fun t ht=>by simpa using h1 (t+1) (by omega)) (by simpa using h2) (fun h=>by simpa using h3 (by simpa using h))]
theorem sorted_get {y:List Sym} (hy:sortedS y) {i j:Nat} (hij:i < j) (hj:j < y.length):less (y.getD i zSy).1 (y.getD j zSy).1=true:=by
 have:=List.pairwise_iff_getElem.1 hy i j (by omega) hj hij
 rw [List.getD_eq_getElem?_getD,List.getD_eq_getElem?_getD,List.getElem?_eq_getElem hj,List.getElem?_eq_getElem (show i < y.length by omega)]
 exact this
def isSy (y:List Sym) (s:Str):Bool:=decide (kS y s < y.length∧(y.getD (kS y s) zSy).1=s)
theorem u64_small {x:Int} (h:0≤x∧x≤9223372036854775807):IntKind.u64.wrap x=x:=by
 show (x % 2 ^ 64:Int)=x
 omega
theorem ecmp_eq (a:Str) (b:Int) (c:Str):Zcu.g a b c=some (L.cmpR a c,()):=rfl
theorem bs_loop (y:List Sym) (s:Str) (hy:sortedS y) (hl:y.length≤1000000) (n:Nat):∀ (m i j:Nat),i≤j→j≤y.length→j - i < m→(∀ t,t < i→less (y.getD t zSy).1 s=true)→(∀ t,j≤t→t < y.length→less (y.getD t zSy).1 s=false) →
  Zbg.l3 n m y s (y.length:Int) (i:Int) (j:Int)=some ((kS y s:Int),isSy y s,()):=by
 intro m
 induction m with
 | zero=>intro i j _ _ h; omega
 | succ m ih=>
  intro i j hij hj hm h1 h2
  rw [Zbg.l3]
  have hmid:IntKind.i64.wrap ((IntKind.u64.wrap (IntKind.i64.wrap ((i:Int)+(j:Int)))).fdiv (2 ^ (min (1:Int).toNat IntKind.u64.bits)))=(((i+j) / 2:Nat):Int):=by
   show IntKind.i64.wrap ((IntKind.u64.wrap (IntKind.i64.wrap ((i:Int)+(j:Int)))).fdiv 2)=_
   rw [w64 (x:=(i:Int)+(j:Int)) (by omega),Int.fdiv_eq_ediv_of_nonneg _ (by decide),u64_small (by omega),w64 (by omega)]
   omega
  rw [hmid]
  simp only [dt,Int.toNat_natCast,ecmp_eq,Option.bind_some]
  by_cases h:i < j
  ·rw [if_pos (by omega),if_pos (by omega)]
   generalize hq:(i+j) / 2=q
   have hc:=(cmp_less (y.getD q zSy).1 s).1
   by_cases hlt:less (y.getD q zSy).1 s=true
   ·rw [if_pos (hc.2 hlt),w64 (by omega),show (q:Int)+1=((q+1:Nat):Int) by omega]
    refine ih (q+1) j (by omega) hj (by omega) (fun t ht=>?_) h2
    by_cases e:t=q
    ·rw [e]; exact hlt
    ·exact less_trans (sorted_get hy (show t < q by omega) (by omega)) hlt
   ·rw [if_neg (fun g=>hlt (hc.1 g))]
    refine ih i q (by omega) (by omega) (by omega) h1 fun t ht htl=>?_
    have hf:less (y.getD q zSy).1 s=false:=by simpa using hlt
    by_cases e:t=q
    ·rw [e]; exact hf
    ·cases ht2:less (y.getD t zSy).1 s with
     | false=>rfl
     | true=>rw [less_trans (sorted_get hy (show q < t by omega) htl) ht2] at hf; cases hf
  ·obtain rfl:i=j:=by omega
   have hk:kS y s=i:=kS_is h1 hj (fun h=>h2 i (by omega) h)
   rw [if_neg (by omega)]
   unfold isSy
   rw [hk]
   by_cases hl2:i < y.length
   ·rw [if_pos (by omega),if_pos (by omega)]
    have:=(cmp_less (y.getD i zSy).1 s).2
    congr 3
    rw [Bool.eq_iff_iff,decide_eq_true_eq,decide_eq_true_eq,this]
    exact ⟨fun h=>⟨hl2,h⟩,fun h=>h.2⟩
   ·rw [if_neg (by omega),decide_eq_false (fun h=>hl2 h.1)]
theorem bs_eq (y:List Sym) (s:Str) (hy:sortedS y) (hl:y.length≤1000000):Zbg.g y s=some ((kS y s:Int),isSy y s,()):=by
 unfold Zbg.g Zbg.f
 exact bs_loop y s hy hl _ _ 0 y.length (by omega) (by omega) (by omega) (fun t h=>by omega) (fun t h h2=>by omega)
def insS (y:List Sym) (x:Sym):List Sym:=y.take (kS y x.1)++[x]++y.drop (kS y x.1)
theorem kS_take:∀ {y:List Sym} {s:Str},∀ a∈y.take (kS y s),less a.1 s=true
 | [],_,a,h=>by simp at h
 | x::r,s,a,h=>by
  unfold kS at h
  split at h
  ·rename_i hx
   rw [List.take_succ_cons,List.mem_cons] at h
   rcases h with rfl | h
   ·exact hx
   ·exact kS_take a h
  ·simp at h
theorem kS_drop {y:List Sym} {s:Str} (hy:sortedS y) (hs:isSy y s=false):∀ a∈y.drop (kS y s),less s a.1=true:=by
 intro a ha
 obtain ⟨j,hj,rfl⟩:=List.getElem_of_mem ha
 rw [List.length_drop] at hj
 rw [List.getElem_drop]
 have hk:kS y s < y.length:=by omega
 unfold isSy at hs
 rw [decide_eq_false_iff_not] at hs
 have hne:(y.getD (kS y s) zSy).1≠s:=fun e=>hs ⟨hk,e⟩
 have hnl:less (y.getD (kS y s) zSy).1 s=false:=by
  have gen:∀ (y:List Sym),kS y s < y.length→less (y.getD (kS y s) zSy).1 s=false:=by
   intro y
   induction y with
   | nil=>intro h; simp at h
   | cons x r ih=>
    intro h
    unfold kS at h ⊢
    split
    ·rename_i hx
     rw [if_pos hx] at h
     simpa using ih (by simpa using h)
    ·rename_i hx; simpa using hx
  exact gen y hk
 have h0:=less_total hnl hne
 by_cases e:j=0
 ·subst e
  rw [List.getD_eq_getElem?_getD,List.getElem?_eq_getElem hk] at h0
  exact h0
 ·have:=sorted_get hy (show kS y s < kS y s+j by omega) (by omega)
  have:=less_trans h0 this
  rw [List.getD_eq_getElem?_getD,List.getElem?_eq_getElem (show kS y s+j < y.length by omega)] at this
  exact this
theorem ins_sorted {y:List Sym} {x:Sym} (hy:sortedS y) (hs:isSy y x.1=false):sortedS (insS y x):=by
 unfold sortedS insS
 rw [List.pairwise_append]
 have h1:(y.take (kS y x.1)).Pairwise fun a b=>less a.1 b.1=true:=hy.sublist (List.take_sublist _ _)
 have h2:(y.drop (kS y x.1)).Pairwise fun a b=>less a.1 b.1=true:=hy.sublist (List.drop_sublist _ _)
 refine ⟨?_,h2,?_⟩
 ·rw [List.pairwise_append]
  exact ⟨h1,List.pairwise_singleton _ _,fun a ha b hb=>by rw [List.mem_singleton.1 hb]; exact kS_take a ha⟩
 ·intro a ha b hb
  have hxb:=kS_drop hy hs b hb
  rcases List.mem_append.1 ha with h | h
  ·exact less_trans (kS_take a h) hxb
  ·rw [List.mem_singleton.1 h]; exact hxb
theorem ins_len (y:List Sym) (x:Sym):(insS y x).length=y.length+1:=by
 have:=kS_le y x.1
 unfold insS
 simp only [List.length_append,List.length_take,List.length_drop,List.length_singleton]
 omega
end Rv
namespace Rv
open Go
abbrev eL (x:Ln):List Item:=x.2.1.2.2.2.2.2.2.1
end Rv
namespace Rv
open Go
def isA (b:UInt8):Bool:=decide (65≤b.toNat∧b.toNat≤90∨97≤b.toNat∧b.toNat≤122)
theorem isA_L (b:UInt8):isL b=(isA b || decide (b.toNat=95)):=by
 unfold isL isA
 rw [Bool.eq_iff_iff]
 simp only [decide_eq_true_eq,Bool.or_eq_true]
 omega
def nameOk (s:Str):Bool:=decide (s≠[]) && decide (s.length≤12) && isA (s.getD 0 0) && !regLike s && s.all isW
end Rv
namespace Rv
open Go
end Rv
namespace Rv
open Go
end Rv
namespace Rv
open Go
end Rv
namespace Rv
open Go
end Rv
namespace Rv
open Go
end Rv
namespace Rv
open Go
end Rv
namespace Rv
open Go
end Rv
namespace Rv
open Go
end Rv
namespace Rv
open Go
theorem lsize_eq (x:Ln):Zce.g x.2.1.1 x.2.1.2.1 x.2.1.2.2.1 x.2.1.2.2.2.1 x.2.1.2.2.2.2.1 x.2.1.2.2.2.2.2.1 x.2.1.2.2.2.2.2.2.1 x.2.1.2.2.2.2.2.2.2.1=some ((sizeN x:Int),()):=by
 unfold Zce.g Zce.f sizeN
 simp only [dt]
 by_cases h0:x.2.1.1=0
 ·rw [if_pos h0,if_pos h0,if_pos (.inl h0)]; rfl
 ·rw [if_neg h0]
  by_cases h1:x.2.1.1=10
  ·rw [if_pos h1,if_pos (.inr h1)]; rfl
  ·rw [if_neg h1,if_neg (by rintro (h | h) <;> contradiction)]; rfl
theorem val_is (x:Val) (a b:Int):(decide (x.1=a) && (decide (x.2.1=b) && true))=decide (x=(a,b,())):=by
 obtain ⟨x1,x2,_⟩:=x
 simp only [Bool.and_true]
 by_cases h1:x1=a <;> by_cases h2:x2=b <;> simp [h1,h2]
theorem pool_loop (p:List Val) (a b:Int) (hp:p.length≤1000000) (n:Nat):∀ (m i:Nat),i≤p.length→p.length - i < m →
  Zba.l2 n m p p (p.length:Int) (i:Int) a b=some (if (a,b,())∈p.drop i then p else p++[(a,b,())],((i+posR (a,b,()) (p.drop i):Nat):Int),()):=by
 intro m
 induction m with
 | zero=>intro i _ h; omega
 | succ m ih=>
  intro i hi hm
  rw [Zba.l2]
  simp only [val_is,dt,Int.toNat_natCast]
  by_cases h:i < p.length
  ·have hd:p.drop i=p.getD i ((0:Int),((0:Int),()))::p.drop (i+1):=by
    rw [List.drop_eq_getElem_cons h,List.getD_eq_getElem?_getD,List.getElem?_eq_getElem h]; rfl
   rw [if_pos (by omega),if_pos (by omega),hd]
   generalize p.getD i ((0:Int),((0:Int),()))=x
   unfold posR
   by_cases hx:x=(a,b,())
   ·rw [if_pos hx,if_pos (by rw [hx]; simp),if_pos hx]; simp
   ·rw [if_neg hx,if_neg hx,w64 (by omega),show (i:Int)+1=((i+1:Nat):Int) by omega,ih (i+1) (by omega) (by omega)]
    have e:((a,b,())∈x::p.drop (i+1))=((a,b,())∈p.drop (i+1)):=by
     apply propext; rw [List.mem_cons]
     exact ⟨fun h=>h.resolve_left fun e=>hx e.symm,.inr⟩
    simp only [e]
    rw [show i+1+posR (a,b,()) (p.drop (i+1))=i+(posR (a,b,()) (p.drop (i+1))+1) by omega]
  ·obtain rfl:i=p.length:=by omega
   rw [if_neg (by omega),List.drop_length]
   unfold Zct.g Zct.f
   rw [if_pos ⟨rfl,rfl,rfl⟩,Option.bind_some]
   dsimp only
   rw [if_pos (by simp),if_pos (by simp; omega),if_neg (by simp)]
   rfl
theorem pool_eq (p:List Val) (a b:Int) (hp:p.length≤1000000):Zba.g p a b=some (addR p (a,b,()),(posR (a,b,()) p:Int),()):=by
 unfold Zba.g Zba.f
 have:=pool_loop p a b hp (1000+p.length+a.toNat+b.toNat) (1000+p.length+a.toNat+b.toNat) 0 (by omega) (by omega)
 rw [List.drop_zero,Nat.zero_add] at this
 exact this
theorem wrap_from {c k:Nat} (hc:c≤1000000) (hk:k≤1):IntKind.i64.wrap (((4 * c:Nat):Int)+IntKind.i64.wrap (4 * (k:Int)))=((4 * (c+k):Nat):Int):=by
 rw [w64 (x:=4 * (k:Int)) (by omega),w64 (by omega)]; omega
theorem plan1_eq (x:Ln) (t:List Int) (lb:List Sym) (q:List Val) (c:Nat) (s:Int) (ht:t.length≤1000000) (hlb:lb.length≤1000000) (hc:c≤1000000) :
  Zbn.g x.1 x.2.1.1 x.2.1.2.1 x.2.1.2.2.1 x.2.1.2.2.2.1 x.2.1.2.2.2.2.1 x.2.1.2.2.2.2.2.1 x.2.1.2.2.2.2.2.2.1 x.2.1.2.2.2.2.2.2.2.1 t lb q ((4 * c:Nat):Int) s =
   some (if x.1=[] then (0,t++[((4 * c:Nat):Int)],lb,q,((4 * (c+sizeN x):Nat):Int),s,()) else if (findR x.1 lb).isSome=true then (26,t++[((4 * c:Nat):Int)],lb,q,((4 * c:Nat):Int),s,())
    else (0,t++[((4 * c:Nat):Int)],lb++[(x.1,((4 * c:Nat):Int),())],q,((4 * (c+sizeN x):Nat):Int),s,())):=by
 unfold Zbn.g
 generalize 1000+_+_+_+_+_+_+_+_+_+_+_+_+_=n
 unfold Zbn.f Zbn.j7
 rw [if_pos (by simp; omega),find_eq lb x.1 (by omega),Option.bind_some,lsize_eq,Option.bind_some]
 dsimp only
 rw [wrap_from hc (sizeN_le x)]
 simp only [Bool.not_eq_true',decide_eq_false_iff_not]
 by_cases h:x.1=[]
 ·rw [if_neg (by simpa using h),if_pos h,Option.bind_some]
  dsimp only
  rw [wrap_from hc (sizeN_le x)]
 ·rw [if_pos h,if_neg h]
  by_cases h2:(findR x.1 lb).isSome=true
  ·rw [if_pos h2,if_pos h2]
  ·rw [if_neg h2,if_neg h2,if_pos (by simp; omega)]
theorem drop_ln {a:List Ln} {i:Nat} (h:i < a.length):a.drop i=a.getD i zL::a.drop (i+1):=by
 rw [List.drop_eq_getElem_cons h,List.getD_eq_getElem?_getD,List.getElem?_eq_getElem h]; rfl
theorem getD_ln {a:List Ln} {i:Nat} (h:i < a.length):a.getD i zL∈a:=by
 rw [List.getD_eq_getElem?_getD,List.getElem?_eq_getElem h]; exact List.getElem_mem h
theorem first44 (a:List Ln) (ha:a.length≤1000000) (n:Nat) (q:List Val) (s:Int):∀ (m i:Nat) (t:List Int) (lb:List Sym) (c:Nat),i≤a.length→a.length - i < m→t.length≤i→lb.length≤i→c≤i →
  ∃ r,Zbp.l2 n m a (a.length:Int) (i:Int) t lb q ((4 * c:Nat):Int) s=some r∧(∀ x,placeR (a.drop i) i t lb c=.error x→r.1=(x.1:Int)∧r.2.1=x.2∧x.2≠0) ∧
   (∀ y,placeR (a.drop i) i t lb c=.ok y→r=(0,0,y.1,y.2.1,q,((4 * y.2.2:Nat):Int),s,())):=by
 intro m
 induction m with
 | zero=>intro i _ _ _ _ h; omega
 | succ m ih=>
  intro i t lb c hi hm ht hlb hc
  rw [Zbp.l2]
  simp only [dt,Int.toNat_natCast]
  by_cases h:i < a.length
  ·rw [if_pos (by omega),if_pos (by omega),plan1_eq _ t lb q c s (by omega) (by omega) (by omega),Option.bind_some,drop_ln h]
   have hs:=sizeN_le (a.getD i zL)
   generalize a.getD i zL=x at hs
   have W:IntKind.i64.wrap ((i:Int)+1)=((i+1:Nat):Int):=by rw [w64 (by omega)]; omega
   rw [placeR,W]
   by_cases h1:x.1=[]
   ·rw [if_pos h1,if_pos h1]
    simp only [ne_eq,not_true_eq_false,↓reduceIte]
    exact ih (i+1) _ _ _ (by omega) (by omega) (by simp; omega) (by omega) (by omega)
   ·rw [if_neg h1,if_neg h1]
    by_cases h2:(findR x.1 lb).isSome=true
    ·rw [if_pos h2,if_pos h2]
     dsimp only
     rw [if_pos (by decide)]
     exact ⟨_,rfl,fun y hy=>by cases hy; exact ⟨rfl,rfl,(by decide:(26:Int)≠0)⟩,fun y hy=>by cases hy⟩
    ·rw [if_neg h2,if_neg h2]
     simp only [ne_eq,not_true_eq_false,↓reduceIte]
     exact ih (i+1) _ _ _ (by omega) (by omega) (by simp; omega) (by simp; omega) (by omega)
  ·obtain rfl:i=a.length:=by omega
   rw [if_neg (by omega),List.drop_length]
   exact ⟨_,rfl,fun x hx=>by (rw [placeR] at hx; cases hx),fun y hy=>by (rw [placeR] at hy; cases hy; rfl)⟩
theorem plan2_eq (x:Ln) (t:List Int) (lb:List Sym) (q:List Val) (f s:Int) (hlb:lb.length≤1000000) (hq:q.length≤1000000) (he:(eL x).length≤4611686018427387904) :
  Zcf.g x.1 x.2.1.1 x.2.1.2.1 x.2.1.2.2.1 x.2.1.2.2.2.1 x.2.1.2.2.2.2.1 x.2.1.2.2.2.2.2.1 x.2.1.2.2.2.2.2.2.1 x.2.1.2.2.2.2.2.2.2.1 t lb q f s =
   some (if x.2.1.1=8 then (if (vOf lb (eL x)).2.2.1≠0 then ((vOf lb (eL x)).2.2.1,t,lb,q,f,s,()) else if (vOf lb (eL x)).2.1 < 0∨1 < (vOf lb (eL x)).2.1 then (27,t,lb,q,f,s,())
    else (0,t,lb,addR q ((vOf lb (eL x)).1,(vOf lb (eL x)).2.1,()),f,s,())) else (0,t,lb,q,f,s,())):=by
 unfold Zcf.g
 generalize 1000+_+_+_+_+_+_+_+_+_+_+_+_+_=n
 unfold Zcf.f
 rw [of_eq lb (by omega) _ he,ofR_vOf,Option.bind_some]
 simp only [dt,df]
 by_cases h8:x.2.1.1=8
 ·rw [if_neg (by simpa using h8),if_pos h8]
  show (if (vOf lb (eL x)).2.2.1≠0 then _ else _)=_
  by_cases h1:(vOf lb (eL x)).2.2.1≠0
  ·rw [if_pos h1,if_pos h1]
  ·rw [if_neg h1,if_neg h1,pool_eq q _ _ hq,Option.bind_some]
   by_cases h2:(vOf lb (eL x)).2.1 < 0
   ·rw [if_neg (by simpa using h2),if_pos (.inl h2)]
   ·rw [if_pos h2]
    by_cases h3:1 < (vOf lb (eL x)).2.1
    ·rw [if_pos h3,if_pos (.inr h3)]
    ·rw [if_neg h3,if_neg (by rintro (h | h) <;> contradiction)]
 ·rw [if_pos h8,if_neg h8]
theorem first45 (a:List Ln) (ha:a.length≤1000000) (he:∀ x∈a,(eL x).length≤4611686018427387904) (n:Nat) (t:List Int) (lb:List Sym) (hlb:lb.length≤1000000) (f s:Int):∀ (m i:Nat) (q:List Val),i≤a.length→a.length - i < m→q.length≤i →
  ∃ r,Zbq.l2 n m a (a.length:Int) (i:Int) t lb q f s=some r∧(∀ x,loadR lb (a.drop i) i q=.error x→r.1=(x.1:Int)∧r.2.1=x.2∧x.2≠0) ∧
   (∀ y,loadR lb (a.drop i) i q=.ok y→r=(0,0,t,lb,y,f,s,())):=by
 intro m
 induction m with
 | zero=>intro i _ _ h; omega
 | succ m ih=>
  intro i q hi hm hq
  rw [Zbq.l2]
  simp only [dt,Int.toNat_natCast]
  by_cases h:i < a.length
  ·rw [if_pos (by omega),if_pos (by omega),plan2_eq _ t lb q f s hlb (by omega) (he _ (getD_ln h)),Option.bind_some,drop_ln h]
   generalize a.getD i zL=x
   have W:IntKind.i64.wrap ((i:Int)+1)=((i+1:Nat):Int):=by rw [w64 (by omega)]; omega
   rw [loadR,W]
   by_cases h8:x.2.1.1=8
   ·rw [if_pos h8,if_pos h8]
    show ∃ r,_∧(∀ y,(if (vOf lb (eL x)).2.2.1≠0 then _ else _)=_→_)∧_
    by_cases h1:(vOf lb (eL x)).2.2.1≠0
    ·rw [if_pos h1]
     dsimp only
     rw [if_pos h1]
     refine ⟨_,rfl,fun y hy=>?_,fun y hy=>?_⟩
     ·rw [if_pos h1] at hy; cases hy; exact ⟨rfl,rfl,h1⟩
     ·rw [if_pos h1] at hy; cases hy
    ·rw [if_neg h1]
     by_cases h2:(vOf lb (eL x)).2.1 < 0∨1 < (vOf lb (eL x)).2.1
     ·rw [if_pos h2]
      dsimp only
      rw [if_pos (by decide)]
      refine ⟨_,rfl,fun y hy=>?_,fun y hy=>?_⟩
      ·rw [if_neg h1,if_pos h2] at hy; cases hy; exact ⟨rfl,rfl,(by decide:(27:Int)≠0)⟩
      ·rw [if_neg h1,if_pos h2] at hy; cases hy
     ·rw [if_neg h2]
      simp only [ne_eq,not_true_eq_false,↓reduceIte]
      have hl:=addR_len q ((vOf lb (eL x)).1,(vOf lb (eL x)).2.1,())
      obtain ⟨r,hr,g1,g2⟩:=ih (i+1) (addR q ((vOf lb (eL x)).1,(vOf lb (eL x)).2.1,())) (by omega) (by omega) (by omega)
      refine ⟨r,hr,fun y hy=>g1 y ?_,fun y hy=>g2 y ?_⟩
      ·rw [if_neg h1,if_neg h2] at hy; exact hy
      ·rw [if_neg h1,if_neg h2] at hy; exact hy
   ·rw [if_neg h8,if_neg h8]
    simp only [ne_eq,not_true_eq_false,↓reduceIte]
    exact ih (i+1) q (by omega) (by omega) (by omega)
  ·obtain rfl:i=a.length:=by omega
   rw [if_neg (by omega),List.drop_length]
   exact ⟨_,rfl,fun x hx=>by (rw [loadR] at hx; cases hx),fun y hy=>by (rw [loadR] at hy; cases hy; rfl)⟩
theorem plan_words {c k:Nat} (hc:c≤1000000) (hk:k≤1000000):IntKind.i64.wrap (IntKind.i64.wrap (Int.tdiv ((4 * c:Nat):Int) 4)+(k:Int))=((c+k:Nat):Int):=by
 have:Int.tdiv ((4 * c:Nat):Int) 4=(c:Int):=by
  rw [Int.tdiv_eq_ediv_of_nonneg (by omega)]; omega
 rw [this,w64 (x:=(c:Int)) (by omega),w64 (by omega)]; omega
theorem plan_eq (a:List Ln) (ha:a.length≤1000000) (he:∀ x∈a,(eL x).length≤4611686018427387904):Zaq.g a=some (planR a):=by
 have key:∀ n m,3≤m→Zaq.l4 n m a 2 0 [] [] [] 0 0=some (planR a):=by
  intro n m hm
  obtain ⟨k,rfl⟩:∃ k,m=k+3:=⟨m - 3,by omega⟩
  obtain ⟨r,hr,g1,g2⟩:=first44 a ha (1000+a.length+([]:List Int).length+([]:List Sym).length+([]:List Val).length+(0:Int).toNat+(0:Int).toNat) [] 0 (1000+a.length+([]:List Int).length+([]:List Sym).length+([]:List Val).length+(0:Int).toNat+(0:Int).toNat) 0 [] [] 0 (by omega) (by omega) (by simp) (by simp) (by omega)
  rw [List.drop_zero] at g1 g2
  have hr':Zbp.g a [] [] [] 0 0=some r:=hr
  rw [Zaq.l4,if_pos (by decide),if_pos rfl,hr',Option.bind_some,Zaq.j7]
  unfold planR plFin
  cases hp:placeR a 0 [] [] 0 with
  | error x=>
   obtain ⟨e1,e2,e3⟩:=g1 x hp
   rw [e1,e2]
   simp only [dt]
   rw [if_pos e3]; rfl
  | ok y=>
   obtain rfl:=g2 y hp
   simp only [ne_eq,not_true_eq_false,decide_false,Bool.false_eq_true,↓reduceIte]
   have hl:=placeR_len _ _ _ _ _ hp
   simp only [List.length_nil,Nat.zero_add] at hl
   rw [show IntKind.i64.wrap ((0:Int)+1)=1 from rfl,Zaq.l4,if_pos (by decide),if_neg (by decide),if_pos rfl]
   obtain ⟨r2,hr2,k1,k2⟩:=first45 a ha he (1000+a.length+y.1.length+y.2.1.length+([]:List Val).length+(((4 * y.2.2:Nat):Int)).toNat+(0:Int).toNat) y.1 y.2.1 (by omega) ((4 * y.2.2:Nat):Int) 0 (1000+a.length+y.1.length+y.2.1.length+([]:List Val).length+(((4 * y.2.2:Nat):Int)).toNat+(0:Int).toNat) 0 [] (by omega) (by omega) (by simp)
   rw [List.drop_zero] at k1 k2
   have hr2':Zbq.g a y.1 y.2.1 [] ((4 * y.2.2:Nat):Int) 0=some r2:=hr2
   rw [hr2',Option.bind_some,Zaq.j7]
   cases hq:loadR y.2.1 a 0 [] with
   | error x=>
    obtain ⟨e1,e2,e3⟩:=k1 x hq
    rw [e1,e2]
    simp only [dt]
    rw [if_pos e3]; rfl
   | ok z=>
    obtain rfl:=k2 z hq
    have hz:=loadR_len _ _ _ _ hq
    simp only [List.length_nil,Nat.zero_add] at hz
    simp only [ne_eq,not_true_eq_false,decide_false,Bool.false_eq_true,↓reduceIte]
    rw [show IntKind.i64.wrap ((1:Int)+1)=2 from rfl,Zaq.l4,if_neg (by decide),plan_words (by omega) (by omega)]
    simp only [dt]
    unfold plEnd
    by_cases hw:1024 < y.2.2+z.length
    ·rw [if_pos (by omega)]; dsimp only; rw [if_pos hw]; rfl
    ·rw [if_neg (by omega)]; dsimp only; rw [if_neg hw]
 exact key _ _ (by omega)
end Rv
namespace Rv
open Go
def numR (a b low high:Int):Int×Int×Unit:=if low≤a∧a≤high then (a,0,()) else if low≤b∧b≤high then (b,0,()) else (0,28,())
theorem num_loop (n m:Nat) (a b low high:Int):Zag.l7 n (m+3) low high a b 0=some (numR a b low high):=by
 have e2:Zag.l7 n (m+1) low high a b 2=some (0,28,()):=by
  simp only [Zag.l7,dt]
  rw [if_neg (by decide)]
 have e1:Zag.l7 n (m+2) low high a b 1=some (if low≤b∧b≤high then (b,0,()) else (0,28,())):=by
  rw [Zag.l7]
  simp only [dt,Zag.j11]
  rw [if_pos (by decide),if_pos (by decide),show ([a,b].getD (1:Int).toNat 0)=b from rfl,show IntKind.i64.wrap (1+1)=2 by decide,e2]
  by_cases h1:low≤b
  ·by_cases h2:b≤high
   ·rw [if_pos h1,if_pos h2,if_pos ⟨h1,h2⟩]
   ·rw [if_pos h1,if_neg h2,if_neg (fun h=>h2 h.2)]
  ·rw [if_neg h1,if_neg (fun h=>h1 h.1)]
 rw [Zag.l7]
 simp only [dt,Zag.j11]
 rw [if_pos (by decide),if_pos (by decide),show ([a,b].getD (0:Int).toNat 0)=a from rfl,show IntKind.i64.wrap (0+1)=1 by decide,e1]
 unfold numR
 by_cases h1:low≤a
 ·by_cases h2:a≤high
  ·rw [if_pos h1,if_pos h2,if_pos ⟨h1,h2⟩]
  ·rw [if_pos h1,if_neg h2,if_neg (show ¬ (low≤a∧a≤high) from fun h=>h2 h.2)]
 ·rw [if_neg h1,if_neg (show ¬ (low≤a∧a≤high) from fun h=>h1 h.1)]
theorem vnumber_eq (e:List Item) (labels:List Sym) (low high v1 v2 x:Int) (h:Zad.g e labels=some (v1,v2,x,())) :
  Zag.g e labels low high=some (if x≠0 then (0,x,()) else if v2≠0 then (0,27,()) else numR (IntKind.i64.wrap (IntKind.i32.wrap v1)) (IntKind.i64.wrap v1) low high):=by
 unfold Zag.g Zag.f
 rw [h,Option.bind_some]
 simp only [dt]
 have z:¬ ((0:Int)≠0):=by decide
 by_cases h1:x=0
 ·subst h1
  rw [if_neg z,if_neg z]
  by_cases h2:v2=0
  ·subst h2
   rw [if_neg z,if_neg z]
   have:∀ k,3≤k→Zag.l7 k k low high (IntKind.i64.wrap (IntKind.i32.wrap v1)) (IntKind.i64.wrap v1) 0=some (numR (IntKind.i64.wrap (IntKind.i32.wrap v1)) (IntKind.i64.wrap v1) low high):=fun k hk=>by
    obtain ⟨m,rfl⟩:∃ m,k=m+3:=⟨k - 3,by omega⟩
    exact num_loop _ m _ _ _ _
   exact this _ (by omega)
  ·rw [if_pos (show v2≠0 from h2),if_pos (show v2≠0 from h2)]
 ·rw [if_pos (show x≠0 from h1),if_pos (show x≠0 from h1)]
end Rv
namespace Rv
open Go
abbrev W32:=BitVec 32
theorem ofI (W:W32):BitVec.ofInt 32 (W.toNat:Int)=W:=by simp
theorem wr32 (x:Int):IntKind.u32.wrap x=((BitVec.ofInt 32 x).toNat:Int):=by
 rw [IntKind.wrap_u32,BitVec.toNat_ofInt]
 omega
theorem w32n (W:W32):IntKind.u32.wrap (W.toNat:Int)=(W.toNat:Int):=by rw [wr32,ofI]
theorem or32 (A B:W32):bitsI .or .u32 (A.toNat:Int) (B.toNat:Int)=((A ||| B).toNat:Int):=by
 show IntKind.u32.wrap (((BitVec.ofInt 32 (A.toNat:Int) ||| BitVec.ofInt 32 (B.toNat:Int)).toNat:Nat):Int)=_
 rw [ofI,ofI,w32n]
theorem and32 (A B:W32):bitsI .and .u32 (A.toNat:Int) (B.toNat:Int)=((A &&& B).toNat:Int):=by
 show IntKind.u32.wrap (((BitVec.ofInt 32 (A.toNat:Int) &&& BitVec.ofInt 32 (B.toNat:Int)).toNat:Nat):Int)=_
 rw [ofI,ofI,w32n]
theorem andNot32 (A B:W32):bitsI .andNot .u32 (A.toNat:Int) (B.toNat:Int)=((A &&& ~~~B).toNat:Int):=by
 show IntKind.u32.wrap (((BitVec.ofInt 32 (A.toNat:Int) &&& ~~~BitVec.ofInt 32 (B.toNat:Int)).toNat:Nat):Int)=_
 rw [ofI,ofI,w32n]
theorem shl32 (A:W32) (b:Nat) (hb:b≤32):IntKind.u32.wrap ((A.toNat:Int) * 2 ^ (min ((b:Int)).toNat IntKind.u32.bits))=((A <<< b).toNat:Int):=by
 have e:min ((b:Int)).toNat IntKind.u32.bits=b:=by show min ((b:Int)).toNat 32=b; omega
 rw [e,IntKind.wrap_u32,BitVec.toNat_shiftLeft,Nat.shiftLeft_eq]
 have:(A.toNat:Int) * 2 ^ b=((A.toNat * 2 ^ b:Nat):Int):=by rw [Int.natCast_mul,Int.natCast_pow]; rfl
 rw [this]
 generalize A.toNat * 2 ^ b=q
 omega
theorem shr32 (A:W32) (b:Nat) (hb:b≤32):(A.toNat:Int).fdiv (2 ^ (min ((b:Int)).toNat IntKind.u32.bits))=((A >>> b).toNat:Int):=by
 have e:min ((b:Int)).toNat IntKind.u32.bits=b:=by show min ((b:Int)).toNat 32=b; omega
 rw [e,BitVec.toNat_ushiftRight,Nat.shiftRight_eq_div_pow,Int.fdiv_eq_ediv_of_nonneg _ (Int.le_of_lt (Int.pow_pos (by decide))),Int.natCast_ediv,Int.natCast_pow]
 rfl
def setStep (W X:W32) (b p:Nat):W32:=(W &&& ~~~(1#32 <<< b)) ||| (((X >>> p) &&& 1#32) <<< b)
def setV (W X:W32) (a:Nat):Nat→W32
 | 0=>W
 | k+1=>setStep (setV W X a k) X (a+k) k
def getV (W:W32) (a:Nat):Nat→W32
 | 0=>0
 | k+1=>getV W a k ||| (((W >>> (a+k)) &&& 1#32) <<< k)
theorem one_bit (j:Nat):(1#32).getLsbD j=decide (j=0):=by
 rw [BitVec.getLsbD_one]; simp
theorem setStep_bit (W X:W32) {b p:Nat} (hb:b < 32) {j:Nat} (hj:j < 32):(setStep W X b p).getLsbD j=if j=b then X.getLsbD p else W.getLsbD j:=by
 unfold setStep
 rw [BitVec.getLsbD_or,BitVec.getLsbD_and,BitVec.getLsbD_not,BitVec.getLsbD_shiftLeft,BitVec.getLsbD_shiftLeft,BitVec.getLsbD_and,BitVec.getLsbD_ushiftRight,one_bit]
 by_cases h:j=b
 ·subst h
  simp [hj]
 ·rw [if_neg h]
  by_cases h2:j < b
  ·simp [hj,h2]
  ·have:¬ j - b=0:=by omega
   simp [hj,this]
theorem setV_bit (W X:W32) {a:Nat}:∀ {n:Nat},a+n≤32→∀ {j:Nat},j < 32→(setV W X a n).getLsbD j=if a≤j∧j < a+n then X.getLsbD (j - a) else W.getLsbD j
 | 0,_,j,_=>by rw [if_neg (by omega)]; rfl
 | n+1,h,j,hj=>by
  rw [setV,setStep_bit _ _ (by omega) hj]
  by_cases e:j=a+n
  ·rw [if_pos e,if_pos (by omega),e,Nat.add_sub_cancel_left]
  ·rw [if_neg e,setV_bit W X (by omega) hj]
   by_cases e2:a≤j∧j < a+n
   ·rw [if_pos e2,if_pos (by omega)]
   ·rw [if_neg e2,if_neg (by omega)]
theorem getV_bit (W:W32) {a:Nat}:∀ {n:Nat},n≤32→∀ {j:Nat},j < 32→(getV W a n).getLsbD j=(decide (j < n) && W.getLsbD (a+j))
 | 0,_,j,_=>by simp [getV]
 | n+1,h,j,hj=>by
  rw [getV,BitVec.getLsbD_or,getV_bit W (by omega) hj,BitVec.getLsbD_shiftLeft,BitVec.getLsbD_and,BitVec.getLsbD_ushiftRight,one_bit]
  by_cases e:j=n
  ·subst e
   simp [hj]
  ·by_cases e2:j < n
   ·simp [e2]; omega
   ·have h1:¬ j - n=0:=by omega
    have h2:¬ j < n+1:=by omega
    simp [e2,h1,h2]
theorem bits_eq {A B:W32} (h:∀ j,j < 32→A.getLsbD j=B.getLsbD j):A=B:=BitVec.eq_of_getLsbD_eq fun j hj=>h j hj
theorem get_in (W X:W32) {a n b m:Nat} (h:a+n≤32) (h1:a≤b) (h2:b+m≤a+n):getV (setV W X a n) b m=getV X (b - a) m:=bits_eq fun j hj=>by
 rw [getV_bit _ (by omega) hj,getV_bit _ (by omega) hj]
 by_cases e:j < m
 ·rw [setV_bit _ _ h (by omega),if_pos (by omega),show b+j - a=b - a+j by omega]
 ·simp [e]
theorem get_out (W X:W32) {a n b m:Nat} (h:a+n≤32) (hb:b+m≤32) (h1:b+m≤a∨a+n≤b):getV (setV W X a n) b m=getV W b m:=bits_eq fun j hj=>by
 rw [getV_bit _ (by omega) hj,getV_bit _ (by omega) hj]
 by_cases e:j < m
 ·rw [setV_bit _ _ h (by omega),if_neg (by omega)]
 ·simp [e]
theorem get_zero (b m:Nat) (hm:m≤32):getV 0 b m=0:=bits_eq fun j hj=>by
 rw [getV_bit _ hm hj]; simp
theorem get_all {X:W32} {n:Nat} (hn:n≤32) (hx:X.toNat < 2 ^ n):getV X 0 n=X:=bits_eq fun j hj=>by
 rw [getV_bit _ hn hj,Nat.zero_add]
 by_cases e:j < n
 ·simp [e]
 ·have:X.getLsbD j=false:=by
   show X.toNat.testBit j=false
   exact Nat.testBit_lt_two_pow (Nat.lt_of_lt_of_le hx (Nat.pow_le_pow_right (by decide) (by omega)))
  simp [e,this]
theorem get_lt (W:W32) (a:Nat) {n:Nat} (hn:n≤32):(getV W a n).toNat < 2 ^ n:=by
 refine Nat.lt_pow_two_of_testBit _ fun j hj=>?_
 by_cases h:j < 32
 ·have:=getV_bit W (a:=a) hn h
  show (getV W a n).getLsbD j=false
  rw [this]; simp; omega
 ·exact BitVec.getLsbD_of_ge _ _ (by omega)
theorem set1_eq (W X:W32) {b p:Nat} (hb:b < 32) (hp:p < 32):Zca.g (b:Int) (p:Int) (W.toNat:Int) (X.toNat:Int)=some (((setStep W X b p).toNat:Int),(X.toNat:Int),()):=by
 unfold Zca.g Zca.f
 have e1:(1:Int)=((1#32).toNat:Int):=rfl
 rw [if_neg (by omega),if_neg (by omega),if_neg (by omega),shr32 X p (by omega),e1,shl32 (1#32) b (by omega),and32,shl32 _ b (by omega),andNot32,or32]
 rfl
theorem each_set (n:Nat) (X W:W32) {a c:Nat} (hc:1≤c) (h:a+c≤32):∀ (m k:Nat),k≤c→c - k < m→Zbl.l2 n m (a:Int) (c:Int) ((a+k:Nat):Int) ((setV W X a k).toNat:Int) (X.toNat:Int)=some (((setV W X a c).toNat:Int),(X.toNat:Int),()):=by
 intro m
 induction m with
 | zero=>intro k _ hm; omega
 | succ m ih=>
  intro k hk hm
  rw [Zbl.l2]
  simp only [dt]
  by_cases e:k=c
  ·subst e
   by_cases e2:a+k < 32
   ·rw [if_pos (by omega),if_neg (by rw [w64 (by omega)]; omega)]
   ·rw [if_neg (by omega)]
  ·rw [if_pos (by omega),w64 (by omega),if_pos (by omega),show ((a+k:Nat):Int) - (a:Int)=(k:Int) by omega,set1_eq _ X (by omega) (by omega),Option.bind_some]
   dsimp only
   rw [w64 (by omega),show ((a+k:Nat):Int)+1=((a+(k+1):Nat):Int) by omega]
   exact ih (k+1) (by omega) (by omega)
theorem set_eq (W X:W32) {a c:Nat} (hc:1≤c) (h:a+c≤32):Zcb.g (W.toNat:Int) (a:Int) (c:Int) (X.toNat:Int)=some (((setV W X a c).toNat:Int),()):=by
 unfold Zcb.g Zcb.f Zbl.g Zbl.f
 simp only [dt,df]
 rw [if_pos (by omega),if_pos (by omega),w64 (by omega),if_neg (by omega)]
 have hmx:mx (a:Int) 0=((a+0:Nat):Int):=by unfold mx; split <;> omega
 rw [hmx]
 have:=each_set (1000+((a:Int)).toNat+((c:Int)).toNat+((W.toNat:Int)).toNat+((X.toNat:Int)).toNat) X W hc h (1000+((a:Int)).toNat+((c:Int)).toNat+((W.toNat:Int)).toNat+((X.toNat:Int)).toNat) 0 (by omega) (by omega)
 rw [show setV W X a 0=W from rfl] at this
 rw [this,Option.bind_some]
theorem get1_eq (O W:W32) {b p:Nat} (hb:b < 32) (hp:p < 32):Zcc.g (b:Int) (p:Int) (O.toNat:Int) (W.toNat:Int)=some (((O ||| (((W >>> b) &&& 1#32) <<< p)).toNat:Int),(W.toNat:Int),()):=by
 unfold Zcc.g Zcc.f
 have e1:(1:Int)=((1#32).toNat:Int):=rfl
 rw [if_neg (by omega),if_neg (by omega),shr32 W b (by omega),e1,and32,shl32 _ p (by omega),or32]
theorem each_get (n:Nat) (W:W32) {a c:Nat} (hc:1≤c) (h:a+c≤32):∀ (m k:Nat),k≤c→c - k < m→Zbm.l2 n m (a:Int) (c:Int) ((a+k:Nat):Int) ((getV W a k).toNat:Int) (W.toNat:Int)=some (((getV W a c).toNat:Int),(W.toNat:Int),()):=by
 intro m
 induction m with
 | zero=>intro k _ hm; omega
 | succ m ih=>
  intro k hk hm
  rw [Zbm.l2]
  simp only [dt]
  by_cases e:k=c
  ·subst e
   by_cases e2:a+k < 32
   ·rw [if_pos (by omega),if_neg (by rw [w64 (by omega)]; omega)]
   ·rw [if_neg (by omega)]
  ·rw [if_pos (by omega),w64 (by omega),if_pos (by omega),show ((a+k:Nat):Int) - (a:Int)=(k:Int) by omega,get1_eq _ W (by omega) (by omega),Option.bind_some]
   dsimp only
   rw [w64 (by omega),show ((a+k:Nat):Int)+1=((a+(k+1):Nat):Int) by omega]
   exact ih (k+1) (by omega) (by omega)
theorem get_eq (W:W32) {a c:Nat} (hc:1≤c) (h:a+c≤32):Zcd.g (W.toNat:Int) (a:Int) (c:Int)=some (((getV W a c).toNat:Int),()):=by
 unfold Zcd.g Zcd.f Zbm.g Zbm.f
 simp only [dt,df]
 rw [if_pos (by omega),if_pos (by omega),w64 (by omega),if_neg (by omega)]
 have hmx:mx (a:Int) 0=((a+0:Nat):Int):=by unfold mx; split <;> omega
 rw [hmx]
 have:=each_get (1000+((a:Int)).toNat+((c:Int)).toNat+((0:Int)).toNat+((W.toNat:Int)).toNat) W hc h (1000+((a:Int)).toNat+((c:Int)).toNat+((0:Int)).toNat+((W.toNat:Int)).toNat) 0 (by omega) (by omega)
 rw [show ((getV W a 0).toNat:Int)=0 from rfl] at this
 rw [this,Option.bind_some]
end Rv
namespace Rv
open Go
def layF:W32→List (Nat×Nat×Int)→W32
 | W,[]=>W
 | W,(a,n,x)::r=>layF (setV W (BitVec.ofInt 32 x) a n) r
abbrev fld (f:Nat×Nat×Int):Int×Int×Int×Unit:=((f.1:Int),(f.2.1:Int),f.2.2,())
abbrev dFld:Int×Int×Int×Unit:=((0:Int),((0:Int),((0:Int),())))
theorem lay_loop (n:Nat) (fs:List (Nat×Nat×Int)) (hf:∀ f∈fs,1≤f.2.1∧f.1+f.2.1≤32) (hl:fs.length≤1000):∀ (m i:Nat) (W:W32),i≤fs.length→fs.length - i < m →
  Zaj.l3 n m (W.toNat:Int) (fs.map fld) ((fs.map fld).length:Int) (i:Int)=some (((layF W (fs.drop i)).toNat:Int),()):=by
 intro m
 induction m with
 | zero=>intro i _ _ h; omega
 | succ m ih=>
  intro i W hi hm
  rw [Zaj.l3]
  simp only [dt,List.length_map]
  by_cases h:i < fs.length
  ·have hd:fs.drop i=fs[i]::fs.drop (i+1):=List.drop_eq_getElem_cons h
   have hg:(fs.map fld).getD ((i:Int)).toNat dFld=fld fs[i]:=by
    rw [Int.toNat_natCast,List.getD_eq_getElem?_getD,List.getElem?_eq_getElem (by simpa using h)]; simp
   obtain ⟨h1,h2⟩:=hf fs[i] (List.getElem_mem h)
   rw [if_pos (by omega),if_pos (by omega),if_pos (by decide),if_pos (by decide),if_pos (by decide),hg]
   have q1:∀ x y z:Int,([x,y,z]:List Int).getD ((0:Int)).toNat 0=x:=fun _ _ _=>rfl
   have q2:∀ x y z:Int,([x,y,z]:List Int).getD ((1:Int)).toNat 0=y:=fun _ _ _=>rfl
   have q3:∀ x y z:Int,([x,y,z]:List Int).getD ((2:Int)).toNat 0=z:=fun _ _ _=>rfl
   rw [q1,q2,q3]
   dsimp only [fld]
   rw [wr32,set_eq _ _ h1 h2,Option.bind_some]
   dsimp only
   rw [w64 (by omega),show (i:Int)+1=((i+1:Nat):Int) by omega,hd]
   have:=ih (i+1) (setV W (BitVec.ofInt 32 fs[i].2.2) fs[i].1 fs[i].2.1) (by omega) (by omega)
   rw [List.length_map] at this
   exact this
  ·rw [if_neg (by omega),List.drop_eq_nil_of_le (by omega)]; rfl
theorem lay_eq (fs:List (Nat×Nat×Int)) (hf:∀ f∈fs,1≤f.2.1∧f.1+f.2.1≤32) (hl:fs.length≤1000) (l:List (Int×Int×Int×Unit)) (e:l=fs.map fld):Zaj.g l=some (((layF 0 fs).toNat:Int),()):=by
 subst e
 unfold Zaj.g Zaj.f
 have:=lay_loop (1000+(fs.map fld).length) fs hf hl (1000+(fs.map fld).length) 0 0 (by omega) (by rw [List.length_map]; omega)
 rw [List.drop_zero] at this
 exact this
def hdN (f:Nat) (u v:Bool):Nat:=f * 4+(if u then 2 else 0)+(if v then 1 else 0)
theorem ihead_eq (f:Nat) (hf:f < 4) (u v:Bool):Zas.g (f:Int) u v=some (28,4,(hdN f u v:Int),()):=by
 have:∀ f:Nat,f < 4→∀ u v:Bool,Zas.g (f:Int) u v=some (28,4,(hdN f u v:Int),()):=by decide +kernel
 exact this f hf u v
def flds (k o a b c i:Int) (u:Bool):List (Nat×Nat×Int):=
 if k=1 then [(28,4,(hdN 0 u false:Int)),(24,4,a),(20,4,b),(16,4,o),(0,4,c)] else
 if k=3∨k=4 then [(28,4,(hdN 0 true (decide (k=4)):Int)),(24,4,a)] else
 if k=2 then [(28,4,(hdN 1 u (decide (i < 0)):Int)),(24,4,a),(20,4,b),(16,4,o),(0,16,i)] else
 if k=5 then [(28,4,(hdN 2 (decide (2≤o)) (decide (Int.tmod o 2=1)):Int)),(24,4,a),(20,4,b),(0,20,i)] else
 if k=6 then [(28,4,(hdN 3 false u:Int)),(24,4,o),(0,4,c)] else
 [(28,4,(hdN 3 true u:Int)),(24,4,o),(0,24,i)]
theorem flds_ok (k o a b c i:Int) (u:Bool):(∀ f∈flds k o a b c i u,1≤f.2.1∧f.1+f.2.1≤32)∧(flds k o a b c i u).length≤1000:=by
 unfold flds
 split
 ·exact ⟨by simp,by simp⟩
 ·split
  ·exact ⟨by simp,by simp⟩
  ·split
   ·exact ⟨by simp,by simp⟩
   ·split
    ·exact ⟨by simp,by simp⟩
    ·split
     ·exact ⟨by simp,by simp⟩
     ·exact ⟨by simp,by simp⟩
def wordV (k o a b c i:Int) (u:Bool):W32:=layF 0 (flds k o a b c i u)
theorem lay_fl (k o a b c i:Int) (u:Bool) (l:List (Int×Int×Int×Unit)) (e:l=(flds k o a b c i u).map fld):Zaj.g l=some (((wordV k o a b c i u).toNat:Int),()):=
 lay_eq _ (flds_ok k o a b c i u).1 (flds_ok k o a b c i u).2 l e
theorem iword_eq (k o a b c i:Int) (u:Bool):Zaz.g k o a b c i u=some (((wordV k o a b c i u).toNat:Int),()):=by
 have J:∀ n,k≠1→k≠2→k≠3→k≠4→k≠5→k≠6→Zaz.j14 n k o a b c i u 24 4 o=some (((wordV k o a b c i u).toNat:Int),()):=fun n h1 h2 h3 h4 h5 h6=>by
  unfold Zaz.j14
  rw [show (3:Int)=((3:Nat):Int) from rfl,ihead_eq 3 (by decide),Option.bind_some,lay_fl k o a b c i u _ (by unfold flds; simp [h1,h2,h3,h4,h5,h6]),Option.bind_some]
 unfold Zaz.g
 generalize 1000+k.toNat+o.toNat+a.toNat+b.toNat+c.toNat+i.toNat=n
 unfold Zaz.f
 simp only [dt]
 have e0:(0:Int)=((0:Nat):Int):=rfl
 by_cases h1:k=1
 ·rw [if_pos h1]
  have:=ihead_eq 0 (by decide) u false
  rw [show ((0:Nat):Int)=0 from rfl] at this
  rw [this,Option.bind_some,lay_fl k o a b c i u _ (by unfold flds; simp [h1]),Option.bind_some]
 ·rw [if_neg h1]
  have h0:=ihead_eq 0 (by decide) true (decide (k=4))
  rw [show ((0:Nat):Int)=0 from rfl] at h0
  have g2:=ihead_eq 1 (by decide) u (decide (i < 0))
  rw [show ((1:Nat):Int)=1 from rfl] at g2
  have g5:=ihead_eq 2 (by decide) (decide (2≤o)) (decide (Int.tmod o 2=1))
  rw [show ((2:Nat):Int)=2 from rfl] at g5
  have g6:=ihead_eq 3 (by decide) false u
  rw [show ((3:Nat):Int)=3 from rfl] at g6
  rw [h0,g2,g5,g6]
  simp only [Option.bind_some]
  by_cases h3:k=3
  ·rw [if_pos h3,if_pos h3,lay_fl k o a b c i u _ (by unfold flds; simp [h3]),Option.bind_some]
  ·rw [if_neg h3]
   by_cases h4:k=4
   ·rw [if_pos h4,lay_fl k o a b c i u _ (by unfold flds; simp [h4]),Option.bind_some]
   ·rw [if_neg h4]
    by_cases h2:k=2
    ·rw [if_pos h2,lay_fl k o a b c i u _ (by unfold flds; simp [h2]),Option.bind_some]
    ·rw [if_neg h2]
     by_cases h5:k=5
     ·rw [if_pos h5,lay_fl k o a b c i u _ (by unfold flds; simp [h5]),Option.bind_some]
     ·rw [if_neg h5]
      by_cases h6:k=6
      ·rw [if_pos h6,lay_fl k o a b c i u _ (by unfold flds; simp [h6]),Option.bind_some]
      ·rw [if_neg h6]
       exact J n h1 h2 h3 h4 h5 h6
abbrev Gn (W:W32) (a n:Nat):Int:=((getV W a n).toNat:Int)
theorem gn_range (W:W32) (a:Nat) {n:Nat} (hn:n≤32):0≤Gn W a n∧Gn W a n < 2 ^ n:=by
 have:=get_lt W a hn
 refine ⟨Int.natCast_nonneg _,?_⟩
 have h2:((2 ^ n:Nat):Int)=2 ^ n:=by rw [Int.natCast_pow]; rfl
 rw [← h2]
 exact Int.ofNat_lt.2 this
theorem read1_eq (W:W32) (a n:Nat) (hn:1≤n) (h:a+n≤32):Zan.g (a:Int) (n:Int) (W.toNat:Int)=some (Gn W a n,()):=by
 unfold Zan.g Zan.f
 rw [get_eq W hn h,Option.bind_some]
 dsimp only
 have:=gn_range W a (n:=n) (by omega)
 have h32:(getV W a n).toNat < 2 ^ 32:=(getV W a n).isLt
 rw [w64 (by omega)]
def sgV (W:W32) (n:Nat):Int:=IntKind.i64.wrap ((IntKind.i32.wrap ((W <<< (32 - n)).toNat:Int)).fdiv (2 ^ (32 - n)))
theorem signed_eq (W:W32) (n:Nat) (h:1≤n) (h2:n≤32):Zbu.g (W.toNat:Int) (n:Int)=some (sgV W n,()):=by
 unfold Zbu.g Zbu.f Zcq.g Zcq.f
 have hk:mn (mx (n:Int) 1) 32=(n:Int):=by unfold mn mx; split <;> split <;> omega
 rw [hk,Option.bind_some]
 dsimp only
 rw [w64 (by omega),show (32:Int) - (n:Int)=((32 - n:Nat):Int) by omega,if_neg (by omega),if_neg (by omega),shl32 W (32 - n) (by omega)]
 have e:min (((32 - n:Nat):Int)).toNat IntKind.i32.bits=32 - n:=by show min (((32 - n:Nat):Int)).toNat 32=_; omega
 rw [e]
 rfl
theorem sg_zero {W:W32} {n:Nat} (h:n≤32) (h0:getV W 0 n=0):sgV W n=0:=by
 have:W <<< (32 - n)=0:=bits_eq fun j hj=>by
  rw [BitVec.getLsbD_shiftLeft]
  by_cases e:j < 32 - n
  ·simp [e]
  ·have:=congrArg (fun V:W32=>V.getLsbD (j - (32 - n))) h0
   simp only [getV_bit W h (show j - (32 - n) < 32 by omega)] at this
   rw [Nat.zero_add] at this
   have h3:j - (32 - n) < n:=by omega
   simp [h3] at this
   simp [e,hj,this]
 unfold sgV
 rw [this]
 show IntKind.i64.wrap ((IntKind.i32.wrap 0).fdiv (2 ^ (32 - n)))=0
 rw [show IntKind.i32.wrap 0=0 from rfl,Int.zero_fdiv]
 rfl
def readT (W:W32):Int×Int×Int×Int×Int×Int×Bool×Unit:=
 if Gn W 30 2=0 then
  (if Gn W 29 1=1∧Gn W 16 4=0 then (3+Gn W 28 1,0,Gn W 24 4,0,0,0,false,()) else (1,Gn W 16 4,Gn W 24 4,Gn W 20 4,Gn W 0 4,0,decide (Gn W 29 1=1),()))
 else if Gn W 30 2=1 then (2,Gn W 16 4,Gn W 24 4,Gn W 20 4,0,Gn W 0 16 - Gn W 28 1 * 65536,decide (Gn W 29 1=1),())
 else if Gn W 30 2=2 then (5,Gn W 29 1 * 2+Gn W 28 1,Gn W 24 4,Gn W 20 4,0,sgV W 20,false,())
 else if Gn W 29 1=1 then (7,Gn W 24 4,0,0,0,sgV W 24,decide (Gn W 28 1=1),())
 else (6,Gn W 24 4,0,0,Gn W 0 4,0,decide (Gn W 28 1=1),())
theorem iread_eq (W:W32):Zat.g (W.toNat:Int)=some (readT W):=by
 unfold Zat.g Zat.f
 have r1:=read1_eq W 29 1 (by decide) (by decide)
 have r2:=read1_eq W 28 1 (by decide) (by decide)
 have r3:=read1_eq W 24 4 (by decide) (by decide)
 have r4:=read1_eq W 20 4 (by decide) (by decide)
 have r5:=read1_eq W 16 4 (by decide) (by decide)
 have r6:=read1_eq W 30 2 (by decide) (by decide)
 have r7:=read1_eq W 0 4 (by decide) (by decide)
 have r8:=read1_eq W 0 16 (by decide) (by decide)
 have s1:=signed_eq W 20 (by decide) (by decide)
 have s2:=signed_eq W 24 (by decide) (by decide)
 have b1:=gn_range W 29 (n:=1) (by decide)
 have b2:=gn_range W 28 (n:=1) (by decide)
 have b8:=gn_range W 0 (n:=16) (by decide)
 have p16:IntKind.i64.wrap (Gn W 28 1 * 2 ^ (min (16:Int).toNat IntKind.i64.bits))=Gn W 28 1 * 65536:=by
  show IntKind.i64.wrap (Gn W 28 1 * 65536)=_
  rw [w64 (by omega)]
 simp only [Int.cast_ofNat_Int] at r1 r2 r3 r4 r5 r6 r7 r8 s1 s2
 simp only [r1,r2,r3,r4,r5,r6,r7,r8,s1,s2,Option.bind_some,dt,Zat.j16,p16]
 unfold readT
 by_cases h1:Gn W 30 2=0
 ·rw [if_pos h1,if_pos h1]
  by_cases h2:Gn W 29 1=1
  ·rw [if_pos h2]
   by_cases h3:Gn W 16 4=0
   ·rw [if_pos h3,if_pos ⟨h2,h3⟩,w64 (by omega)]
   ·rw [if_neg h3,if_neg (fun h=>h3 h.2)]
  ·rw [if_neg h2,if_neg (fun h=>h2 h.1)]
 ·rw [if_neg h1,if_neg h1]
  by_cases h2:Gn W 30 2=1
  ·rw [if_pos h2,if_pos h2,w64 (by omega)]
  ·rw [if_neg h2,if_neg h2]
   by_cases h3:Gn W 30 2=2
   ·rw [if_pos h3,if_pos h3,w64 (x:=Gn W 29 1 * 2) (by omega),w64 (by omega)]
   ·rw [if_neg h3,if_neg h3]
    by_cases h4:Gn W 29 1=1
    ·rw [if_pos h4,if_pos h4]
    ·rw [if_neg h4,if_neg h4]
theorem gn_out (W X:W32) {a n b m:Nat} (h:a+n≤32) (hb:b+m≤32) (h1:b+m≤a∨a+n≤b):Gn (setV W X a n) b m=Gn W b m:=by unfold Gn; rw [get_out W X h hb h1]
theorem gn_in (W:W32) {x:Int} {a n:Nat} (h:a+n≤32) (hx:0≤x∧x < 2 ^ n):Gn (setV W (BitVec.ofInt 32 x) a n) a n=x:=by
 have h1:(2:Int) ^ n=((2 ^ n:Nat):Int):=by rw [Int.natCast_pow]; rfl
 have h2:2 ^ n≤2 ^ 32:=Nat.pow_le_pow_right (by decide) (by omega)
 have h3:(BitVec.ofInt 32 x).toNat=x.toNat:=by
  rw [BitVec.toNat_ofInt]
  rw [h1] at hx
  generalize 2 ^ n=q at *
  omega
 unfold Gn
 rw [get_in W _ h (Nat.le_refl _) (Nat.le_refl _),Nat.sub_self,get_all (by omega) (by rw [h3]; rw [h1] at hx; omega),h3]
 omega
theorem gn_r (W:W32) {x:Int} {a:Nat} (h:a+4≤32) (hx:0≤x∧x < 16):Gn (setV W (BitVec.ofInt 32 x) a 4) a 4=x:=gn_in W h hx
theorem gn_sub (W X:W32) {a n b m:Nat} (h:a+n≤32) (h1:a≤b) (h2:b+m≤a+n):Gn (setV W X a n) b m=Gn X (b - a) m:=by unfold Gn; rw [get_in W X h h1 h2]
theorem gn_zero (b m:Nat) (hm:m≤32):Gn 0 b m=0:=by unfold Gn; rw [get_zero b m hm]; rfl
theorem hd_gn:∀ f:Nat,f < 4→∀ u v:Bool,Gn (BitVec.ofInt 32 (hdN f u v:Int)) 2 2=f∧Gn (BitVec.ofInt 32 (hdN f u v:Int)) 1 1=(if u then 1 else 0)∧Gn (BitVec.ofInt 32 (hdN f u v:Int)) 0 1=(if v then 1 else 0):=by decide +kernel
def rg (x:Int):Prop:=0≤x∧x < 16
inductive GoodI0:Int→Int→Int→Int→Int→Bool→Prop
 | reg {o a b c:Int} {u:Bool}:0 < o→o < 12→rg a→rg b→rg c→(u=true→8≤o∧o≤10)→GoodI0 1 o a b c u
 | mov {a c:Int}:rg a→rg c→GoodI0 1 0 a 0 c false
 | imm {o a b:Int} {u:Bool}:0 < o→o < 12→rg a→rg b→(u=true→8≤o∧o≤10)→GoodI0 2 o a b 0 u
 | movi {a:Int} {u:Bool}:rg a→GoodI0 2 0 a 0 0 u
 | hi {a:Int}:rg a→GoodI0 3 0 a 0 0 false
 | fl {a:Int}:rg a→GoodI0 4 0 a 0 0 false
 | mem {o a b:Int}:0≤o→o < 4→rg a→rg b→GoodI0 5 o a b 0 false
 | br {o c:Int} {u:Bool}:rg o→rg c→GoodI0 6 o 0 0 c u
 | jmp {o:Int} {u:Bool}:rg o→GoodI0 7 o 0 0 0 u
theorem read_reg {o a b c:Int} {u:Bool} (ho:rg o) (ha:rg a) (hb:rg b) (hc:rg c) (hu:u=true→o≠0):readT (wordV 1 o a b c 0 u)=(1,o,a,b,c,0,u,()):=by
 obtain ⟨h1,h2,h3⟩:=hd_gn 0 (by decide) u false
 generalize hW:wordV 1 o a b c 0 u=W
 unfold wordV flds at hW
 rw [if_pos rfl] at hW
 simp only [layF] at hW
 have w1:Gn W 30 2=0:=by rw [← hW,gn_out _ _ (by decide) (by decide) (by decide),gn_out _ _ (by decide) (by decide) (by decide),gn_out _ _ (by decide) (by decide) (by decide),gn_out _ _ (by decide) (by decide) (by decide),gn_sub _ _ (by decide) (by decide) (by decide)]; exact h1
 have w2:Gn W 29 1=if u then 1 else 0:=by rw [← hW,gn_out _ _ (by decide) (by decide) (by decide),gn_out _ _ (by decide) (by decide) (by decide),gn_out _ _ (by decide) (by decide) (by decide),gn_out _ _ (by decide) (by decide) (by decide),gn_sub _ _ (by decide) (by decide) (by decide)]; exact h2
 have w3:Gn W 24 4=a:=by rw [← hW,gn_out _ _ (by decide) (by decide) (by decide),gn_out _ _ (by decide) (by decide) (by decide),gn_out _ _ (by decide) (by decide) (by decide),gn_r _ (by decide) ha]
 have w4:Gn W 20 4=b:=by rw [← hW,gn_out _ _ (by decide) (by decide) (by decide),gn_out _ _ (by decide) (by decide) (by decide),gn_r _ (by decide) hb]
 have w5:Gn W 16 4=o:=by rw [← hW,gn_out _ _ (by decide) (by decide) (by decide),gn_r _ (by decide) ho]
 have w6:Gn W 0 4=c:=by rw [← hW,gn_r _ (by decide) hc]
 unfold readT
 rw [w1,w2,w3,w4,w5,w6,if_pos rfl]
 cases u with
 | false=>simp
 | true=>simp [hu rfl]
theorem read_imm {o a b:Int} {u:Bool} (ho:rg o) (ha:rg a) (hb:rg b):readT (wordV 2 o a b 0 0 u)=(2,o,a,b,0,0,u,()):=by
 obtain ⟨h1,h2,h3⟩:=hd_gn 1 (by decide) u false
 generalize hW:wordV 2 o a b 0 0 u=W
 unfold wordV flds at hW
 rw [if_neg (by decide),if_neg (by decide),if_pos rfl] at hW
 simp only [layF] at hW
 rw [show decide ((0:Int) < 0)=false from rfl] at hW
 have w1:Gn W 30 2=1:=by rw [← hW,gn_out _ _ (by decide) (by decide) (by decide),gn_out _ _ (by decide) (by decide) (by decide),gn_out _ _ (by decide) (by decide) (by decide),gn_out _ _ (by decide) (by decide) (by decide),gn_sub _ _ (by decide) (by decide) (by decide)]; exact h1
 have w2:Gn W 29 1=if u then 1 else 0:=by rw [← hW,gn_out _ _ (by decide) (by decide) (by decide),gn_out _ _ (by decide) (by decide) (by decide),gn_out _ _ (by decide) (by decide) (by decide),gn_out _ _ (by decide) (by decide) (by decide),gn_sub _ _ (by decide) (by decide) (by decide)]; exact h2
 have w7:Gn W 28 1=0:=by rw [← hW,gn_out _ _ (by decide) (by decide) (by decide),gn_out _ _ (by decide) (by decide) (by decide),gn_out _ _ (by decide) (by decide) (by decide),gn_out _ _ (by decide) (by decide) (by decide),gn_sub _ _ (by decide) (by decide) (by decide)]; exact h3
 have w3:Gn W 24 4=a:=by rw [← hW,gn_out _ _ (by decide) (by decide) (by decide),gn_out _ _ (by decide) (by decide) (by decide),gn_out _ _ (by decide) (by decide) (by decide),gn_r _ (by decide) ha]
 have w4:Gn W 20 4=b:=by rw [← hW,gn_out _ _ (by decide) (by decide) (by decide),gn_out _ _ (by decide) (by decide) (by decide),gn_r _ (by decide) hb]
 have w5:Gn W 16 4=o:=by rw [← hW,gn_out _ _ (by decide) (by decide) (by decide),gn_r _ (by decide) ho]
 have w6:Gn W 0 16=0:=by rw [← hW,gn_in _ (by decide) (by decide)]
 unfold readT
 rw [w1,w2,w3,w4,w5,w6,w7,if_neg (by decide),if_pos rfl]
 cases u <;> simp
theorem read_hi {k a:Int} (hk:k=3∨k=4) (ha:rg a):readT (wordV k 0 a 0 0 0 false)=(k,0,a,0,0,0,false,()):=by
 obtain ⟨h1,h2,h3⟩:=hd_gn 0 (by decide) true (decide (k=4))
 generalize hW:wordV k 0 a 0 0 0 false=W
 unfold wordV flds at hW
 rw [if_neg (by omega),if_pos hk] at hW
 simp only [layF] at hW
 have w1:Gn W 30 2=0:=by rw [← hW,gn_out _ _ (by decide) (by decide) (by decide),gn_sub _ _ (by decide) (by decide) (by decide)]; exact h1
 have w2:Gn W 29 1=1:=by rw [← hW,gn_out _ _ (by decide) (by decide) (by decide),gn_sub _ _ (by decide) (by decide) (by decide)]; exact h2
 have w7:Gn W 28 1=if decide (k=4) then 1 else 0:=by rw [← hW,gn_out _ _ (by decide) (by decide) (by decide),gn_sub _ _ (by decide) (by decide) (by decide)]; exact h3
 have w3:Gn W 24 4=a:=by rw [← hW,gn_r _ (by decide) ha]
 have w5:Gn W 16 4=0:=by rw [← hW,gn_out _ _ (by decide) (by decide) (by decide),gn_out _ _ (by decide) (by decide) (by decide),gn_zero _ _ (by decide)]
 unfold readT
 rw [w1,w2,w3,w5,w7,if_pos rfl,if_pos ⟨rfl,rfl⟩]
 rcases hk with rfl | rfl <;> simp
theorem read_mem {o a b:Int} (ho:0≤o∧o < 4) (ha:rg a) (hb:rg b):readT (wordV 5 o a b 0 0 false)=(5,o,a,b,0,0,false,()):=by
 obtain ⟨h1,h2,h3⟩:=hd_gn 2 (by decide) (decide (2≤o)) (decide (Int.tmod o 2=1))
 generalize hW:wordV 5 o a b 0 0 false=W
 unfold wordV flds at hW
 rw [if_neg (by decide),if_neg (by decide),if_neg (by decide),if_pos rfl] at hW
 simp only [layF] at hW
 have w1:Gn W 30 2=2:=by rw [← hW,gn_out _ _ (by decide) (by decide) (by decide),gn_out _ _ (by decide) (by decide) (by decide),gn_out _ _ (by decide) (by decide) (by decide),gn_sub _ _ (by decide) (by decide) (by decide)]; exact h1
 have w2:Gn W 29 1=if decide (2≤o) then 1 else 0:=by rw [← hW,gn_out _ _ (by decide) (by decide) (by decide),gn_out _ _ (by decide) (by decide) (by decide),gn_out _ _ (by decide) (by decide) (by decide),gn_sub _ _ (by decide) (by decide) (by decide)]; exact h2
 have w7:Gn W 28 1=if decide (Int.tmod o 2=1) then 1 else 0:=by rw [← hW,gn_out _ _ (by decide) (by decide) (by decide),gn_out _ _ (by decide) (by decide) (by decide),gn_out _ _ (by decide) (by decide) (by decide),gn_sub _ _ (by decide) (by decide) (by decide)]; exact h3
 have w3:Gn W 24 4=a:=by rw [← hW,gn_out _ _ (by decide) (by decide) (by decide),gn_out _ _ (by decide) (by decide) (by decide),gn_r _ (by decide) ha]
 have w4:Gn W 20 4=b:=by rw [← hW,gn_out _ _ (by decide) (by decide) (by decide),gn_r _ (by decide) hb]
 have w6:sgV W 20=0:=sg_zero (by decide) (by
  rw [← hW]
  have:=gn_in (x:=0) (a:=0) (n:=20) (setV (setV (setV 0 (BitVec.ofInt 32 ((hdN 2 (decide (2≤o)) (decide (Int.tmod o 2=1)):Nat):Int)) 28 4) (BitVec.ofInt 32 a) 24 4) (BitVec.ofInt 32 b) 20 4) (by decide) (by decide)
  exact BitVec.eq_of_toNat_eq (by unfold Gn at this; simpa using this))
 have:o=0∨o=1∨o=2∨o=3:=by omega
 unfold readT
 rw [w1,w2,w3,w4,w6,w7,if_neg (by decide),if_neg (by decide),if_pos rfl]
 rcases this with rfl | rfl | rfl | rfl <;> rfl
theorem read_br {o c:Int} {u:Bool} (ho:rg o) (hc:rg c):readT (wordV 6 o 0 0 c 0 u)=(6,o,0,0,c,0,u,()):=by
 obtain ⟨h1,h2,h3⟩:=hd_gn 3 (by decide) false u
 generalize hW:wordV 6 o 0 0 c 0 u=W
 unfold wordV flds at hW
 rw [if_neg (by decide),if_neg (by decide),if_neg (by decide),if_neg (by decide),if_pos rfl] at hW
 simp only [layF] at hW
 have w1:Gn W 30 2=3:=by rw [← hW,gn_out _ _ (by decide) (by decide) (by decide),gn_out _ _ (by decide) (by decide) (by decide),gn_sub _ _ (by decide) (by decide) (by decide)]; exact h1
 have w2:Gn W 29 1=0:=by rw [← hW,gn_out _ _ (by decide) (by decide) (by decide),gn_out _ _ (by decide) (by decide) (by decide),gn_sub _ _ (by decide) (by decide) (by decide)]; exact h2
 have w7:Gn W 28 1=if u then 1 else 0:=by rw [← hW,gn_out _ _ (by decide) (by decide) (by decide),gn_out _ _ (by decide) (by decide) (by decide),gn_sub _ _ (by decide) (by decide) (by decide)]; exact h3
 have w3:Gn W 24 4=o:=by rw [← hW,gn_out _ _ (by decide) (by decide) (by decide),gn_r _ (by decide) ho]
 have w6:Gn W 0 4=c:=by rw [← hW,gn_r _ (by decide) hc]
 unfold readT
 rw [w1,w2,w3,w6,w7,if_neg (by decide),if_neg (by decide),if_neg (by decide),if_neg (by decide)]
 cases u <;> simp
theorem read_jmp {o:Int} {u:Bool} (ho:rg o):readT (wordV 7 o 0 0 0 0 u)=(7,o,0,0,0,0,u,()):=by
 obtain ⟨h1,h2,h3⟩:=hd_gn 3 (by decide) true u
 generalize hW:wordV 7 o 0 0 0 0 u=W
 unfold wordV flds at hW
 rw [if_neg (by decide),if_neg (by decide),if_neg (by decide),if_neg (by decide),if_neg (by decide)] at hW
 simp only [layF] at hW
 have w1:Gn W 30 2=3:=by rw [← hW,gn_out _ _ (by decide) (by decide) (by decide),gn_out _ _ (by decide) (by decide) (by decide),gn_sub _ _ (by decide) (by decide) (by decide)]; exact h1
 have w2:Gn W 29 1=1:=by rw [← hW,gn_out _ _ (by decide) (by decide) (by decide),gn_out _ _ (by decide) (by decide) (by decide),gn_sub _ _ (by decide) (by decide) (by decide)]; exact h2
 have w7:Gn W 28 1=if u then 1 else 0:=by rw [← hW,gn_out _ _ (by decide) (by decide) (by decide),gn_out _ _ (by decide) (by decide) (by decide),gn_sub _ _ (by decide) (by decide) (by decide)]; exact h3
 have w3:Gn W 24 4=o:=by rw [← hW,gn_out _ _ (by decide) (by decide) (by decide),gn_r _ (by decide) ho]
 have w6:sgV W 24=0:=sg_zero (by decide) (by
  rw [← hW]
  have:=gn_in (x:=0) (a:=0) (n:=24) (setV (setV 0 (BitVec.ofInt 32 ((hdN 3 true u:Nat):Int)) 28 4) (BitVec.ofInt 32 o) 24 4) (by decide) (by decide)
  exact BitVec.eq_of_toNat_eq (by unfold Gn at this; simpa using this))
 unfold readT
 rw [w1,w2,w3,w6,w7,if_neg (by decide),if_neg (by decide),if_neg (by decide),if_pos rfl]
 cases u <;> simp
theorem read_good {k o a b c:Int} {u:Bool} (h:GoodI0 k o a b c u):readT (wordV k o a b c 0 u)=(k,o,a,b,c,0,u,()):=by
 have z:rg 0:=⟨by decide,by decide⟩
 cases h with
 | reg h1 h2 ha hb hc hu=>exact read_reg ⟨by omega,by omega⟩ ha hb hc (fun _=>by omega)
 | mov ha hc=>exact read_reg z ha z hc (fun h=>by cases h)
 | imm h1 h2 ha hb hu=>exact read_imm ⟨by omega,by omega⟩ ha hb
 | movi ha=>exact read_imm z ha z
 | hi ha=>exact read_hi (.inl rfl) ha
 | fl ha=>exact read_hi (.inr rfl) ha
 | mem h1 h2 ha hb=>exact read_mem ⟨h1,h2⟩ ha hb
 | br ho hc=>exact read_br ho hc
 | jmp ho=>exact read_jmp ho
theorem between_eq (n l h:Int):Zbo.g n l h=some (decide (l≤n) && decide (n≤h),()):=by
 unfold Zbo.g Zbo.f
 by_cases e:l≤n
 ·rw [if_pos (by simpa using e),decide_eq_true e]; rfl
 ·rw [if_neg (by simpa using e),decide_eq_false e]; rfl
theorem i0_range {k o a b c:Int} {u:Bool} (h:GoodI0 k o a b c u):1≤k∧k≤7∧0≤o∧o≤15:=by
 cases h <;> refine ⟨by decide,by decide,?_,?_⟩ <;> first | decide | omega | (rename_i h _; exact h.1) | (rename_i h _; have:=h.2; omega) | (rename_i h; exact h.1) | (rename_i h; have:=h.2; omega)
theorem readT_range (W:W32):rg (readT W).2.2.1∧rg (readT W).2.2.2.1∧rg (readT W).2.2.2.2.1:=by
 have z:rg 0:=⟨by decide,by decide⟩
 have a:∀ p,rg (Gn W p 4):=fun p=>gn_range W p (n:=4) (by decide)
 unfold readT
 split
 ·split
  ·exact ⟨a _,z,z⟩
  ·exact ⟨a _,a _,a _⟩
 ·split
  ·exact ⟨a _,a _,z⟩
  ·split
   ·exact ⟨a _,a _,z⟩
   ·split
    ·exact ⟨z,z,z⟩
    ·exact ⟨z,z,a _⟩
theorem isa_total (k o a b c i:Int) (u:Bool):∃ r,Zao.g k o a b c i u=some (r,())∧(r=true→(1≤k∧k≤7)∧rg a∧rg b∧rg c):=by
 unfold Zao.g
 generalize 1000+k.toNat+o.toNat+a.toNat+b.toNat+c.toNat+i.toNat=n
 unfold Zao.f
 rw [between_eq,Option.bind_some]
 dsimp only
 by_cases hk:1≤k∧k≤7
 case neg=>rw [if_neg (by simp; omega)]; exact ⟨_,rfl,fun h=>by cases h⟩
 rw [if_pos (by simp [hk]),between_eq,Option.bind_some]
 dsimp only
 by_cases ho:0≤o∧o≤15
 case neg=>rw [if_neg (by simp; omega)]; exact ⟨_,rfl,fun h=>by cases h⟩
 rw [if_pos (by simp [ho]),iword_eq,Option.bind_some]
 dsimp only
 rw [iread_eq,Option.bind_some]
 obtain ⟨r1,r2,r3⟩:=readT_range (wordV k o a b c i u)
 generalize readT (wordV k o a b c i u)=y at *
 split
 ·exact ⟨_,rfl,fun h=>by cases h⟩
 ·rename_i he
  simp only [Bool.not_eq_true',Bool.not_eq_false,Bool.and_eq_true,decide_eq_true_eq] at he
  have hg:(1≤k∧k≤7)∧rg a∧rg b∧rg c:=⟨hk,he.2.2.1 ▸ r1,he.2.2.2.1 ▸ r2,he.2.2.2.2.1 ▸ r3⟩
  simp only [dt,df,Zao.j10,between_eq,Option.bind_some]
  repeat' split
  all_goals exact ⟨_,rfl,fun _=>hg⟩
end Rv
namespace Rv
open Go
theorem i0_rg {k o a b c:Int} {u:Bool} (h:GoodI0 k o a b c u):rg a∧rg b∧rg c:=by
 have z:rg 0:=⟨by decide,by decide⟩
 cases h <;> refine ⟨?_,?_,?_⟩ <;> assumption
def I0P (k o a b c:Int) (u:Bool):Prop:=
 (k=1∧0 < o∧o < 12∧(u=true→8≤o∧o≤10))∨(k=1∧o=0∧b=0∧u=false)∨(k=2∧0 < o∧o < 12∧c=0∧(u=true→8≤o∧o≤10))∨(k=2∧o=0∧b=0∧c=0) ∨
 (k=3∧o=0∧b=0∧c=0∧u=false)∨(k=4∧o=0∧b=0∧c=0∧u=false)∨(k=5∧0≤o∧o < 4∧c=0∧u=false)∨(k=6∧0≤o∧o < 16∧a=0∧b=0)∨(k=7∧0≤o∧o < 16∧a=0∧b=0∧c=0)
instance (k o a b c:Int) (u:Bool):Decidable (I0P k o a b c u):=by unfold I0P; infer_instance
theorem i0P_iff {k o a b c:Int} {u:Bool} (ha:rg a) (hb:rg b) (hc:rg c):GoodI0 k o a b c u↔I0P k o a b c u:=by
 constructor
 ·intro h
  unfold I0P
  cases h with
  | reg h1 h2 _ _ _ h3=>exact .inl ⟨rfl,h1,h2,h3⟩
  | mov _ _=>exact .inr (.inl ⟨rfl,rfl,rfl,rfl⟩)
  | imm h1 h2 _ _ h3=>exact .inr (.inr (.inl ⟨rfl,h1,h2,rfl,h3⟩))
  | movi _=>exact .inr (.inr (.inr (.inl ⟨rfl,rfl,rfl,rfl⟩)))
  | hi _=>exact .inr (.inr (.inr (.inr (.inl ⟨rfl,rfl,rfl,rfl,rfl⟩))))
  | fl _=>exact .inr (.inr (.inr (.inr (.inr (.inl ⟨rfl,rfl,rfl,rfl,rfl⟩)))))
  | mem h1 h2 _ _=>exact .inr (.inr (.inr (.inr (.inr (.inr (.inl ⟨rfl,h1,h2,rfl,rfl⟩))))))
  | br h _=>exact .inr (.inr (.inr (.inr (.inr (.inr (.inr (.inl ⟨rfl,h.1,h.2,rfl,rfl⟩)))))))
  | jmp h=>exact .inr (.inr (.inr (.inr (.inr (.inr (.inr (.inr ⟨rfl,h.1,h.2,rfl,rfl,rfl⟩)))))))
 ·intro h
  unfold I0P at h
  rcases h with ⟨rfl,h1,h2,h3⟩ | ⟨rfl,rfl,rfl,rfl⟩ | ⟨rfl,h1,h2,rfl,h3⟩ | ⟨rfl,rfl,rfl,rfl⟩ | ⟨rfl,rfl,rfl,rfl,rfl⟩ | ⟨rfl,rfl,rfl,rfl,rfl⟩ | ⟨rfl,h1,h2,rfl,rfl⟩ | ⟨rfl,h1,h2,rfl,rfl⟩ | ⟨rfl,h1,h2,rfl,rfl,rfl⟩
  ·exact .reg h1 h2 ha hb hc h3
  ·exact .mov ha hc
  ·exact .imm h1 h2 ha hb h3
  ·exact .movi ha
  ·exact .hi ha
  ·exact .fl ha
  ·exact .mem h1 h2 ha hb
  ·exact .br ⟨h1,h2⟩ hc
  ·exact .jmp ⟨h1,h2⟩
end Rv
namespace Rv
open Go
def ImmP (k o i:Int) (u:Bool):Prop:=
 (k=2∧-65536≤i∧i≤65535∧(o=0→u=true→0≤i))∨(k=5∧-524288≤i∧i≤524287)∨(k=7∧-8388608≤i∧i≤8388607)∨(k≠2∧k≠5∧k≠7∧i=0)
instance (k o i:Int) (u:Bool):Decidable (ImmP k o i u):=by unfold ImmP; infer_instance
theorem get_mod (W:W32) {n:Nat} (hn:n≤32):(getV W 0 n).toNat=W.toNat % 2 ^ n:=by
 refine Nat.eq_of_testBit_eq fun j=>?_
 rw [Nat.testBit_mod_two_pow]
 by_cases hj:j < 32
 ·have:=getV_bit W (a:=0) hn hj
  rw [Nat.zero_add] at this
  exact this
 ·have h1:(getV W 0 n).toNat.testBit j=false:=BitVec.getLsbD_of_ge _ _ (by omega)
  rw [h1,decide_eq_false (by omega),Bool.false_and]
theorem gn_imm (W:W32) (i:Int) {n:Nat} (hn:n≤32):Gn (setV W (BitVec.ofInt 32 i) 0 n) 0 n=i % 2 ^ n:=by
 unfold Gn
 rw [get_in W _ (by omega) (Nat.le_refl _) (Nat.le_refl _),Nat.sub_self,get_mod _ hn,BitVec.toNat_ofInt]
 have e:((2 ^ n:Nat):Int)=2 ^ n:=by rw [Int.natCast_pow]; rfl
 have e2:((2 ^ 32:Nat):Int)=2 ^ 32:=rfl
 rw [Int.natCast_emod,Int.toNat_of_nonneg (Int.emod_nonneg _ (by decide)),e]
 refine Int.emod_emod_of_dvd i ?_
 obtain ⟨d,hd⟩:=Nat.exists_eq_add_of_le hn
 refine ⟨2 ^ d,?_⟩
 rw [e2,← Int.pow_add,← hd]
theorem sg20 (W:W32):sgV W 20=if Gn W 0 20 < 524288 then Gn W 0 20 else Gn W 0 20 - 1048576:=by
 unfold sgV Gn
 rw [get_mod W (by decide),BitVec.toNat_shiftLeft,Nat.shiftLeft_eq,Int.fdiv_eq_ediv_of_nonneg _ (by decide),IntKind.wrap_i32,IntKind.wrap_i64]
 have:=W.isLt
 generalize W.toNat=q at *
 show _=if ((q % 1048576:Nat):Int) < 524288 then ((q % 1048576:Nat):Int) else ((q % 1048576:Nat):Int) - 1048576
 simp only [Nat.reducePow,Nat.reduceSub,Int.reducePow]
 split <;> omega
theorem sg24 (W:W32):sgV W 24=if Gn W 0 24 < 8388608 then Gn W 0 24 else Gn W 0 24 - 16777216:=by
 unfold sgV Gn
 rw [get_mod W (by decide),BitVec.toNat_shiftLeft,Nat.shiftLeft_eq,Int.fdiv_eq_ediv_of_nonneg _ (by decide),IntKind.wrap_i32,IntKind.wrap_i64]
 have:=W.isLt
 generalize W.toNat=q at *
 show _=if ((q % 16777216:Nat):Int) < 8388608 then ((q % 16777216:Nat):Int) else ((q % 16777216:Nat):Int) - 16777216
 simp only [Nat.reducePow,Nat.reduceSub,Int.reducePow]
 split <;> omega
theorem read_immI {o a b i:Int} {u:Bool} (ho:rg o) (ha:rg a) (hb:rg b) (hi:-65536≤i∧i≤65535):readT (wordV 2 o a b 0 i u)=(2,o,a,b,0,i,u,()):=by
 obtain ⟨h1,h2,h3⟩:=hd_gn 1 (by decide) u (decide (i < 0))
 generalize hW:wordV 2 o a b 0 i u=W
 unfold wordV flds at hW
 rw [if_neg (by decide),if_neg (by decide),if_pos rfl] at hW
 simp only [layF] at hW
 have w1:Gn W 30 2=1:=by rw [← hW,gn_out _ _ (by decide) (by decide) (by decide),gn_out _ _ (by decide) (by decide) (by decide),gn_out _ _ (by decide) (by decide) (by decide),gn_out _ _ (by decide) (by decide) (by decide),gn_sub _ _ (by decide) (by decide) (by decide)]; exact h1
 have w2:Gn W 29 1=if u then 1 else 0:=by rw [← hW,gn_out _ _ (by decide) (by decide) (by decide),gn_out _ _ (by decide) (by decide) (by decide),gn_out _ _ (by decide) (by decide) (by decide),gn_out _ _ (by decide) (by decide) (by decide),gn_sub _ _ (by decide) (by decide) (by decide)]; exact h2
 have w7:Gn W 28 1=if decide (i < 0) then 1 else 0:=by rw [← hW,gn_out _ _ (by decide) (by decide) (by decide),gn_out _ _ (by decide) (by decide) (by decide),gn_out _ _ (by decide) (by decide) (by decide),gn_out _ _ (by decide) (by decide) (by decide),gn_sub _ _ (by decide) (by decide) (by decide)]; exact h3
 have w3:Gn W 24 4=a:=by rw [← hW,gn_out _ _ (by decide) (by decide) (by decide),gn_out _ _ (by decide) (by decide) (by decide),gn_out _ _ (by decide) (by decide) (by decide),gn_r _ (by decide) ha]
 have w4:Gn W 20 4=b:=by rw [← hW,gn_out _ _ (by decide) (by decide) (by decide),gn_out _ _ (by decide) (by decide) (by decide),gn_r _ (by decide) hb]
 have w5:Gn W 16 4=o:=by rw [← hW,gn_out _ _ (by decide) (by decide) (by decide),gn_r _ (by decide) ho]
 have w6:Gn W 0 16=i % 65536:=by rw [← hW]; exact gn_imm _ i (by decide)
 unfold readT
 rw [w1,w2,w3,w4,w5,w6,w7,if_neg (by decide),if_pos rfl]
 have e:i % 65536 - (if decide (i < 0) then 1 else 0) * 65536=i:=by
  by_cases h:i < 0
  ·rw [decide_eq_true h,if_pos rfl]; omega
  ·rw [decide_eq_false h,if_neg (by decide)]; omega
 rw [e]
 cases u <;> simp
theorem read_memI {o a b i:Int} (ho:0≤o∧o < 4) (ha:rg a) (hb:rg b) (hi:-524288≤i∧i≤524287):readT (wordV 5 o a b 0 i false)=(5,o,a,b,0,i,false,()):=by
 obtain ⟨h1,h2,h3⟩:=hd_gn 2 (by decide) (decide (2≤o)) (decide (Int.tmod o 2=1))
 generalize hW:wordV 5 o a b 0 i false=W
 unfold wordV flds at hW
 rw [if_neg (by decide),if_neg (by decide),if_neg (by decide),if_pos rfl] at hW
 simp only [layF] at hW
 have w1:Gn W 30 2=2:=by rw [← hW,gn_out _ _ (by decide) (by decide) (by decide),gn_out _ _ (by decide) (by decide) (by decide),gn_out _ _ (by decide) (by decide) (by decide),gn_sub _ _ (by decide) (by decide) (by decide)]; exact h1
 have w2:Gn W 29 1=if decide (2≤o) then 1 else 0:=by rw [← hW,gn_out _ _ (by decide) (by decide) (by decide),gn_out _ _ (by decide) (by decide) (by decide),gn_out _ _ (by decide) (by decide) (by decide),gn_sub _ _ (by decide) (by decide) (by decide)]; exact h2
 have w7:Gn W 28 1=if decide (Int.tmod o 2=1) then 1 else 0:=by rw [← hW,gn_out _ _ (by decide) (by decide) (by decide),gn_out _ _ (by decide) (by decide) (by decide),gn_out _ _ (by decide) (by decide) (by decide),gn_sub _ _ (by decide) (by decide) (by decide)]; exact h3
 have w3:Gn W 24 4=a:=by rw [← hW,gn_out _ _ (by decide) (by decide) (by decide),gn_out _ _ (by decide) (by decide) (by decide),gn_r _ (by decide) ha]
 have w4:Gn W 20 4=b:=by rw [← hW,gn_out _ _ (by decide) (by decide) (by decide),gn_r _ (by decide) hb]
 have w6:sgV W 20=i:=by
  have e:Gn W 0 20=i % 1048576:=by rw [← hW]; exact gn_imm _ i (by decide)
  rw [sg20,e]
  split <;> omega
 have:o=0∨o=1∨o=2∨o=3:=by omega
 unfold readT
 rw [w1,w2,w3,w4,w6,w7,if_neg (by decide),if_neg (by decide),if_pos rfl]
 rcases this with rfl | rfl | rfl | rfl <;> rfl
theorem read_jmpI {o i:Int} {u:Bool} (ho:rg o) (hi:-8388608≤i∧i≤8388607):readT (wordV 7 o 0 0 0 i u)=(7,o,0,0,0,i,u,()):=by
 obtain ⟨h1,h2,h3⟩:=hd_gn 3 (by decide) true u
 generalize hW:wordV 7 o 0 0 0 i u=W
 unfold wordV flds at hW
 rw [if_neg (by decide),if_neg (by decide),if_neg (by decide),if_neg (by decide),if_neg (by decide)] at hW
 simp only [layF] at hW
 have w1:Gn W 30 2=3:=by rw [← hW,gn_out _ _ (by decide) (by decide) (by decide),gn_out _ _ (by decide) (by decide) (by decide),gn_sub _ _ (by decide) (by decide) (by decide)]; exact h1
 have w2:Gn W 29 1=1:=by rw [← hW,gn_out _ _ (by decide) (by decide) (by decide),gn_out _ _ (by decide) (by decide) (by decide),gn_sub _ _ (by decide) (by decide) (by decide)]; exact h2
 have w7:Gn W 28 1=if u then 1 else 0:=by rw [← hW,gn_out _ _ (by decide) (by decide) (by decide),gn_out _ _ (by decide) (by decide) (by decide),gn_sub _ _ (by decide) (by decide) (by decide)]; exact h3
 have w3:Gn W 24 4=o:=by rw [← hW,gn_out _ _ (by decide) (by decide) (by decide),gn_r _ (by decide) ho]
 have w6:sgV W 24=i:=by
  have e:Gn W 0 24=i % 16777216:=by rw [← hW]; exact gn_imm _ i (by decide)
  rw [sg24,e]
  split <;> omega
 unfold readT
 rw [w1,w2,w3,w6,w7,if_neg (by decide),if_neg (by decide),if_neg (by decide),if_pos rfl]
 cases u <;> simp
theorem read_goodI {k o a b c i:Int} {u:Bool} (h:GoodI0 k o a b c u) (hi:ImmP k o i u):readT (wordV k o a b c i u)=(k,o,a,b,c,i,u,()):=by
 have z:rg 0:=⟨by decide,by decide⟩
 unfold ImmP at hi
 have i0:k≠2→k≠5→k≠7→i=0:=fun h2 h5 h7=>by
  rcases hi with ⟨h,_⟩ | ⟨h,_⟩ | ⟨h,_⟩ | ⟨_,_,_,h⟩
  ·exact absurd h h2
  ·exact absurd h h5
  ·exact absurd h h7
  ·exact h
 have hg:=h
 cases h with
 | imm h1 h2 ha hb hu=>exact read_immI ⟨by omega,by omega⟩ ha hb (by omega)
 | movi ha=>exact read_immI z ha z (by omega)
 | mem h1 h2 ha hb=>exact read_memI ⟨h1,h2⟩ ha hb (by omega)
 | jmp ho=>exact read_jmpI ho (by omega)
 | reg h1 h2 ha hb hc hu=>rw [i0 (by decide) (by decide) (by decide)]; exact read_good hg
 | mov ha hc=>rw [i0 (by decide) (by decide) (by decide)]; exact read_good hg
 | hi ha=>rw [i0 (by decide) (by decide) (by decide)]; exact read_good hg
 | fl ha=>rw [i0 (by decide) (by decide) (by decide)]; exact read_good hg
 | br ho hc=>rw [i0 (by decide) (by decide) (by decide)]; exact read_good hg
theorem isa_goodI {k o a b c i:Int} {u:Bool} (h:GoodI0 k o a b c u) (hi:ImmP k o i u):Zao.g k o a b c i u=some (true,()):=by
 have hr:=read_goodI h hi
 have hk:=i0_range h
 unfold Zao.g
 generalize 1000+k.toNat+o.toNat+a.toNat+b.toNat+c.toNat+i.toNat=n
 unfold Zao.f
 rw [between_eq,Option.bind_some]
 dsimp only
 rw [decide_eq_true hk.1,decide_eq_true hk.2.1,if_pos (by decide),between_eq,Option.bind_some]
 dsimp only
 rw [decide_eq_true hk.2.2.1,decide_eq_true hk.2.2.2,if_pos (by decide),iword_eq,Option.bind_some]
 dsimp only
 rw [iread_eq,Option.bind_some,hr]
 dsimp only
 rw [if_neg (by simp)]
 simp only [dt,df,Zao.j10,between_eq,Option.bind_some]
 have i0:k=1→i=0:=fun h1=>by unfold ImmP at hi; omega
 cases h with
 | reg h1 h2 ha hb hc hu=>
  rw [if_pos rfl,if_pos rfl,if_neg (by omega),if_neg (by omega)]
  cases u with
  | false=>rfl
  | true=>simp [hu rfl]
 | mov ha hc=>rw [i0 rfl]; rfl
 | imm h1 h2 ha hb hu=>
  rw [if_neg (by decide),if_pos rfl,if_neg (by omega),if_neg (by omega)]
  cases u with
  | false=>rfl
  | true=>simp [hu rfl]
 | movi ha=>
  cases u with
  | false=>rfl
  | true=>
   have:0≤i:=by unfold ImmP at hi; simp at hi; omega
   show some (decide (0≤i),())=_
   rw [decide_eq_true this]
 | hi ha=>rfl
 | fl ha=>rfl
 | mem h1 h2 ha hb=>rfl
 | br ho hc=>rfl
 | jmp ho=>rfl
theorem isa_onlyI {k o a b c i:Int} {u:Bool} (h:Zao.g k o a b c i u=some (true,())):GoodI0 k o a b c u∧ImmP k o i u:=by
 unfold Zao.g at h
 generalize 1000+k.toNat+o.toNat+a.toNat+b.toNat+c.toNat+i.toNat=n at h
 unfold Zao.f at h
 rw [between_eq,Option.bind_some] at h
 dsimp only at h
 by_cases hk:1≤k∧k≤7
 case neg=>rw [if_neg (by simp; omega)] at h; cases h
 rw [if_pos (by simp [hk]),between_eq,Option.bind_some] at h
 dsimp only at h
 by_cases ho:0≤o∧o≤15
 case neg=>rw [if_neg (by simp; omega)] at h; cases h
 rw [if_pos (by simp [ho]),iword_eq,Option.bind_some] at h
 dsimp only at h
 rw [iread_eq,Option.bind_some] at h
 have s20:=sg20 (wordV k o a b c i u)
 have s24:=sg24 (wordV k o a b c i u)
 have r20:=gn_range (wordV k o a b c i u) 0 (n:=20) (by decide)
 have r24:=gn_range (wordV k o a b c i u) 0 (n:=24) (by decide)
 have r16:=gn_range (wordV k o a b c i u) 0 (n:=16) (by decide)
 generalize hW:wordV k o a b c i u=W at h s20 s24 r20 r24 r16
 have g4:∀ p,rg (Gn W p 4):=fun p=>gn_range W p (n:=4) (by decide)
 have g1:∀ p,0≤Gn W p 1∧Gn W p 1 < 2:=fun p=>gn_range W p (n:=1) (by decide)
 split at h
 ·cases h
 ·rename_i he
  simp only [Bool.not_eq_true',Bool.not_eq_false,Bool.and_eq_true,decide_eq_true_eq,beq_iff_eq,and_true] at he
  obtain ⟨e1,e2,e3,e4,e5,e6,e7⟩:=he
  simp only [dt,df,Zao.j10,between_eq,Option.bind_some] at h
  unfold readT at e1 e2 e3 e4 e5 e6 e7
  split at e1
  ·rename_i f0
   rw [if_pos f0] at e2 e3 e4 e5 e6 e7
   split at e1
   ·rename_i f1
    rw [if_pos f1] at e2 e3 e4 e5 e6 e7
    dsimp only at e1 e2 e3 e4 e5 e6 e7
    have:=g1 28
    subst e2 e4 e5 e7
    have hk3:k=3∨k=4:=by omega
    rcases hk3 with rfl | rfl
    ·exact ⟨.hi (e3 ▸ g4 _),.inr (.inr (.inr ⟨by decide,by decide,by decide,e6⟩))⟩
    ·exact ⟨.fl (e3 ▸ g4 _),.inr (.inr (.inr ⟨by decide,by decide,by decide,e6⟩))⟩
   ·rename_i f1
    rw [if_neg f1] at e2 e3 e4 e5 e6 e7
    dsimp only at e1 e2 e3 e4 e5 e6 e7
    subst e1
    rw [if_pos rfl,if_pos rfl] at h
    by_cases ho0:o=0
    ·subst ho0
     rw [if_pos rfl] at h
     by_cases hb0:b=0
     ·subst hb0
      rw [if_pos rfl,if_pos (by decide)] at h
      cases u with
      | false=>exact ⟨.mov (e3 ▸ g4 _) (e5 ▸ g4 _),.inr (.inr (.inr ⟨by decide,by decide,by decide,e6⟩))⟩
      | true=>rw [if_neg (by decide)] at h; cases h
     ·rw [if_neg hb0] at h; cases h
    ·rw [if_neg ho0] at h
     by_cases h11:11 < o
     ·rw [if_pos h11] at h; cases h
     ·rw [if_neg h11] at h
      refine ⟨.reg (by omega) (by omega) (e3 ▸ g4 _) (e4 ▸ g4 _) (e5 ▸ g4 _) fun hu=>?_,.inr (.inr (.inr ⟨by decide,by decide,by decide,e6⟩))⟩
      subst hu
      simp at h
      exact h
  ·rename_i f0
   rw [if_neg f0] at e2 e3 e4 e5 e6 e7
   split at e1
   ·rename_i f1
    rw [if_pos f1] at e2 e3 e4 e5 e6 e7
    dsimp only at e1 e2 e3 e4 e5 e6 e7
    subst e1 e5
    rw [if_neg (by decide),if_pos rfl] at h
    by_cases ho0:o=0
    ·subst ho0
     rw [if_pos rfl] at h
     by_cases hb0:b=0
     ·subst hb0
      exact ⟨.movi (e3 ▸ g4 _),.inl ⟨rfl,by have:=g1 28; omega,by have:=g1 28; omega,fun _ hu=>by subst hu; simpa using h⟩⟩
     ·rw [if_neg hb0] at h; cases h
    ·rw [if_neg ho0] at h
     by_cases h11:11 < o
     ·rw [if_pos h11] at h; cases h
     ·rw [if_neg h11] at h
      refine ⟨.imm (by omega) (by omega) (e3 ▸ g4 _) (e4 ▸ g4 _) fun hu=>?_,.inl ⟨rfl,by have:=g1 28; omega,by have:=g1 28; omega,fun h0=>absurd h0 ho0⟩⟩
      subst hu
      simp at h
      exact h
   ·rename_i f1
    rw [if_neg f1] at e2 e3 e4 e5 e6 e7
    split at e1
    ·rename_i f2
     rw [if_pos f2] at e2 e3 e4 e5 e6 e7
     dsimp only at e1 e2 e3 e4 e5 e6 e7
     have q1:=g1 29
     have q2:=g1 28
     subst e1 e5 e7
     exact ⟨.mem (by omega) (by omega) (e3 ▸ g4 _) (e4 ▸ g4 _),.inr (.inl ⟨rfl,by rw [e6,s20]; split <;> omega,by rw [e6,s20]; split <;> omega⟩)⟩
    ·rename_i f2
     rw [if_neg f2] at e2 e3 e4 e5 e6 e7
     split at e1
     ·rename_i f3
      rw [if_pos f3] at e2 e3 e4 e5 e6 e7
      dsimp only at e1 e2 e3 e4 e5 e6 e7
      subst e1 e3 e4 e5
      exact ⟨.jmp (e2 ▸ g4 _),.inr (.inr (.inl ⟨rfl,by rw [e6,s24]; split <;> omega,by rw [e6,s24]; split <;> omega⟩))⟩
     ·rename_i f3
      rw [if_neg f3] at e2 e3 e4 e5 e6 e7
      dsimp only at e1 e2 e3 e4 e5 e6 e7
      subst e1 e3 e4
      exact ⟨.br (e2 ▸ g4 _) (e5 ▸ g4 _),.inr (.inr (.inr ⟨by decide,by decide,by decide,e6⟩))⟩
end Rv
namespace Rv
open Go
end Rv
namespace Rv
open Go
section
variable {W X:W32}
end
def encV (k o a b c i:Int) (u:Bool):Int×Int×Unit:=if I0P k o a b c u∧ImmP k o i u∧(0≤a∧a < 16)∧(0≤b∧b < 16)∧(0≤c∧c < 16) then (((wordV k o a b c i u).toNat:Int),0,()) else (0,1,())
theorem good_iff (k o a b c i:Int) (u:Bool):(GoodI0 k o a b c u∧ImmP k o i u)↔I0P k o a b c u∧ImmP k o i u∧(0≤a∧a < 16)∧(0≤b∧b < 16)∧(0≤c∧c < 16):=by
 constructor
 ·rintro ⟨h,hi⟩
  obtain ⟨ha,hb,hc⟩:=i0_rg h
  exact ⟨(i0P_iff ha hb hc).1 h,hi,ha,hb,hc⟩
 ·rintro ⟨h,hi,ha,hb,hc⟩
  exact ⟨(i0P_iff ha hb hc).2 h,hi⟩
theorem ienc_eq (k o a b c i:Int) (u:Bool):Zbf.g k o a b c i u=some (encV k o a b c i u):=by
 unfold encV
 by_cases h:I0P k o a b c u∧ImmP k o i u∧(0≤a∧a < 16)∧(0≤b∧b < 16)∧(0≤c∧c < 16)
 ·rw [if_pos h]
  obtain ⟨h1,h2⟩:=(good_iff k o a b c i u).2 h
  unfold Zbf.g Zbf.f
  rw [isa_goodI h1 h2,Option.bind_some]
  dsimp only
  rw [if_neg (by decide),iword_eq,Option.bind_some]
 ·rw [if_neg h]
  obtain ⟨r,hr,_⟩:=isa_total k o a b c i u
  have:r=false:=by
   cases r with
   | false=>rfl
   | true=>exact absurd ((good_iff k o a b c i u).1 (isa_onlyI hr)) h
  subst this
  unfold Zbf.g Zbf.f
  rw [hr,Option.bind_some]
  rfl
end Rv
namespace Rv
open Go
theorem leis_tab:((List.range 256).all fun k=>decide (Zbe.g (k:Int) true=some (isA (UInt8.ofNat k),())) && decide (Zbe.g (k:Int) false=some (isW (UInt8.ofNat k),())))=true:=by decide +kernel
theorem leis_eq (b:UInt8) (f:Bool):Zbe.g (b.toNat:Int) f=some (if f then isA b else isW b,()):=by
 have h:=List.all_eq_true.1 leis_tab b.toNat (by simp; exact b.toNat_lt)
 simp at h
 cases f
 ·exact h.2
 ·exact h.1
theorem lename_loop (s:Str) (hs:s.length≤12) (n:Nat):∀ (m i:Nat),1≤i→i≤s.length→s.length - i < m →
  Zam.l4 n m s (s.length:Int) (i:Int)=if (s.drop i).all isW=true then Zam.l4 n 1 s (s.length:Int) (s.length:Int) else some (false,()):=by
 intro m
 induction m with
 | zero=>intro i _ _ h; omega
 | succ m ih=>
  intro i h0 hi hm
  by_cases h1:i < s.length
  ·rw [Zam.l4,if_pos (by simp; omega),if_pos (by omega),bt_nat,leis_eq,Option.bind_some,drop_cons h1,List.all_cons]
   dsimp only
   rw [if_neg (show ¬ decide ((i:Int)=0)=true by simp; omega),w64 (by omega),show (i:Int)+1=((i+1:Nat):Int) by omega,ih (i+1) (by omega) (by omega) (by omega)]
   cases isW (s.getD i 0) <;> simp
  ·have hi':i=s.length:=by omega
   subst hi'
   rw [List.drop_length,List.all_nil,if_pos rfl]
   have hlt:¬ ((s.length:Int) < s.length):=by omega
   simp only [Zam.l4,dt,hlt,if_false]
theorem lename_eq (s:Str):Zam.g s=some (nameOk s,()):=by
 unfold Zam.g Zam.f
 simp only [dt,df]
 by_cases h0:s=[]
 ·subst h0; rw [if_neg (by simp)]; rfl
 ·have hl0:0 < s.length:=List.length_pos_iff.2 h0
  rw [if_pos (by omega)]
  by_cases h12:s.length≤12
  ·rw [if_neg (by omega)]
   obtain ⟨m,hm⟩:∃ m,1000+s.length=m+1:=⟨999+s.length,by omega⟩
   rw [show Zam.l4 (1000+s.length) (1000+s.length) s (s.length:Int) 0=Zam.l4 (1000+s.length) (m+1) s (s.length:Int) 0 by rw [hm],Zam.l4,if_pos (by simp; omega),if_pos (by omega)]
   have hb0:bt s 0=((s.getD 0 0).toNat:Int):=rfl
   rw [hb0,leis_eq,Option.bind_some]
   dsimp only
   have hdd:decide ((0:Int)=0)=true:=rfl
   rw [hdd,if_pos (show true=true from rfl),show IntKind.i64.wrap ((0:Int)+1)=((1:Nat):Int) from rfl,lename_loop s h12 (1000+s.length) m 1 (by omega) (by omega) (by omega)]
   have hall:s.all isW=(isW (s.getD 0 0) && (s.drop 1).all isW):=by
    have:=drop_cons (s:=s) (k:=0) hl0
    rw [List.drop_zero] at this
    conv=>lhs; rw [this]
    rw [List.all_cons]
   unfold nameOk
   rw [decide_eq_true h0,decide_eq_true h12,hall]
   have hAW:isA (s.getD 0 0)=true→isW (s.getD 0 0)=true:=fun h=>by unfold isW; rw [isA_L,h]; rfl
   cases hA:isA (s.getD 0 0) with
   | false=>rw [if_pos (by simp)]; simp
   | true=>
    rw [if_neg (by simp),hAW hA]
    by_cases hw:(s.drop 1).all isW=true
    ·rw [if_pos hw,hw]
     simp only [Zam.l4,dt,df]
     rw [if_neg (by omega),if_pos (by omega),hb0]
     have h82:(((s.getD 0 0).toNat:Int)=82)=(s.getD 0 0=82):=byte_is _ 82 (by omega)
     simp only [h82]
     have htake:(s.take (s.length:Int).toNat).drop (1:Int).toNat=s.drop 1:=by
      rw [show (s.length:Int).toNat=s.length by omega,List.take_length]; rfl
     have htrim:s.length≤3→L.trimO ((s.take (s.length:Int).toNat).drop (1:Int).toNat) [48,49,50,51,52,53,54,55,56,57]=some (L.trimDig (s.drop 1),()):=fun h=>by
      rw [htake]
      unfold L.trimO
      rw [if_pos ⟨rfl,by simp; omega⟩]
     have hT:decide (L.trimDig (s.drop 1)=[])=(s.drop 1).all isD:=by
      rw [Bool.eq_iff_iff,decide_eq_true_eq,trim_nil]
     unfold regLike
     by_cases hR:s.getD 0 0=82
     ·rw [if_pos hR,decide_eq_true hR]
      by_cases h2:s.length=2
      ·rw [if_neg (by omega),if_pos (by omega),htrim (by omega),Option.bind_some,decide_eq_true h2]
       dsimp only
       rw [hT]; simp
      ·rw [if_pos (by omega),decide_eq_false h2]
       by_cases h3:s.length=3
       ·rw [if_pos (by omega),if_pos (by omega),htrim (by omega),Option.bind_some,decide_eq_true h3]
        dsimp only
        rw [hT]; simp
       ·rw [if_neg (by omega),decide_eq_false h3]; simp
     ·rw [if_neg hR,decide_eq_false hR]; simp
    ·rw [if_neg hw,Bool.eq_false_iff.2 hw]; simp
  ·rw [if_pos (by omega)]
   unfold nameOk
   rw [decide_eq_false h12]; simp
end Rv
namespace Rv
open Go
def encX (k o a b c i:Int) (u:Bool):Except Int (Int×Bool):=if (encV k o a b c i u).2.1=0 then .ok ((encV k o a b c i u).1,false) else .error (encV k o a b c i u).2.1
def numV (lb:List Sym) (e:List Item) (low high:Int):Int×Int×Unit:=
 if (vOf lb e).2.2.1≠0 then (0,(vOf lb e).2.2.1,()) else if (vOf lb e).2.1≠0 then (0,27,()) else numR (IntKind.i64.wrap (IntKind.i32.wrap (vOf lb e).1)) (IntKind.i64.wrap (vOf lb e).1) low high
def farD (v pl:Int):Int:=IntKind.i64.wrap (IntKind.i32.wrap (IntKind.u32.wrap (IntKind.u32.wrap (v - IntKind.u32.wrap pl) - 4)))
def farV (v ad pl:Int):Int×Int×Unit:=
 if ad≠1 then (0,27,()) else if Int.tmod (farD v pl) 4≠0∨IntKind.i64.wrap (Int.tdiv (farD v pl) 4) < -8388608∨8388608≤IntKind.i64.wrap (Int.tdiv (farD v pl) 4) then (0,28,())
 else (IntKind.i64.wrap (Int.tdiv (farD v pl) 4),0,())
def adrV (n ad words:Int):Int:=if ad < 0∨1 < ad then 27 else if ad=1∧IntKind.i64.wrap (4 * words) < IntKind.i64.wrap n then 28 else 0
abbrev Snt:=Int×Int×Int×Int×Int×Bool×List Item×Str×Unit
def encE (k o a b c:Int) (r:Int×Int×Unit) (u:Bool):Except Int (Int×Bool):=if r.2.1≠0 then .error r.2.1 else encX k o a b c r.1 u
def wordR (lb:List Sym) (q:List Val) (fr wd:Int) (s:Snt) (pl:Int):Except Int (Int×Bool):=
 if s.1=2 then encE s.1 s.2.1 s.2.2.1 s.2.2.2.1 s.2.2.2.2.1 (numV lb s.2.2.2.2.2.2.1 (if s.2.1=0∧s.2.2.2.2.2.1=true then 0 else -65536) 65535) s.2.2.2.2.2.1
 else if s.1=5 then encE s.1 s.2.1 s.2.2.1 s.2.2.2.1 s.2.2.2.2.1 (numV lb s.2.2.2.2.2.2.1 (-524288) 524287) s.2.2.2.2.2.1
 else if s.1=7 then
  (if (vOf lb s.2.2.2.2.2.2.1).2.2.1≠0 then .error (vOf lb s.2.2.2.2.2.2.1).2.2.1 else encE s.1 s.2.1 s.2.2.1 s.2.2.2.1 s.2.2.2.2.1 (farV (vOf lb s.2.2.2.2.2.2.1).1 (vOf lb s.2.2.2.2.2.2.1).2.1 pl) s.2.2.2.2.2.1)
 else if s.1=8 then
  (if (vOf lb s.2.2.2.2.2.2.1).2.2.1≠0 then .error (vOf lb s.2.2.2.2.2.2.1).2.2.1
  else encE 5 0 s.2.2.1 13 0 (IntKind.i64.wrap (fr+IntKind.i64.wrap (4 * (posR ((vOf lb s.2.2.2.2.2.2.1).1,(vOf lb s.2.2.2.2.2.2.1).2.1,()) q:Int))),adrV (vOf lb s.2.2.2.2.2.2.1).1 (vOf lb s.2.2.2.2.2.2.1).2.1 wd,()) false)
 else if s.1=9 then
  (if (vOf lb s.2.2.2.2.2.2.1).2.2.1≠0 then .error (vOf lb s.2.2.2.2.2.2.1).2.2.1
  else if adrV (vOf lb s.2.2.2.2.2.2.1).1 (vOf lb s.2.2.2.2.2.2.1).2.1 wd≠0 then .error (adrV (vOf lb s.2.2.2.2.2.2.1).1 (vOf lb s.2.2.2.2.2.2.1).2.1 wd)
  else .ok ((vOf lb s.2.2.2.2.2.2.1).1,decide ((vOf lb s.2.2.2.2.2.2.1).2.1=1)))
 else encX s.1 s.2.1 s.2.2.1 s.2.2.2.1 s.2.2.2.2.1 0 s.2.2.2.2.2.1
abbrev WrT:=List Int×List Int×List Sym
def putW (r:WrT) (w:Int) (st:Bool):WrT:=(r.1++[w],if st=true then r.2.1++[(r.1.length:Int)] else r.2.1,r.2.2)
def exportR (lb:List Sym) (nm:Str) (y:List Sym):Except Int (List Sym):=
 if nameOk nm=false then .error 9 else if (findR nm lb).isSome=false then .error 25 else if isSy y nm=true then .error 26 else .ok (insS y (nm,(findR nm lb).getD 0,()))
def lineA (lb:List Sym) (q:List Val) (fr wd:Int) (s:Snt) (pl:Int) (r:WrT):Except Int WrT:=
 if s.1=0 then .ok r
 else if s.1=10 then (match exportR lb s.2.2.2.2.2.2.2.1 r.2.2 with | .error x=>.error x | .ok y=>.ok (r.1,r.2.1,y))
 else match wordR lb q fr wd s pl with | .error x=>.error x | .ok w=>.ok (putW r w.1 w.2)
abbrev OutT:=Int×List Int×List Sym×List Val×Int×Int×List Int×List Int×List Sym×Unit
def outW (t:List Int) (lb:List Sym) (q:List Val) (fr wd:Int) (r:WrT):Except Int WrT→OutT
 | .error x=>(x,t,lb,q,fr,wd,r.1,r.2.1,r.2.2,())
 | .ok r'=>(0,t,lb,q,fr,wd,r'.1,r'.2.1,r'.2.2,())
theorem enc_err (k o a b c i:Int) (u:Bool) {x:Int} (h:encX k o a b c i u=.error x):x≠0:=by
 unfold encX at h
 split at h
 ·cases h
 ·rename_i h1; cases h; exact h1
section
variable (t:List Int) (lb:List Sym) (q:List Val) (fr wd:Int) (r:WrT)
theorem aword_eq (h1:r.1.length≤1000000) (h2:r.2.1.length≤1000000) (v ad:Int) :
  Zaw.g v ad t lb q fr wd r.1 r.2.1 r.2.2=some (t,lb,q,fr,wd,(putW r v (decide (ad=1))).1,(putW r v (decide (ad=1))).2.1,(putW r v (decide (ad=1))).2.2,()):=by
 unfold Zaw.g Zaw.f Zaw.j3 putW
 simp only [dt]
 by_cases h:ad=1
 ·rw [if_pos h,if_pos (by simp; omega),if_pos (by simp; omega),if_pos h]
 ·rw [if_neg h,if_pos (by simp; omega),if_neg h]
theorem ainstr_eq (h1:r.1.length≤1000000) (h2:r.2.1.length≤1000000) (k o a b c i:Int) (u:Bool) :
  Zch.g k o a b c i u t lb q fr wd r.1 r.2.1 r.2.2=some (outW t lb q fr wd r (match encX k o a b c i u with | .error x=>.error x | .ok w=>.ok (putW r w.1 w.2))):=by
 unfold Zch.g Zch.f encX
 rw [ienc_eq,Option.bind_some]
 simp only [dt]
 by_cases h:(encV k o a b c i u).2.1=0
 ·rw [if_pos h,if_pos h,aword_eq t lb q fr wd r h1 h2,Option.bind_some]
  dsimp only [outW]
  rw [h]; rfl
 ·rw [if_neg h,if_neg h]; rfl
theorem aadr_eq (v ad:Int):Zbv.g v ad t lb q fr wd r.1 r.2.1 r.2.2=some (adrV v ad wd,t,lb,q,fr,wd,r.1,r.2.1,r.2.2,()):=by
 unfold Zbv.g Zbv.f adrV
 simp only [dt,df]
 by_cases h1:ad < 0
 ·rw [if_neg (by omega),if_pos (.inl h1)]
 ·rw [if_pos (by omega)]
  by_cases h2:1 < ad
  ·rw [if_pos h2,if_pos (.inr h2)]
  ·rw [if_neg h2,if_neg (show ¬ (ad < 0∨1 < ad) by omega)]
   by_cases h3:ad=1
   ·rw [if_pos h3]
    by_cases h4:IntKind.i64.wrap (4 * wd) < IntKind.i64.wrap v
    ·rw [if_pos h4,if_pos ⟨h3,h4⟩]
    ·rw [if_neg h4,if_neg (fun h=>h4 h.2)]
   ·rw [if_neg h3,if_neg (fun h=>h3 h.1)]
theorem afar_eq (v ad pl:Int):Zci.g v ad pl=some (farV v ad pl):=by
 unfold Zci.g Zci.f farV
 simp only [dt,df]
 rw [show IntKind.i64.wrap (IntKind.i32.wrap (IntKind.u32.wrap (IntKind.u32.wrap (v - IntKind.u32.wrap pl) - 4)))=farD v pl from rfl]
 generalize farD v pl=d
 generalize IntKind.i64.wrap (Int.tdiv d 4)=n
 by_cases h1:ad=1
 ·by_cases h2:Int.tmod d 4=0
  ·by_cases h3:n < -8388608
   ·simp [h1,h2,h3]
   ·by_cases h4:8388608≤n
    ·simp [h1,h2,h3,h4]
    ·simp [h1,h2,h3,h4]
  ·simp [h1,h2]
 ·simp [h1]
theorem aexport_eq (hy:sortedS r.2.2) (hl:r.2.2.length≤1000000) (hlb:lb.length≤1000000) (nm:Str) :
  Zcg.g nm t lb q fr wd r.1 r.2.1 r.2.2=some (outW t lb q fr wd r (match exportR lb nm r.2.2 with | .error x=>.error x | .ok y=>.ok (r.1,r.2.1,y))):=by
 unfold Zcg.g Zcg.f exportR
 rw [find_eq lb nm (by omega),Option.bind_some,bs_eq r.2.2 nm hy hl,Option.bind_some,lename_eq,Option.bind_some]
 dsimp only
 cases nameOk nm with
 | false=>rfl
 | true=>
  cases (findR nm lb).isSome with
  | false=>rfl
  | true=>
   cases hi:isSy r.2.2 nm with
   | true=>rfl
   | false=>
    have hk:=kS_le r.2.2 nm
    have e:L.insertO r.2.2 (kS r.2.2 nm:Int) [(nm,(findR nm lb).getD 0,())]=some (insS r.2.2 (nm,(findR nm lb).getD 0,()),()):=by
     unfold L.insertO
     rw [if_pos ⟨by omega,by omega,rfl,by omega⟩]
     rfl
    simp only [Bool.not_true,Bool.false_eq_true,if_false]
    rw [e]
    rfl
theorem anum_eq (hlb:lb.length≤1000000) (e:List Item) (he:e.length≤4611686018427387904) (low high:Int):Zag.g e lb low high=some (numV lb e low high):=by
 obtain ⟨v1,v2,x,h⟩:=ofR_any lb e
 rw [vnumber_eq e lb low high v1 v2 x (by rw [of_eq lb (by omega) e he,h])]
 unfold numV vOf
 rw [h]
 rfl
theorem aof_eq (hlb:lb.length≤1000000) (e:List Item) (he:e.length≤4611686018427387904):Zad.g e lb=some (vOf lb e):=by
 rw [of_eq lb (by omega) e he,ofR_vOf]
theorem aline_eq (h1:r.1.length≤1000000) (h2:r.2.1.length≤1000000) (hy:sortedS r.2.2) (hl:r.2.2.length≤1000000) (hlb:lb.length≤1000000) (hq:q.length≤1000000) (s:Snt) (he:s.2.2.2.2.2.2.1.length≤4611686018427387904) (pl:Int) :
  Zaf.g s.1 s.2.1 s.2.2.1 s.2.2.2.1 s.2.2.2.2.1 s.2.2.2.2.2.1 s.2.2.2.2.2.2.1 s.2.2.2.2.2.2.2.1 pl t lb q fr wd r.1 r.2.1 r.2.2=some (outW t lb q fr wd r (lineA lb q fr wd s pl r)):=by
 obtain ⟨k,o,a,b,c,u,e,nm,z⟩:=s
 dsimp only at he ⊢
 unfold Zaf.g
 generalize 1000+_+_+_+_+_+_+_+_+_+_+_+_+_+_+_+_=n
 have J32:∀ (x k o a b c i:Int) (u:Bool),Zaf.j32 n t lb q fr wd r.1 r.2.1 r.2.2 x k o a b c i u=some (outW t lb q fr wd r (match encE k o a b c (i,x,()) u with | .error x=>.error x | .ok w=>.ok (putW r w.1 w.2))):=by
  intro x k o a b c i u
  unfold Zaf.j32 encE
  simp only [dt]
  by_cases hx:x=0
  ·rw [if_neg (by simpa using hx),if_neg (by simpa using hx),ainstr_eq t lb q fr wd r h1 h2,Option.bind_some]
  ·rw [if_pos (by simpa using hx),if_pos (by simpa using hx)]; rfl
 have hof:=aof_eq lb hlb e he
 obtain ⟨v1,v2,x,hv⟩:∃ v1 v2 x,vOf lb e=(v1,v2,x,()):=⟨(vOf lb e).1,(vOf lb e).2.1,(vOf lb e).2.2.1,rfl⟩
 have J1:Zbr.g k o a b c u e nm 0 t lb q fr wd r.1 r.2.1 r.2.2=some (v1,v2,k,o,a,b,c,u,e,nm,(),x,t,lb,q,fr,wd,r.1,r.2.1,r.2.2,()):=by
  unfold Zbr.g Zbr.f
  rw [hof,Option.bind_some,hv]
 unfold Zaf.f lineA wordR
 simp only [dt,Zaf.j12,anum_eq lb hlb e he,Option.bind_some,J1,J32,hv]
 by_cases k0:k=0
 ·rw [if_pos k0,if_pos k0]; rfl
 rw [if_neg k0,if_neg k0]
 by_cases k10:k=10
 ·rw [if_pos k10,if_pos k10,aexport_eq t lb q fr wd r hy hl hlb,Option.bind_some]
 rw [if_neg k10,if_neg k10]
 by_cases k2:k=2
 ·rw [if_pos k2,if_pos k2]
  by_cases o0:o=0
  ·rw [if_pos o0]
   cases u with
   | true=>rw [if_pos rfl,if_pos ⟨o0,rfl⟩]
   | false=>rw [if_neg (by decide),if_neg (fun h=>by cases h.2)]
  ·rw [if_neg o0,if_neg (fun h=>o0 h.1)]
 rw [if_neg k2,if_neg k2]
 by_cases k5:k=5
 ·rw [if_pos k5,if_pos k5]
 rw [if_neg k5,if_neg k5]
 by_cases k7:k=7
 ·rw [if_pos k7,if_pos k7]
  by_cases hx:x=0
  ·rw [if_pos hx,if_neg (by simpa using hx),afar_eq,Option.bind_some]
  ·rw [if_neg hx,if_pos (by simpa using hx)]
   unfold encE
   dsimp only
   rw [if_pos (by simpa using hx)]
 rw [if_neg k7,if_neg k7]
 by_cases k8:k=8
 ·rw [if_pos k8,if_pos k8]
  by_cases hx:x=0
  ·rw [if_pos hx,if_neg (by simpa using hx),pool_eq q v1 v2 hq,Option.bind_some,aadr_eq t lb q fr wd r,Option.bind_some,J32]
  ·rw [if_neg hx,if_pos (by simpa using hx)]
   unfold encE
   dsimp only
   rw [if_pos (by simpa using hx)]
 rw [if_neg k8,if_neg k8]
 by_cases k9:k=9
 ·rw [if_pos k9,if_pos k9]
  unfold Zaf.j29 Zaf.j31
  simp only [dt]
  by_cases hx:x=0
  ·rw [if_pos hx,if_neg (by simpa using hx),aadr_eq t lb q fr wd r,Option.bind_some]
   dsimp only
   by_cases ha:adrV v1 v2 wd=0
   ·rw [if_pos ha,if_neg (by simpa using ha),aword_eq t lb q fr wd r h1 h2,Option.bind_some,ha]; rfl
   ·rw [if_neg ha,if_pos (by simpa using ha)]; rfl
  ·rw [if_neg hx,if_neg hx,if_pos (by simpa using hx)]; rfl
 rw [if_neg k9,if_neg k9]
 unfold encE
 dsimp only
 rw [if_neg (by decide)]
end
end Rv
namespace Rv
open Go
theorem placeR_err:∀ (l:List Ln) (i:Nat) (a:List Int) (lb:List Sym) (c:Nat) {x:Nat×Int},placeR l i a lb c=.error x→x.2=26∧i < x.1∧x.1≤i+l.length
 | [],_,_,_,_,_,h=>by (rw [placeR] at h; cases h)
 | y::r,i,a,lb,c,x,h=>by
  rw [placeR] at h
  split at h
  ·have:=placeR_err r _ _ _ _ h; simp; omega
  ·split at h
   ·cases h; exact ⟨rfl,by show i < i+1; omega,by simp⟩
   ·have:=placeR_err r _ _ _ _ h; simp; omega
theorem loadR_err (lb:List Sym):∀ (l:List Ln) (i:Nat) (p:List Val) {x:Nat×Int},loadR lb l i p=.error x→x.2≠0∧i < x.1∧x.1≤i+l.length∧(l.getD (x.1 - 1 - i) zL).2.1.1=8∧(x.2=27∨x.2=(vOf lb (eL (l.getD (x.1 - 1 - i) zL))).2.2.1)
 | [],_,_,_,h=>by (rw [loadR] at h; cases h)
 | y::r,i,p,x,h=>by
  have step:∀ {q},loadR lb r (i+1) q=.error x→x.2≠0∧i < x.1∧x.1≤i+(y::r).length∧((y::r).getD (x.1 - 1 - i) zL).2.1.1=8∧(x.2=27∨x.2=(vOf lb (eL ((y::r).getD (x.1 - 1 - i) zL))).2.2.1):=fun {q} hq=>by
   obtain ⟨h1,h2,h3,h4,h5⟩:=loadR_err lb r (i+1) q hq
   have e:x.1 - 1 - i=(x.1 - 1 - (i+1))+1:=by omega
   rw [e,List.getD_cons_succ]
   exact ⟨h1,by omega,by simp; omega,h4,h5⟩
  rw [loadR] at h
  split at h
  ·rename_i h8
   split at h
   ·rename_i hne
    cases h
    have e:i+1 - 1 - i=0:=by omega
    dsimp only
    rw [e,List.getD_cons_zero]
    exact ⟨hne,by omega,by simp,h8,.inr rfl⟩
   ·split at h
    ·cases h
     have e:i+1 - 1 - i=0:=by omega
     dsimp only
     rw [e,List.getD_cons_zero]
     exact ⟨by decide,by omega,by simp,h8,.inl rfl⟩
    ·exact step h
  ·exact step h
theorem planR_ways (w:List Ln):(∃ x:Nat×Int,planR w=noPlan x.1 x.2∧x.2≠0∧0 < x.1∧x.1≤w.length∧((∃ y,placeR w 0 [] [] 0=.error y)∨∃ r,placeR w 0 [] [] 0=.ok r∧loadR r.2.1 w 0 []=.error x)) ∨
  ∃ r p,placeR w 0 [] [] 0=.ok r∧loadR r.2.1 w 0 []=.ok p∧planR w=plEnd r.1 r.2.1 r.2.2 (.ok p):=by
 unfold planR plFin
 cases hp:placeR w 0 [] [] 0 with
 | error x=>
  have:=placeR_err _ _ _ _ _ hp
  exact .inl ⟨x,rfl,by omega,by omega,by omega,.inl ⟨x,rfl⟩⟩
 | ok r=>
  dsimp only
  cases hq:loadR r.2.1 w 0 [] with
  | error x=>
   obtain ⟨h1,h2,h3,_⟩:=loadR_err _ _ _ _ hq
   exact .inl ⟨x,rfl,h1,by omega,by omega,.inr ⟨r,rfl,hq⟩⟩
  | ok p=>exact .inr ⟨r,p,rfl,hq,rfl⟩
end Rv
namespace Rv
open Go
end Rv
namespace Rv
open Go
end Rv
