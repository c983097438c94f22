/- Texts put together. -/
import Derived.Test.YtfhnodllolpjgaaGreatDoorY1
import Derived.Test.YtfhnodllolpjgaaGreatDoorH7
import Derived.Test.YtfhnodllolpjgaaGreatDoorH1
import Derived.IntWalk
set_option linter.all false
namespace Rv
open Go Go.Proofs
noncomputable section
set_option maxRecDepth 100000
set_option maxHeartbeats 2000000
variable{ad:LQ}
abbrev u0:Ty:=.pair (.int .i64) (.pair (.int .i64) (.pair .str (.pair (.int .u32) .nil)))
abbrev u1:Ty:=.pair (.int .i64) (.pair (.int .u32) (.pair .str .nil))
abbrev u2:Ty:=.pair .str (.pair (.pair (.int .i64) (.pair (.int .i64) (.pair (.int .i64) (.pair (.int .i64) (.pair (.int .i64) (.pair .bool (.pair (.sl (.pair (.int .i64) (.pair (.int .u32) (.pair .str .nil)))) (.pair .str .nil)))))))) .nil)
abbrev u3:Ty:=.pair .str (.pair (.int .i64) .nil)
abbrev u4:Ty:=.pair (.int .u32) (.pair (.int .i64) .nil)
abbrev u5:Ty:=.pair (.int .i64) (.pair (.int .i64) (.pair (.int .i64) .nil))
abbrev u6:Ty:=.pair (.sl (.int .u32)) (.pair (.sl (.int .i64)) (.pair (.sl (.pair .str (.pair (.int .i64) .nil))) .nil))
abbrev u7:Ty:=.pair (.int .i64) (.pair (.int .i64) (.pair (.int .i64) (.pair (.int .i64) (.pair (.int .i64) (.pair .bool (.pair (.sl (.pair (.int .i64) (.pair (.int .u32) (.pair .str .nil)))) (.pair .str .nil)))))))
abbrev u8:Ty:=.pair (.sl (.int .i64)) (.pair (.sl (.pair .str (.pair (.int .i64) .nil))) (.pair (.sl (.pair (.int .u32) (.pair (.int .i64) .nil))) (.pair (.int .i64) (.pair (.int .i64) .nil))))
abbrev u9:Ty:=.pair (.pair (.sl (.int .i64)) (.pair (.sl (.pair .str (.pair (.int .i64) .nil))) (.pair (.sl (.pair (.int .u32) (.pair (.int .i64) .nil))) (.pair (.int .i64) (.pair (.int .i64) .nil))))) (.pair (.pair (.sl (.int .u32)) (.pair (.sl (.int .i64)) (.pair (.sl (.pair .str (.pair (.int .i64) .nil))) .nil))) .nil)
abbrev u10:Ty:=.pair (.int .i64) (.pair (.int .i64) (.pair (.int .i64) (.pair (.int .i64) (.pair (.int .i64) (.pair (.int .i64) (.pair .bool .nil))))))
abbrev u11:Ty:=.pair .fn (.pair .fn .nil)
abbrev u12:Ty:=.pair (.int .i64) (.pair (.int .i64) .nil)
abbrev u13:Ty:=.pair (.sl (.pair (.int .i64) (.pair (.int .i64) (.pair .str (.pair (.int .u32) .nil))))) (.pair (.int .i64) (.pair (.int .i64) .nil))
abbrev u14:Ty:=.pair (.sl (.pair (.int .i64) (.pair (.int .i64) (.pair .str (.pair (.int .u32) .nil))))) (.pair (.int .i64) (.pair (.sl (.pair (.int .i64) (.pair (.int .u32) (.pair .str .nil)))) (.pair (.int .i64) .nil)))
abbrev c0:List CD:=[ki,ki,ki,ki,ki,.bool,.sl u1,.str]
abbrev c1:List CD:=[.sl u0,ki,.row 44 u1,ki]
abbrev c2:List CD:=[.str,ki,ki,ki,ki,ki,.bool,.sl u1,.str]
abbrev c3:List CD:=[.row 3 (.int .i64),.row 75 u3,.sl u4,ki,ki]
abbrev c4:List CD:=[.sl (.int .i64),.sl u3,.sl u4,ki,ki,.row 42 (.int .u32),.row 3 (.int .i64),.row 75 u3]
abbrev c5:List CD:=[ki,ki,ki,ki,ki,ki,.bool]
abbrev c6:List CD:=[.row 42 (.int .u32),.row 3 (.int .i64),.row 75 u3]
abbrev c7:List CD:=[.sl (.int .i64),.sl u3,.sl u4,ki,ki]
abbrev c8:List CD:=[.sl (.int .u32),.sl (.int .i64),.sl u3]
def types:List (TypeId×TI):=[
 tI 2 .i64 8,
 tI 3 .i64 8,
 tB 4 1,
 tI 5 .u8 1,
 tS 9 16,
 tI 21 .i32 4,
 tL 22 41 u2,
 tL 24 42 (.int .u32),
 tL 25 3 (.int .i64),
 tL 26 75 u3,
 (28,⟨3,true,72,[.nilS,.nilS,.nilS],[(0,1,false),(1,1,false),(2,1,false)],none,some u6,none,false,false,false,none,none⟩),
 tI 29 .i64 8,
 tL 37 44 u1,
 (39,⟨8,true,88,[.int .i64 0,.int .i64 0,.int .i64 0,.int .i64 0,.int .i64 0,.bool false,.nilS,.str []],[(0,1,false),(1,1,false),(2,1,false),(3,1,false),(4,1,false),(5,1,false),(6,1,false),(7,1,false)],none,some u7,none,false,false,false,none,none⟩),
 (41,⟨9,true,104,[.str [],.int .i64 0,.int .i64 0,.int .i64 0,.int .i64 0,.int .i64 0,.bool false,.nilS,.str []],[(0,1,false),(1,8,true)],none,some u2,none,false,false,false,none,none⟩),
 tI 42 .u32 4,
 (44,⟨3,true,32,[.int .i64 0,.int .u32 0,.str []],[(0,1,false),(1,1,false),(2,1,false)],none,some u1,none,false,false,false,none,none⟩),
 tL 53 5 (.int .u8),
 tL 60 70 u4,
 (62,⟨5,true,88,[.nilS,.nilS,.nilS,.int .i64 0,.int .i64 0],[(0,1,false),(1,1,false),(2,1,false),(3,1,false),(4,1,false)],none,some u8,none,false,false,false,none,none⟩),
 (65,⟨1,false,8,[.raw (.pointer none)],[],none,none,none,false,false,false,none,none⟩),
 (67,⟨8,true,160,[.nilS,.nilS,.nilS,.int .i64 0,.int .i64 0,.nilS,.nilS,.nilS],[(0,5,true),(5,3,true)],none,some u9,none,false,false,false,none,none⟩),
 (70,⟨2,true,16,[.int .u32 0,.int .i64 0],[(0,1,false),(1,1,false)],none,some u4,none,false,false,false,some u4,none⟩),
 (75,⟨2,true,24,[.str [],.int .i64 0],[(0,1,false),(1,1,false)],none,some u3,none,false,false,false,some u3,none⟩),
 tL 81 9 .str,
 tL 106 167 u0,
 (112,⟨1,false,8,[.raw .nilFunc],[],none,some .fn,none,false,false,false,none,none⟩),
 tL 117 112 .fn,
 (121,⟨7,true,56,[.int .i64 0,.int .i64 0,.int .i64 0,.int .i64 0,.int .i64 0,.int .i64 0,.bool false],[(0,1,false),(1,1,false),(2,1,false),(3,1,false),(4,1,false),(5,1,false),(6,1,false)],none,some u10,none,false,false,false,some u10,none⟩),
 tL 142 147 u11,
 (144,⟨1,false,8,[.raw .nilFunc],[],none,some .fn,none,false,false,false,none,none⟩),
 (147,⟨2,true,16,[.raw .nilFunc,.raw .nilFunc],[(0,1,false),(1,1,false)],none,some u11,none,false,false,false,none,none⟩),
 (153,⟨1,false,16,[.raw .nilIface],[],none,none,none,false,true,false,none,none⟩),
 tI 158 .u64 8,
 (167,⟨4,true,40,[.int .i64 0,.int .i64 0,.str [],.int .u32 0],[(0,1,false),(1,1,false),(2,1,false),(3,1,false)],none,some u0,none,false,false,false,none,none⟩),
 tL 177 70 u4,
 (185,⟨2,true,16,[.int .i64 0,.int .i64 0],[],none,some u12,none,false,false,false,none,some 2⟩),
 (192,⟨3,true,40,[.nilS,.int .i64 0,.int .i64 0],[(0,1,false),(1,1,false),(2,1,false)],none,some u13,none,false,false,false,none,none⟩),
 (203,⟨1,false,8,[.raw .nilFunc],[],none,some .fn,none,false,false,false,none,none⟩),
 tI 229 .u64 8,
 (243,⟨3,true,24,[.int .i64 0,.int .i64 0,.int .i64 0],[],none,some u5,none,false,false,false,none,some 3⟩),
 (253,⟨1,false,8,[.raw (.pointer none)],[],none,none,none,false,false,false,none,none⟩),
 (255,⟨4,true,64,[.nilS,.int .i64 0,.nilS,.int .i64 0],[(0,1,false),(1,1,false),(2,1,false),(3,1,false)],none,some u14,none,false,false,false,none,none⟩),
 tL 266 243 u5,
 tI 273 .i64 8]
theorem iC:(types.all fun p=>jw P p.1 p.2)=true:=by kernel_rfl
def internal_strconv_underscoreOK.T(ad:LQ):TF P (LW ad):=⟨242,[],internal_strconv_underscoreOK.sp,internal_strconv_underscoreOK.sat,internal_strconv_underscoreOK.enter⟩
def strconv_toError.T(ad:LQ):TF P (LW ad):=⟨218,[],strconv_toError.sp,strconv_toError.sat,strconv_toError.enter⟩
def strings_CutPrefix.T(ad:LQ):TF P (LW ad):=⟨181,[],strings_CutPrefix.sp,strings_CutPrefix.sat,strings_CutPrefix.enter⟩
def strings_Contains.T(ad:LQ):TF P (LW ad):=⟨182,[],strings_Contains.sp,strings_Contains.sat,strings_Contains.enter⟩
def strings_IndexByte.T(ad:LQ):TF P (LW ad):=⟨138,[],strings_IndexByte.sp,strings_IndexByte.sat,strings_IndexByte.enter⟩
def strings_Trim.T(ad:LQ):TF P (LW ad):=⟨106,[],strings_Trim.sp,strings_Trim.sat,strings_Trim.enter⟩
def strconv_Itoa.T(ad:LQ):TF P (LW ad):=⟨187,[],strconv_Itoa.sp,strconv_Itoa.sat,strconv_Itoa.enter⟩
def name_Of.T(ad:LQ):TF P (LW ad):=⟨140,[],name_Of.sp,name_Of.sat,name_Of.enter⟩
def stmt_operands.T(ad:LQ):TF P (LW ad):=⟨97,[],stmt_operands.sp,stmt_operands.sat,stmt_operands.enter⟩
def strings_Split.T(ad:LQ):TF P (LW ad):=⟨36,[],strings_Split.sp,strings_Split.sat,strings_Split.enter⟩
def strings_Compare.T(ad:LQ):TF P (LW ad):=⟨125,[],strings_Compare.sp,strings_Compare.sat,strings_Compare.enter⟩
def slices_Insert_api_Sym_api_Sym.T(ad:LQ):TF P (LW ad):=⟨126,[],slices_Insert_api_Sym_api_Sym.sp,slices_Insert_api_Sym_api_Sym.sat,slices_Insert_api_Sym_api_Sym.enter⟩
def slices_Clone_uint32_uint32.T(ad:LQ):TF P (LW ad):=⟨101,[],slices_Clone_uint32_uint32.sp,slices_Clone_uint32_uint32.sat,slices_Clone_uint32_uint32.enter⟩
def chain_Unpack.T(ad:LQ):TF P (LW ad):=⟨51,[],chain_Unpack.sp,chain_Unpack.sat,chain_Unpack.enter⟩
def mkF(ad:LQ):=@mkT P (LW ad) types mixed iC maps iY
def Nu(ad:LQ):=@Mo P (LW ad) types mixed iC maps iY
namespace Zcb
def sp:Spec:=aj ⟨[(0,Sb)],[]⟩ ⟨[(0,SB)],[]⟩ g
noncomputable def T(ad:LQ):=mkF ad 134 [] sp [] t0 t0 t0 21 [] f (fun a=>1000+a.toNat) (by kernel_rfl)
end Zcb
namespace Zck
def sp:Spec:=aj ⟨[(0,Sb)],[]⟩ ⟨[(0,SB)],[]⟩ g
noncomputable def T(ad:LQ):=mkF ad 136 [] sp [] t0 t0 t0 9 [] f (fun a=>1000+a.toNat) (by kernel_rfl)
end Zck
namespace Zak
def sp:Spec:=aj ⟨[(0,Ss)],[]⟩ ⟨[(0,Ss)],[]⟩ g
noncomputable def T(ad:LQ):=mkF ad 135 [] sp [Zcb.T ad,Zck.T ad] (fun n=>tj 3 ⟨[(0,Ss),(3,Si)],[]⟩ (fun ms=>j3 n (l2 n ms.head!)) <| tj 4 ⟨[(0,Ss),(3,Si)],[]⟩ (fun _=>j4 n) <| tn) (fun n=>tl 2 ⟨[(0,Ss),(3,Si)],[]⟩ (fun _=>l2 n) <| tn) t0 25 [] f (fun a=>1000+a.length) (by kernel_rfl)
end Zak
namespace Zah
def sp:Spec:=aj ⟨[(0,Sb)],[]⟩ ⟨[(0,Sb)],[]⟩ g
noncomputable def T(ad:LQ):=mkF ad 241 [] sp [] t0 t0 t0 5 [] f (fun a=>1000+a.toNat) (by kernel_rfl)
end Zah
namespace Zaa
def sp:Spec:=aj ⟨[(0,Ss),(1,Si),(2,Si)],[]⟩ ⟨[(0,.c kq),(1,.c (.ifo 273 .i64))],[]⟩ g
noncomputable def T(ad:LQ):=mkF ad 217 [] sp [Zah.T ad,internal_strconv_underscoreOK.T ad] (fun n=>tj 55 ⟨[(1,Si),(8,SB),(9,Ss),(10,.c kq),(11,.c kq),(12,SB),(13,.c kq),(99,.c (.sl (.int .u8))),(100,Si),(101,Si)],[]⟩ (fun ms=>j55 n (l36 n ms.head!)) <| tj 46 ⟨[(1,Si),(8,SB),(9,Ss),(10,.c kq),(11,.c kq),(12,SB),(13,.c kq),(16,Sb),(99,.c (.sl (.int .u8))),(100,Si),(101,Si)],[]⟩ (fun ms=>j46 n (l36 n ms.head!)) <| tj 32 ⟨[(0,Ss),(1,Si),(2,Si),(8,SB),(9,Ss),(10,.c kq)],[]⟩ (fun _=>j32 n) <| tj 25 ⟨[(0,Ss),(1,Si),(2,Si),(8,SB),(9,Ss)],[]⟩ (fun _=>j25 n) <| tj 21 ⟨[(0,Ss),(1,Si),(2,Si),(8,SB),(9,Ss)],[]⟩ (fun _=>j21 n) <| tj 17 ⟨[(0,Ss),(1,Si),(2,Si),(8,SB),(9,Ss)],[]⟩ (fun _=>j17 n) <| tj 20 ⟨[(0,Ss),(1,Si),(2,Si),(8,SB),(9,Ss)],[]⟩ (fun _=>j20 n) <| tj 11 ⟨[(0,Ss),(1,Si),(2,Si),(8,SB),(9,Ss)],[]⟩ (fun _=>j11 n) <| tj 9 ⟨[(0,Ss),(1,Si),(2,Si),(8,SB),(9,Ss)],[]⟩ (fun _=>j9 n) <| tn) (fun n=>tl 36 ⟨[(1,Si),(8,SB),(9,Ss),(10,.c kq),(11,.c kq),(12,SB),(13,.c kq),(99,.c (.sl (.int .u8))),(100,Si),(101,Si)],[]⟩ (fun _=>l36 n) <| tn) t0 172 [] f (fun a b c=>1000+a.length+b.toNat+c.toNat) (by kernel_rfl)
end Zaa
namespace Zcc
def sp:Spec:=aj ⟨[(0,Ss),(1,Si),(2,Si)],[]⟩ ⟨[(0,.c kq),(1,Se)],[]⟩ g
noncomputable def T(ad:LQ):=mkF ad 183 [] sp [Zaa.T ad,strconv_toError.T ad] t0 t0 t0 26 [] f (fun a b c=>1000+a.length+b.toNat+c.toNat) (by kernel_rfl)
end Zcc
namespace Zbe
def sp:Spec:=aj ⟨[(0,Ss)],[]⟩ ⟨[(0,Su),(1,SB)],[]⟩ g
noncomputable def T(ad:LQ):=mkF ad 137 [] sp [strings_CutPrefix.T ad,strings_Contains.T ad,Zcc.T ad] (fun n=>tj 5 ⟨[(0,Ss),(4,Si)],[]⟩ (fun _=>j5 n) <| tn) t0 t0 28 [] f (fun a=>1000+a.length) (by kernel_rfl)
end Zbe
namespace Zae
def sp:Spec:=aj ⟨[(0,Ss)],[]⟩ ⟨[(0,.c (.row 167 u0)),(1,Si)],[]⟩ g
noncomputable def T(ad:LQ):=mkF ad 90 [] sp [Zcb.T ad,Zak.T ad,Zck.T ad,Zbe.T ad,strings_IndexByte.T ad] (fun n=>tj 23 ⟨[(0,Ss),(4,.c (.row 167 u0)),(5,Si),(6,Sp 0 0)],[(some 3,[ki,ki,.str,ku])]⟩ (fun ms=>j23 n (g0 n ms.head!)) <| tn) t0 (fun n=>tl 0 ⟨[(0,Ss),(4,.c (.row 167 u0)),(5,Si)],[]⟩ (fun _=>g0 n) <| tn) 108 [] f (fun a=>1000+a.length) (by kernel_rfl)
end Zae
namespace Zac
def sp:Spec:=aj ⟨[(0,Ss)],[]⟩ ⟨[(0,SB)],[]⟩ g
noncomputable def T(ad:LQ):=mkF ad 92 [] sp [strings_Trim.T ad] (fun n=>tj 9 ⟨[(0,Ss),(24,Si),(25,Si)],[]⟩ (fun ms=>j9 n (l4 n ms.head!)) <| tj 3 ⟨[(0,Ss)],[]⟩ (fun _=>j3 n) <| tn) (fun n=>tl 4 ⟨[(0,Ss),(24,Si),(25,Si)],[]⟩ (fun _=>l4 n) <| tn) t0 84 [] f (fun a=>1000+a.length) (by kernel_rfl)
end Zac
namespace Zao
def sp:Spec:=aj ⟨[(0,Sp 0 0),(1,SB)],[(some 0,[.sl u0,ki,ki])]⟩ ⟨[],[(none,[.sl u0,ki,ki])]⟩ g
noncomputable def T(ad:LQ):=mkF ad 139 [] sp [] t0 t0 t0 16 [] f (fun _ b c d=>1000+b.length+c.toNat+d.toNat) (by kernel_rfl)
end Zao
namespace Zdb
def sp:Spec:=aj ⟨[(0,Si)],[]⟩ ⟨[(0,SB)],[]⟩ g
noncomputable def T(ad:LQ):=mkF ad 96 [] sp [] t0 t0 t0 9 [] f (fun a=>1000+a.toNat) (by kernel_rfl)
end Zdb
namespace Zcm
def sp:Spec:=aj ⟨[(0,Sp 0 0),(1,Si)],[(some 0,[.sl u0,ki,ki])]⟩ ⟨[(0,Ss)],[(none,[.sl u0,ki,ki])]⟩ g
noncomputable def T(ad:LQ):=mkF ad 185 [] sp [] t0 t0 t0 48 [] f (fun a b c d=>1000+a.toNat+b.length+c.toNat+d.toNat) (by kernel_rfl)
end Zcm
namespace Zbg
def sp:Spec:=aj ⟨[(0,Sp 0 0),(1,Si)],[(some 0,[.sl u0,ki,ki])]⟩ ⟨[(0,Ss)],[(none,[.sl u0,ki,ki])]⟩ g
noncomputable def T(ad:LQ):=mkF ad 141 [] sp [Zcm.T ad] t0 t0 t0 17 [] f (fun a b c d=>1000+a.toNat+b.length+c.toNat+d.toNat) (by kernel_rfl)
end Zbg
namespace Zaf
def sp:Spec:=aj ⟨[(0,Ss),(1,Si),(2,Si)],[]⟩ ⟨[(0,Si),(1,.c (.ifo 273 .i64))],[]⟩ g
noncomputable def T(ad:LQ):=mkF ad 266 [] sp [Zaa.T ad] (fun n=>tj 21 ⟨[(8,SB),(9,.c kq)],[]⟩ (fun _=>j21 n) <| tj 19 ⟨[(8,SB),(9,.c kq),(10,.c kq)],[]⟩ (fun _=>j19 n) <| tj 16 ⟨[(2,Si),(8,SB),(9,.c kq)],[]⟩ (fun _=>j16 n) <| tj 14 ⟨[(2,Si),(8,SB),(9,.c kq)],[]⟩ (fun _=>j14 n) <| tj 10 ⟨[(0,Ss),(1,Si),(2,Si),(8,SB)],[]⟩ (fun _=>j10 n) <| tn) t0 t0 73 [] f (fun a b c=>1000+a.length+b.toNat+c.toNat) (by kernel_rfl)
end Zaf
namespace Zal
def sp:Spec:=aj ⟨[(0,Ss)],[]⟩ ⟨[(0,Si),(1,.c (.ifo 273 .i64))],[]⟩ g
noncomputable def T(ad:LQ):=mkF ad 247 [] sp [Zaf.T ad] (fun n=>tj 8 ⟨[(0,Ss),(5,Ss)],[]⟩ (fun _=>j8 n) <| tj 6 ⟨[(0,Ss),(5,Ss)],[]⟩ (fun _=>j6 n) <| tj 20 ⟨[(0,Ss)],[]⟩ (fun _=>j20 n) <| tn) (fun n=>tl 10 ⟨[(5,Ss),(6,Si),(47,.c (.sl (.int .u8))),(48,Si),(49,Si)],[]⟩ (fun _=>l10 n) <| tn) t0 77 [] f (fun a=>1000+a.length) (by kernel_rfl)
end Zal
namespace Zcx
def sp:Spec:=aj ⟨[(0,Ss)],[]⟩ ⟨[(0,Si),(1,Se)],[]⟩ g
noncomputable def T(ad:LQ):=mkF ad 220 [] sp [Zal.T ad,strconv_toError.T ad] t0 t0 t0 18 [] f (fun a=>1000+a.length) (by kernel_rfl)
end Zcx
namespace Zcd
def sp:Spec:=aj ⟨[(0,Si)],[]⟩ ⟨[(0,Ss)],[]⟩ g
noncomputable def T(ad:LQ):=mkF ad 144 [] sp [strconv_Itoa.T ad] t0 t0 t0 12 [] f (fun a=>1000+a.toNat) (by kernel_rfl)
end Zcd
namespace Zbp
def sp:Spec:=aj ⟨[(0,Ss)],[]⟩ ⟨[(0,Si),(1,SB)],[]⟩ g
noncomputable def T(ad:LQ):=mkF ad 186 [] sp [strings_CutPrefix.T ad,Zcx.T ad,Zcd.T ad] t0 t0 t0 31 [] f (fun a=>1000+a.length) (by kernel_rfl)
end Zbp
namespace Zdc
def sp:Spec:=aj ⟨[(0,Sp 0 0),(1,Sp 1 0)],[(some 0,[.sl u0,ki,ki]),(some 1,c0)]⟩ ⟨[],[(none,[.sl u0,ki,ki]),(none,c0)]⟩ g
noncomputable def T(ad:LQ):=mkF ad 142 [] sp [Zcm.T ad,Zbp.T ad] t0 t0 t0 50 [] f (fun a b c d e i j k _ o p=>1000+a.length+b.toNat+c.toNat+d.toNat+e.toNat+i.toNat+j.toNat+k.toNat+o.length+p.length) (by kernel_rfl)
end Zdc
namespace Zdz
def sp:Spec:=aj ⟨[(0,Sp 0 0)],[(some 0,c0)]⟩ ⟨[(0,Sp 0 2)],[(none,c0)]⟩ g
noncomputable def T(ad:LQ):=mkF ad 148 [] sp [] t0 t0 t0 6 [] f (fun a b c d e _ j k=>1000+a.toNat+b.toNat+c.toNat+d.toNat+e.toNat+j.length+k.length) (by kernel_rfl)
end Zdz
namespace Zea
def sp:Spec:=aj ⟨[(0,Sp 0 0)],[(some 0,c0)]⟩ ⟨[(0,Sp 0 3)],[(none,c0)]⟩ g
noncomputable def T(ad:LQ):=mkF ad 149 [] sp [] t0 t0 t0 6 [] f (fun a b c d e _ j k=>1000+a.toNat+b.toNat+c.toNat+d.toNat+e.toNat+j.length+k.length) (by kernel_rfl)
end Zea
namespace Zeb
def sp:Spec:=aj ⟨[(0,Sp 0 0)],[(some 0,c0)]⟩ ⟨[(0,Sp 0 4)],[(none,c0)]⟩ g
noncomputable def T(ad:LQ):=mkF ad 150 [] sp [] t0 t0 t0 6 [] f (fun a b c d e _ j k=>1000+a.toNat+b.toNat+c.toNat+d.toNat+e.toNat+j.length+k.length) (by kernel_rfl)
end Zeb
namespace Zcn
def sp:Spec:=aj ⟨[(0,Sp 0 0),(1,Sp 1 0),(2,.c (.pp .fn))],[(some 0,[.sl u0,ki,ki]),(some 1,c0)]⟩ ⟨[],[(none,[.sl u0,ki,ki]),(none,c0)]⟩ g
noncomputable def T(ad:LQ):=mkF ad 193 [] sp [Zbg.T ad,Zbp.T ad,Zao.T ad,Zdz.T ad,Zea.T ad,Zeb.T ad] t0 t0 t0 21 [K.atA,K.atB,K.atC] f (fun _ b c d e i j k l _ p q=>1000+b.length+c.toNat+d.toNat+e.toNat+i.toNat+j.toNat+k.toNat+l.toNat+p.length+q.length) (by kernel_rfl)
end Zcn
namespace Zaq
def sp:Spec:=aj ⟨[(0,Sp 0 0),(1,Si)],[(some 0,c1)]⟩ ⟨[],[(none,c1)]⟩ g
noncomputable def T(ad:LQ):=mkF ad 275 [] sp [] t0 t0 t0 13 [] f (fun a b c d e=>1000+a.toNat+b.length+c.toNat+d.length+e.toNat) (by kernel_rfl)
end Zaq
namespace Zau
def sp:Spec:=aj ⟨[(0,Sp 0 0)],[(some 0,c1)]⟩ ⟨[(0,.agg [ki,ki,.str,ku]),(1,SB)],[(none,c1)]⟩ g
noncomputable def T(ad:LQ):=mkF ad 276 [] sp [] t0 t0 t0 39 [] f (fun a b c d=>1000+a.length+b.toNat+c.length+d.toNat) (by kernel_rfl)
end Zau
namespace Zag
def sp:Spec:=aj ⟨[(0,Sp 0 0),(1,.c (.sl .str))],[(some 0,c1)]⟩ ⟨[(0,Ss),(1,SB)],[(none,c1)]⟩ g
noncomputable def T(ad:LQ):=mkF ad 273 [] sp [Zau.T ad] (fun n=>tj 8 ⟨[(0,Sp 0 0),(6,Sp 1 0),(7,SB),(15,.c (.sl .str)),(16,Si),(17,Si)],[(none,c1),(some 1,[ki,ki,.str,ku])]⟩ (fun ms=>j8 n (l3 n ms.head!)) <| tn) (fun n=>tl 3 ⟨[(0,Sp 0 0),(6,Sp 1 0),(7,SB),(15,.c (.sl .str)),(16,Si),(17,Si)],[(none,c1),(some 1,[ki,ki,.str,ku])]⟩ (fun _=>l3 n) <| tn) t0 42 [] f (fun a b c d e=>1000+a.length+b.length+c.toNat+d.length+e.toNat) (by kernel_rfl)
end Zag
namespace Zar
def sp:Spec:=aj ⟨[(0,Sp 0 0),(1,.agg [ki,ku,.str])],[(some 0,c1)]⟩ ⟨[],[(none,c1)]⟩ g
noncomputable def T(ad:LQ):=mkF ad 274 [] sp [] t0 t0 t0 14 [] f (fun a b c d e i j=>1000+a.toNat+b.toNat+c.length+d.length+e.toNat+i.length+j.toNat) (by kernel_rfl)
end Zar
def expr_parser_sum.spq(q:Nat):Spec:=aj ⟨[(0,Sp 0 0),(1,Si)],[(some 0,c1)]⟩ ⟨[],[(none,c1)]⟩ (af q).expr_parser_sum
def expr_parser_row_c256.spq(q:Nat):Spec:=aj ⟨[(0,Sp 0 0),(1,.clo 256 [.ptr 1 0,.ptr 2 0]),(2,.c (.sl .str))],[(some 0,c1),(some 1,[.ptr 0 0]),(some 2,[ki])]⟩ ⟨[],[(none,c1),(none,[.ptr 0 0]),(none,[ki])]⟩ (af q).expr_parser_row_c256
def expr_parser_sum_1.spq(q:Nat):Spec:=aj ⟨[(0,Sp 0 0),(1,Sp 1 0)],[(some 0,[.ptr 2 0]),(some 1,[ki]),(some 2,c1)]⟩ ⟨[],[(none,[.ptr 2 0]),(none,[ki]),(none,c1)]⟩ (af q).expr_parser_sum_1
def expr_parser_row_c257.spq(q:Nat):Spec:=aj ⟨[(0,Sp 0 0),(1,.clo 257 [.ptr 1 0,.ptr 2 0]),(2,.c (.sl .str))],[(some 0,c1),(some 1,[.ptr 0 0]),(some 2,[ki])]⟩ ⟨[],[(none,c1),(none,[.ptr 0 0]),(none,[ki])]⟩ (af q).expr_parser_row_c257
def expr_parser_sum_1_1.spq(q:Nat):Spec:=aj ⟨[(0,Sp 0 0),(1,Sp 1 0)],[(some 0,[.ptr 2 0]),(some 1,[ki]),(some 2,c1)]⟩ ⟨[],[(none,[.ptr 2 0]),(none,[ki]),(none,c1)]⟩ (af q).expr_parser_sum_1_1
def expr_parser_factor.spq(q:Nat):Spec:=aj ⟨[(0,Sp 0 0),(1,Si)],[(some 0,c1)]⟩ ⟨[],[(none,c1)]⟩ (af q).expr_parser_factor
namespace expr_parser_sum
theorem step(q:Nat)(ih:Sat P (LW ad) 229 (expr_parser_sum.spq q)/\Sat P (LW ad) 255 (expr_parser_row_c256.spq q)/\Sat P (LW ad) 256 (expr_parser_sum_1.spq q)/\Sat P (LW ad) 255 (expr_parser_row_c257.spq q)/\Sat P (LW ad) 257 (expr_parser_sum_1_1.spq q)/\Sat P (LW ad) 258 (expr_parser_factor.spq q)/\True):Sat P (LW ad) 229 (spq (q+1)):=pM mixed iC iY 229 (spq (q+1)) [((255,[256]),expr_parser_row_c256.spq q)] (eY ih.2.1 (aL (by kernel_rfl)) iA) t0 t0 t0 8 [] (fun n=>f n (af q)) (fun a b c d e=>1000+a.toNat+b.length+c.toNat+d.length+e.toNat) (by kernel_rfl) (by kernel_rfl)
end expr_parser_sum
namespace expr_parser_row_c256
theorem step(q:Nat)(ih:Sat P (LW ad) 229 (expr_parser_sum.spq q)/\Sat P (LW ad) 255 (expr_parser_row_c256.spq q)/\Sat P (LW ad) 256 (expr_parser_sum_1.spq q)/\Sat P (LW ad) 255 (expr_parser_row_c257.spq q)/\Sat P (LW ad) 257 (expr_parser_sum_1_1.spq q)/\Sat P (LW ad) 258 (expr_parser_factor.spq q)/\True):Sat P (LW ad) 255 (spq (q+1)):=pM mixed iC iY 255 (spq (q+1)) [((256,[]),expr_parser_sum_1.spq q),(Zag.T ad).kv,(Zar.T ad).kv] (eY ih.2.2.1 (aL (by kernel_rfl)) (gT (Zag.T ad) (gT (Zar.T ad) iA))) t0 (fun n=>tl 1 ⟨[(0,Sp 0 0),(1,.clo 256 [.ptr 1 0,.ptr 2 0]),(2,.c (.sl .str))],[(none,c1),(none,[.ptr 0 0]),(none,[ki])]⟩ (fun _=>l1 n (af q)) <| tn) t0 26 [] (fun n=>f n (af q)) (fun a b c d e i=>1000+a.length+b.length+c.toNat+d.length+e.toNat+i.toNat) (by kernel_rfl) (by kernel_rfl)
end expr_parser_row_c256
namespace expr_parser_sum_1
theorem step(q:Nat)(ih:Sat P (LW ad) 229 (expr_parser_sum.spq q)/\Sat P (LW ad) 255 (expr_parser_row_c256.spq q)/\Sat P (LW ad) 256 (expr_parser_sum_1.spq q)/\Sat P (LW ad) 255 (expr_parser_row_c257.spq q)/\Sat P (LW ad) 257 (expr_parser_sum_1_1.spq q)/\Sat P (LW ad) 258 (expr_parser_factor.spq q)/\True):Sat P (LW ad) 256 (spq (q+1)):=pM mixed iC iY 256 (spq (q+1)) [((255,[257]),expr_parser_row_c257.spq q)] (eY ih.2.2.2.1 (aL (by kernel_rfl)) iA) t0 t0 t0 6 [] (fun n=>f n (af q)) (fun a b c d e=>1000+a.toNat+b.length+c.toNat+d.length+e.toNat) (by kernel_rfl) (by kernel_rfl)
end expr_parser_sum_1
namespace expr_parser_row_c257
theorem step(q:Nat)(ih:Sat P (LW ad) 229 (expr_parser_sum.spq q)/\Sat P (LW ad) 255 (expr_parser_row_c256.spq q)/\Sat P (LW ad) 256 (expr_parser_sum_1.spq q)/\Sat P (LW ad) 255 (expr_parser_row_c257.spq q)/\Sat P (LW ad) 257 (expr_parser_sum_1_1.spq q)/\Sat P (LW ad) 258 (expr_parser_factor.spq q)/\True):Sat P (LW ad) 255 (spq (q+1)):=pM mixed iC iY 255 (spq (q+1)) [((257,[]),expr_parser_sum_1_1.spq q),(Zag.T ad).kv,(Zar.T ad).kv] (eY ih.2.2.2.2.1 (aL (by kernel_rfl)) (gT (Zag.T ad) (gT (Zar.T ad) iA))) t0 (fun n=>tl 1 ⟨[(0,Sp 0 0),(1,.clo 257 [.ptr 1 0,.ptr 2 0]),(2,.c (.sl .str))],[(none,c1),(none,[.ptr 0 0]),(none,[ki])]⟩ (fun _=>l1 n (af q)) <| tn) t0 26 [] (fun n=>f n (af q)) (fun a b c d e i=>1000+a.length+b.length+c.toNat+d.length+e.toNat+i.toNat) (by kernel_rfl) (by kernel_rfl)
end expr_parser_row_c257
namespace expr_parser_sum_1_1
theorem step(q:Nat)(ih:Sat P (LW ad) 229 (expr_parser_sum.spq q)/\Sat P (LW ad) 255 (expr_parser_row_c256.spq q)/\Sat P (LW ad) 256 (expr_parser_sum_1.spq q)/\Sat P (LW ad) 255 (expr_parser_row_c257.spq q)/\Sat P (LW ad) 257 (expr_parser_sum_1_1.spq q)/\Sat P (LW ad) 258 (expr_parser_factor.spq q)/\True):Sat P (LW ad) 257 (spq (q+1)):=pM mixed iC iY 257 (spq (q+1)) [((258,[]),expr_parser_factor.spq q)] (eY ih.2.2.2.2.2.1 (aL (by kernel_rfl)) iA) t0 t0 t0 5 [] (fun n=>f n (af q)) (fun a b c d e=>1000+a.toNat+b.length+c.toNat+d.length+e.toNat) (by kernel_rfl) (by kernel_rfl)
end expr_parser_sum_1_1
namespace expr_parser_factor
theorem step(q:Nat)(ih:Sat P (LW ad) 229 (expr_parser_sum.spq q)/\Sat P (LW ad) 255 (expr_parser_row_c256.spq q)/\Sat P (LW ad) 256 (expr_parser_sum_1.spq q)/\Sat P (LW ad) 255 (expr_parser_row_c257.spq q)/\Sat P (LW ad) 257 (expr_parser_sum_1_1.spq q)/\Sat P (LW ad) 258 (expr_parser_factor.spq q)/\True):Sat P (LW ad) 258 (spq (q+1)):=pM mixed iC iY 258 (spq (q+1)) [(Zaq.T ad).kv,(Zag.T ad).kv,((258,[]),expr_parser_factor.spq q),(Zar.T ad).kv,((229,[]),expr_parser_sum.spq q),(Zau.T ad).kv,(Zac.T ad).kv] (gT (Zaq.T ad) (gT (Zag.T ad) (eY ih.2.2.2.2.2.1 (aL (by kernel_rfl)) (gT (Zar.T ad) (eY ih.1 (aL (by kernel_rfl)) (gT (Zau.T ad) (gT (Zac.T ad) iA))))))) (fun n=>tj 19 ⟨[(0,Sp 0 0)],[(none,c1)]⟩ (fun _=>j19 n (af q)) <| tn) t0 t0 94 [] (fun n=>f n (af q)) (fun a b c d e=>1000+a.toNat+b.length+c.toNat+d.length+e.toNat) (by kernel_rfl) (by kernel_rfl)
end expr_parser_factor
theorem aF:∀q,Sat P (LW ad) 229 (expr_parser_sum.spq q)/\Sat P (LW ad) 255 (expr_parser_row_c256.spq q)/\Sat P (LW ad) 256 (expr_parser_sum_1.spq q)/\Sat P (LW ad) 255 (expr_parser_row_c257.spq q)/\Sat P (LW ad) 257 (expr_parser_sum_1_1.spq q)/\Sat P (LW ad) 258 (expr_parser_factor.spq q)/\True
 |0=>⟨jI fun _=>rfl,jI fun _=>rfl,jI fun _=>rfl,jI fun _=>rfl,jI fun _=>rfl,jI fun _=>rfl,trivial⟩
 |q+1=>⟨expr_parser_sum.step q (aF q),expr_parser_row_c256.step q (aF q),expr_parser_sum_1.step q (aF q),expr_parser_row_c257.step q (aF q),expr_parser_sum_1_1.step q (aF q),expr_parser_factor.step q (aF q),trivial⟩
def expr_parser_sum.sp:Spec:=aj ⟨[(0,Sp 0 0),(1,Si)],[(some 0,c1)]⟩ ⟨[],[(none,c1)]⟩ expr_parser_sum.g
noncomputable def expr_parser_sum.T(ad:LQ):TF P (LW ad):=⟨229,[],expr_parser_sum.sp,nQ (F:=fun q=>(af q).expr_parser_sum) (fun a b c d e=>1000+a.toNat+b.length+c.toNat+d.length+e.toNat) (fun q=>(aF q).1) (fun _=>by kernel_rfl),aL (by kernel_rfl)⟩
def expr_parser_row_c256.sp:Spec:=aj ⟨[(0,Sp 0 0),(1,.clo 256 [.ptr 1 0,.ptr 2 0]),(2,.c (.sl .str))],[(some 0,c1),(some 1,[.ptr 0 0]),(some 2,[ki])]⟩ ⟨[],[(none,c1),(none,[.ptr 0 0]),(none,[ki])]⟩ expr_parser_row_c256.g
noncomputable def expr_parser_row_c256.T(ad:LQ):TF P (LW ad):=⟨255,[256],expr_parser_row_c256.sp,nQ (F:=fun q=>(af q).expr_parser_row_c256) (fun a b c d e i=>1000+a.length+b.length+c.toNat+d.length+e.toNat+i.toNat) (fun q=>(aF q).2.1) (fun _=>by kernel_rfl),aL (by kernel_rfl)⟩
def expr_parser_sum_1.sp:Spec:=aj ⟨[(0,Sp 0 0),(1,Sp 1 0)],[(some 0,[.ptr 2 0]),(some 1,[ki]),(some 2,c1)]⟩ ⟨[],[(none,[.ptr 2 0]),(none,[ki]),(none,c1)]⟩ expr_parser_sum_1.g
noncomputable def expr_parser_sum_1.T(ad:LQ):TF P (LW ad):=⟨256,[],expr_parser_sum_1.sp,nQ (F:=fun q=>(af q).expr_parser_sum_1) (fun a b c d e=>1000+a.toNat+b.length+c.toNat+d.length+e.toNat) (fun q=>(aF q).2.2.1) (fun _=>by kernel_rfl),aL (by kernel_rfl)⟩
def expr_parser_row_c257.sp:Spec:=aj ⟨[(0,Sp 0 0),(1,.clo 257 [.ptr 1 0,.ptr 2 0]),(2,.c (.sl .str))],[(some 0,c1),(some 1,[.ptr 0 0]),(some 2,[ki])]⟩ ⟨[],[(none,c1),(none,[.ptr 0 0]),(none,[ki])]⟩ expr_parser_row_c257.g
noncomputable def expr_parser_row_c257.T(ad:LQ):TF P (LW ad):=⟨255,[257],expr_parser_row_c257.sp,nQ (F:=fun q=>(af q).expr_parser_row_c257) (fun a b c d e i=>1000+a.length+b.length+c.toNat+d.length+e.toNat+i.toNat) (fun q=>(aF q).2.2.2.1) (fun _=>by kernel_rfl),aL (by kernel_rfl)⟩
def expr_parser_sum_1_1.sp:Spec:=aj ⟨[(0,Sp 0 0),(1,Sp 1 0)],[(some 0,[.ptr 2 0]),(some 1,[ki]),(some 2,c1)]⟩ ⟨[],[(none,[.ptr 2 0]),(none,[ki]),(none,c1)]⟩ expr_parser_sum_1_1.g
noncomputable def expr_parser_sum_1_1.T(ad:LQ):TF P (LW ad):=⟨257,[],expr_parser_sum_1_1.sp,nQ (F:=fun q=>(af q).expr_parser_sum_1_1) (fun a b c d e=>1000+a.toNat+b.length+c.toNat+d.length+e.toNat) (fun q=>(aF q).2.2.2.2.1) (fun _=>by kernel_rfl),aL (by kernel_rfl)⟩
def expr_parser_factor.sp:Spec:=aj ⟨[(0,Sp 0 0),(1,Si)],[(some 0,c1)]⟩ ⟨[],[(none,c1)]⟩ expr_parser_factor.g
noncomputable def expr_parser_factor.T(ad:LQ):TF P (LW ad):=⟨258,[],expr_parser_factor.sp,nQ (F:=fun q=>(af q).expr_parser_factor) (fun a b c d e=>1000+a.toNat+b.length+c.toNat+d.length+e.toNat) (fun q=>(aF q).2.2.2.2.2.1) (fun _=>by kernel_rfl),aL (by kernel_rfl)⟩
namespace Zbf
def sp:Spec:=aj ⟨[(0,.c (.sl u0)),(1,Si)],[]⟩ ⟨[(0,.c (.row 44 u1)),(1,Si),(2,Si)],[]⟩ g
noncomputable def T(ad:LQ):=mkF ad 196 [] sp [expr_parser_sum.T ad] (fun n=>tj 5 ⟨[(7,Sp 0 0)],[(some 0,c1)]⟩ (fun _=>j5 n) <| tn) t0 t0 47 [] f (fun a b=>1000+a.length+b.toNat) (by kernel_rfl)
end Zbf
namespace Zax
def sp:Spec:=aj ⟨[(0,Sp 0 0),(1,Sp 1 0),(2,.c (.pp .str))],[(some 0,[.sl u0,ki,ki]),(some 1,c0)]⟩ ⟨[],[(none,[.sl u0,ki,ki]),(none,c0)]⟩ g
noncomputable def T(ad:LQ):=mkF ad 195 [] sp [Zbg.T ad,Zao.T ad,Zbf.T ad] (fun n=>tj 2 ⟨[(0,Sp 0 0),(1,Sp 1 0)],[(none,[.sl u0,ki,ki]),(none,c0)]⟩ (fun _=>j2 n) <| tn) t0 t0 40 [] f (fun a b c d e i j k l _ p q=>1000+a.length+b.length+c.toNat+d.toNat+e.toNat+i.toNat+j.toNat+k.toNat+l.toNat+p.length+q.length) (by kernel_rfl)
end Zax
namespace Zbj
def sp:Spec:=aj ⟨[(0,Sb),(1,SB)],[]⟩ ⟨[(0,SB)],[]⟩ g
noncomputable def T(ad:LQ):=mkF ad 105 [] sp [] (fun n=>tj 4 ⟨[(0,Sb),(1,SB)],[]⟩ (fun _=>j4 n) <| tn) t0 t0 32 [] f (fun a _=>1000+a.toNat) (by kernel_rfl)
end Zbj
namespace Zai
def sp:Spec:=aj ⟨[(0,Ss)],[]⟩ ⟨[(0,SB)],[]⟩ g
noncomputable def T(ad:LQ):=mkF ad 55 [] sp [Zbj.T ad,strings_Trim.T ad] t0 (fun n=>tl 4 ⟨[(0,Ss),(14,Si),(15,Si)],[]⟩ (fun _=>l4 n) <| tn) t0 47 [] f (fun a=>1000+a.length) (by kernel_rfl)
end Zai
namespace Zdd
def sp:Spec:=aj ⟨[(0,Sp 0 0),(1,Sp 1 0)],[(some 0,[.sl u0,ki,ki]),(some 1,c0)]⟩ ⟨[],[(none,[.sl u0,ki,ki]),(none,c0)]⟩ g
noncomputable def T(ad:LQ):=mkF ad 152 [] sp [Zbg.T ad,Zai.T ad,Zao.T ad] t0 t0 t0 16 [] f (fun a b c d e i j k _ o p=>1000+a.length+b.toNat+c.toNat+d.toNat+e.toNat+i.toNat+j.toNat+k.toNat+o.length+p.length) (by kernel_rfl)
end Zdd
namespace Zab
def sp:Spec:=aj ⟨[(0,.c (.sl u0))],[]⟩ ⟨[(0,Ss),(1,.agg c0),(2,Si)],[]⟩ g
noncomputable def T(ad:LQ):=mkF ad 91 [] sp [Zac.T ad,Zao.T ad,name_Of.T ad,Zdb.T ad,stmt_operands.T ad,Zbg.T ad,Zdc.T ad,Zcn.T ad,Zax.T ad,Zdd.T ad] (fun n=>tj 20 ⟨[(0,.c (.sl u0)),(2,Ss),(3,Sp 0 0),(5,Sp 1 0),(8,Si),(11,Si),(116,Si),(117,Si)],[(some 2,c0),(some 3,[.sl u0,ki,ki])]⟩ (fun ms=>j20 n (l13 n ms.head!)) <| tj 19 ⟨[(0,.c (.sl u0)),(2,Ss),(3,Sp 0 0),(5,Sp 1 0),(8,Si),(11,Si),(12,Si),(116,Si),(117,Si)],[(some 2,c0),(some 3,[.sl u0,ki,ki])]⟩ (fun ms=>j19 n (l13 n ms.head!)) <| tj 17 ⟨[(0,.c (.sl u0)),(2,Ss),(3,Sp 0 0),(5,Sp 1 0),(8,Si),(11,Si),(12,Si),(116,Si),(117,Si)],[(some 2,c0),(some 3,[.sl u0,ki,ki])]⟩ (fun ms=>j17 n (l13 n ms.head!)) <| tj 22 ⟨[(2,Ss),(3,Sp 0 0),(5,Sp 1 0)],[(some 1,c0),(some 2,[.sl u0,ki,ki])]⟩ (fun _=>j22 n) <| tj 9 ⟨[(0,.c (.sl u0)),(2,Ss),(3,Sp 0 0),(5,Sp 1 0),(7,Si),(8,Si),(9,SB)],[(some 2,c0),(some 3,[.sl u0,ki,ki])]⟩ (fun _=>j9 n) <| tj 5 ⟨[(0,.c (.sl u0)),(2,Ss),(3,Sp 0 0),(5,Sp 1 0)],[(some 2,c0),(some 3,[.sl u0,ki,ki])]⟩ (fun _=>j5 n) <| tn) (fun n=>tl 13 ⟨[(0,.c (.sl u0)),(2,Ss),(3,Sp 0 0),(5,Sp 1 0),(8,Si),(11,Si),(116,Si),(117,Si)],[(some 2,c0),(some 3,[.sl u0,ki,ki])]⟩ (fun _=>l13 n) <| tn) t0 165 [K.rdA,K.rdB,K.rdC,K.rdE,K.rdQ,K.rdN] f (fun a=>1000+a.length) (by kernel_rfl)
end Zab
namespace Zdi
def sp:Spec:=aj ⟨[(0,Ss)],[]⟩ ⟨[(0,.agg c2),(1,Si)],[]⟩ g
noncomputable def T(ad:LQ):=mkF ad 38 [] sp [Zae.T ad,Zab.T ad] t0 t0 t0 27 [] f (fun a=>1000+a.length) (by kernel_rfl)
end Zdi
namespace Zby
def sp:Spec:=aj ⟨[(0,.c (.sl .str)),(1,.c (.raw (.func (.func 38) #[] #[])))],[]⟩ ⟨[(0,.c (.row 41 u2)),(1,Si),(2,Si)],[]⟩ g
noncomputable def T(ad:LQ):=mkF ad 37 [] sp [Zdi.T ad] t0 (fun n=>tl 5 ⟨[(1,.c (.raw (.func (.func 38) #[] #[]))),(7,.c (.row 41 u2)),(15,.c (.sl .str)),(16,Si),(17,Si)],[]⟩ (fun _=>l5 n) <| tn) t0 39 [] f (fun a=>1000+a.length) (by kernel_rfl)
end Zby
namespace Zbz
def sp:Spec:=aj ⟨[(0,Ss)],[]⟩ ⟨[(0,.c (.row 41 u2)),(1,Si),(2,Si)],[]⟩ g
noncomputable def T(ad:LQ):=mkF ad 17 [] sp [strings_Split.T ad,Zby.T ad] (fun n=>tj 7 ⟨[(5,.c (.sl .str))],[]⟩ (fun _=>j7 n) <| tn) t0 t0 28 [] f (fun a=>1000+a.length) (by kernel_rfl)
end Zbz
namespace Zdp
def sp:Spec:=aj ⟨[(0,.agg [.str,ki]),(1,Sp 0 0)],[(some 2,[.str])]⟩ ⟨[(0,SB)],[(none,[.str])]⟩ g
noncomputable def T(ad:LQ):=mkF ad 117 [] sp [] t0 t0 t0 8 [] f (fun a b c=>1000+a.length+b.toNat+c.length) (by kernel_rfl)
end Zdp
namespace Zbq
def sp:Spec:=aj ⟨[(0,.c (.sl u3)),(1,.clo 117 [.ptr 0 0])],[(some 1,[.str])]⟩ ⟨[(0,Si)],[(none,[.str])]⟩ g
noncomputable def T(ad:LQ):=mkF ad 108 [117] sp [Zdp.T ad] t0 (fun n=>tl 2 ⟨[(0,.c (.sl u3)),(1,.clo 117 [.ptr 0 0]),(7,Si),(8,Si)],[(none,[.str])]⟩ (fun _=>l2 n) <| tn) t0 19 [] f (fun a b=>1000+a.length+b.length) (by kernel_rfl)
end Zbq
namespace Zbr
def sp:Spec:=aj ⟨[(0,.c (.sl u3)),(1,Ss)],[]⟩ ⟨[(0,Si),(1,SB)],[]⟩ g
noncomputable def T(ad:LQ):=mkF ad 62 [] sp [Zbq.T ad] t0 t0 t0 17 [] f (fun a b=>1000+a.length+b.length) (by kernel_rfl)
end Zbr
namespace Zdj
def sp:Spec:=aj ⟨[(0,.agg c0)],[]⟩ ⟨[(0,Si)],[]⟩ g
noncomputable def T(ad:LQ):=mkF ad 63 [] sp [] t0 t0 t0 8 [] f (fun a b c d e _ j k=>1000+a.toNat+b.toNat+c.toNat+d.toNat+e.toNat+j.length+k.length) (by kernel_rfl)
end Zdj
namespace Zcj
def sp:Spec:=aj ⟨[(0,.agg c2),(1,Sp 0 0)],[(some 9,c3)]⟩ ⟨[(0,Si)],[(none,c3)]⟩ g
noncomputable def T(ad:LQ):=mkF ad 61 [] sp [Zbr.T ad,Zdj.T ad] (fun n=>tj 7 ⟨[(1,Sp 0 0),(2,Sp 1 0)],[(none,c3),(some 1,c2)]⟩ (fun _=>j7 n) <| tn) t0 t0 43 [] f (fun a b c d e i _ k l o p q r s=>1000+a.length+b.toNat+c.toNat+d.toNat+e.toNat+i.toNat+k.length+l.length+o.length+p.length+q.length+r.toNat+s.toNat) (by kernel_rfl)
end Zcj
namespace Zcq
def sp:Spec:=aj ⟨[(0,.c (.sl u2)),(1,.clo 61 [.ptr 0 0])],[(some 1,c3)]⟩ ⟨[(0,Si),(1,Si)],[(none,c3)]⟩ g
noncomputable def T(ad:LQ):=mkF ad 67 [61] sp [Zcj.T ad] t0 (fun n=>tl 2 ⟨[(1,.clo 61 [.ptr 0 0]),(9,.c (.sl u2)),(10,Si),(11,Si)],[(none,c3)]⟩ (fun _=>l2 n) <| tn) t0 25 [] f (fun a b c d e i=>1000+a.length+b.length+c.length+d.length+e.toNat+i.toNat) (by kernel_rfl)
end Zcq
namespace Zce
def sp:Spec:=aj ⟨[(0,.agg [ki,ku,.str])],[]⟩ ⟨[(0,Si),(1,SB)],[]⟩ g
noncomputable def T(ad:LQ):=mkF ad 170 [] sp [Zac.T ad] (fun n=>tj 2 ⟨[(1,Sp 0 0),(4,SB)],[(some 0,[ki,ku,.str])]⟩ (fun _=>j2 n) <| tn) t0 t0 38 [] f (fun a b c=>1000+a.toNat+b.toNat+c.length) (by kernel_rfl)
end Zce
namespace Zbk
def sp:Spec:=aj ⟨[(0,.c (.sl u1))],[]⟩ ⟨[(0,SB)],[]⟩ g
noncomputable def T(ad:LQ):=mkF ad 118 [] sp [Zce.T ad] t0 (fun n=>tl 3 ⟨[(0,.c (.sl u1)),(3,Si),(8,.c (.sl u1)),(9,Si),(10,Si)],[]⟩ (fun _=>l3 n) <| tn) t0 38 [] f (fun a=>1000+a.length) (by kernel_rfl)
end Zbk
namespace Zbb
def sp:Spec:=aj ⟨[(0,Sp 0 0)],[(some 0,[.row 70 u4])]⟩ ⟨[(0,.agg [ku,ki])],[(none,[.row 70 u4])]⟩ g
noncomputable def T(ad:LQ):=mkF ad 120 [] sp [] t0 t0 t0 24 [] f (fun a=>1000+a.length) (by kernel_rfl)
end Zbb
namespace Zct
def sp:Spec:=aj ⟨[(0,.agg [ku,ki]),(1,Si)],[]⟩ ⟨[(0,.agg [ku,ki])],[]⟩ g
noncomputable def T(ad:LQ):=mkF ad 119 [] sp [] t0 t0 t0 15 [] f (fun a b c=>1000+a.toNat+b.toNat+c.toNat) (by kernel_rfl)
end Zct
namespace Zdq
def sp:Spec:=aj ⟨[(0,.agg [ku,ki]),(1,.agg [ku,ki])],[]⟩ ⟨[(0,.agg [ku,ki])],[]⟩ g
noncomputable def T(ad:LQ):=mkF ad 121 [] sp [] t0 t0 t0 16 [] f (fun a b c d=>1000+a.toNat+b.toNat+c.toNat+d.toNat) (by kernel_rfl)
end Zdq
namespace Zad
def sp:Spec:=aj ⟨[(0,.c (.sl u1)),(1,.c (.sl u3))],[]⟩ ⟨[(0,.agg [ku,ki]),(1,Si)],[]⟩ g
noncomputable def T(ad:LQ):=mkF ad 65 [] sp [Zbk.T ad,Zbr.T ad,Zbb.T ad,Zct.T ad,Zdq.T ad] (fun n=>tj 27 ⟨[(1,.c (.sl u3)),(4,Sp 0 0),(6,Sp 1 0),(9,Sp 2 0),(20,.c (.sl u1)),(21,Si),(22,Si)],[(some 1,[ku,ki]),(some 2,[.row 70 u4]),(some 3,[ku,ki])]⟩ (fun ms=>j27 n (l5 n ms.head!)) <| tn) (fun n=>tl 5 ⟨[(1,.c (.sl u3)),(4,Sp 0 0),(6,Sp 1 0),(20,.c (.sl u1)),(21,Si),(22,Si)],[(some 1,[ku,ki]),(some 2,[.row 70 u4])]⟩ (fun _=>l5 n) <| tn) t0 92 [] f (fun a b=>1000+a.length+b.length) (by kernel_rfl)
end Zad
namespace Zdv
def sp:Spec:=aj ⟨[(0,.c (.sl u4))],[]⟩ ⟨[(0,.c (.slc u4))],[]⟩ g
noncomputable def T(ad:LQ):=mkF ad 122 [] sp [] t0 t0 t0 9 [] f (fun a=>1000+a.length) (by kernel_rfl)
end Zdv
namespace Zbi
def sp:Spec:=aj ⟨[(0,.c (.sl u4)),(1,.agg [ku,ki])],[]⟩ ⟨[(0,.c (.sl u4)),(1,Si)],[]⟩ g
noncomputable def T(ad:LQ):=mkF ad 66 [] sp [Zdv.T ad] t0 (fun n=>tl 2 ⟨[(0,.c (.sl u4)),(3,Sp 0 0),(8,.c (.sl u4)),(9,Si),(10,Si)],[(some 1,[ku,ki])]⟩ (fun _=>l2 n) <| tn) t0 28 [] f (fun a b c=>1000+a.length+b.toNat+c.toNat) (by kernel_rfl)
end Zbi
namespace Zdk
def sp:Spec:=aj ⟨[(0,.agg c2),(1,Sp 0 0)],[(some 9,c3)]⟩ ⟨[(0,Si)],[(none,c3)]⟩ g
noncomputable def T(ad:LQ):=mkF ad 64 [] sp [Zad.T ad,Zbi.T ad] t0 t0 t0 40 [] f (fun a b c d e i _ k l o p q r s=>1000+a.length+b.toNat+c.toNat+d.toNat+e.toNat+i.toNat+k.length+l.length+o.length+p.length+q.length+r.toNat+s.toNat) (by kernel_rfl)
end Zdk
namespace Zcr
def sp:Spec:=aj ⟨[(0,.c (.sl u2)),(1,.clo 64 [.ptr 0 0])],[(some 1,c3)]⟩ ⟨[(0,Si),(1,Si)],[(none,c3)]⟩ g
noncomputable def T(ad:LQ):=mkF ad 67 [64] sp [Zdk.T ad] t0 (fun n=>tl 2 ⟨[(1,.clo 64 [.ptr 0 0]),(9,.c (.sl u2)),(10,Si),(11,Si)],[(none,c3)]⟩ (fun _=>l2 n) <| tn) t0 25 [] f (fun a b c d e i=>1000+a.length+b.length+c.length+d.length+e.toNat+i.toNat) (by kernel_rfl)
end Zcr
namespace Zav
def sp:Spec:=aj ⟨[(0,.c (.sl u2))],[]⟩ ⟨[(0,.agg c3),(1,Si),(2,Si)],[]⟩ g
noncomputable def T(ad:LQ):=mkF ad 25 [] sp [Zcq.T ad,Zcr.T ad] (fun n=>tj 7 ⟨[(0,.c (.sl u2)),(2,Sp 0 0),(3,Si),(4,Si),(13,.c (.clr 0 [61,64])),(14,Si),(15,Si)],[(some 1,c3)]⟩ (fun ms=>j7 n (l4 n ms.head!)) <| tn) (fun n=>tl 4 ⟨[(0,.c (.sl u2)),(2,Sp 0 0),(13,.c (.clr 0 [61,64])),(14,Si),(15,Si)],[(some 1,c3)]⟩ (fun _=>l4 n) <| tn) t0 44 [] f (fun a=>1000+a.length) (by kernel_rfl)
end Zav
namespace Zdw
def sp:Spec:=aj ⟨[(0,.agg [.str,ki]),(1,Ss)],[]⟩ ⟨[(0,Si)],[]⟩ g
noncomputable def T(ad:LQ):=mkF ad 124 [] sp [strings_Compare.T ad] t0 t0 t0 9 [] f (fun a b c=>1000+a.length+b.toNat+c.length) (by kernel_rfl)
end Zdw
namespace Zbo
def sp:Spec:=aj ⟨[(0,.c (.sl u3)),(1,Ss),(2,.c (.raw (.func (.func 124) #[] #[])))],[]⟩ ⟨[(0,Si),(1,SB)],[]⟩ g
noncomputable def T(ad:LQ):=mkF ad 123 [] sp [Zdw.T ad] t0 (fun n=>tl 3 ⟨[(0,.c (.sl u3)),(1,Ss),(2,.c (.raw (.func (.func 124) #[] #[]))),(8,Si),(9,Si),(10,Si)],[]⟩ (fun _=>l3 n) <| tn) t0 49 [] f (fun a b=>1000+a.length+b.length) (by kernel_rfl)
end Zbo
namespace Zdl
def sp:Spec:=aj ⟨[(0,Sp 0 0),(1,Ss)],[(some 0,c4)]⟩ ⟨[(0,Si)],[(none,c4)]⟩ g
noncomputable def T(ad:LQ):=mkF ad 69 [] sp [Zbr.T ad,Zbo.T ad,Zai.T ad,slices_Insert_api_Sym_api_Sym.T ad] t0 t0 t0 53 [] f (fun a b c d e i j k l=>1000+a.length+b.length+c.length+d.length+e.toNat+i.toNat+j.length+k.length+l.length) (by kernel_rfl)
end Zdl
namespace Zam
def sp:Spec:=aj ⟨[(0,.c (.sl u1)),(1,.c (.sl u3)),(2,Si),(3,Si)],[]⟩ ⟨[(0,Si),(1,Si)],[]⟩ g
noncomputable def T(ad:LQ):=mkF ad 70 [] sp [Zad.T ad] (fun n=>tj 11 ⟨[(2,Si),(3,Si),(35,.agg [ki,ki]),(36,Si)],[]⟩ (fun ms=>j11 n (l7 n ms.head!)) <| tn) (fun n=>tl 7 ⟨[(2,Si),(3,Si),(35,.agg [ki,ki]),(36,Si)],[]⟩ (fun _=>l7 n) <| tn) t0 49 [] f (fun a b c d=>1000+a.length+b.length+c.toNat+d.toNat) (by kernel_rfl)
end Zam
namespace Zco
def sp:Spec:=aj ⟨[(0,Si),(1,Si),(2,Si)],[]⟩ ⟨[(0,SB)],[]⟩ g
noncomputable def T(ad:LQ):=mkF ad 188 [] sp [] t0 t0 t0 15 [] f (fun a b c=>1000+a.toNat+b.toNat+c.toNat) (by kernel_rfl)
end Zco
namespace Zdy
def sp:Spec:=aj ⟨[(0,SB)],[]⟩ ⟨[(0,Su)],[]⟩ g
noncomputable def T(ad:LQ):=mkF ad 238 [] sp [] t0 t0 t0 4 [] f (fun _=>(1000:Nat)) (by kernel_rfl)
end Zdy
namespace Zay
def sp:Spec:=aj ⟨[(0,Si),(1,SB),(2,SB)],[]⟩ ⟨[(0,.agg [ki,ki,ki])],[]⟩ g
noncomputable def T(ad:LQ):=mkF ad 211 [] sp [Zdy.T ad] t0 t0 t0 19 [] f (fun a _ _=>1000+a.toNat) (by kernel_rfl)
end Zay
namespace Zde
def sp:Spec:=aj ⟨[(0,Si),(1,Si),(2,Sp 0 0),(3,Sp 1 0)],[(some 2,[ku]),(some 3,[ku])]⟩ ⟨[],[(none,[ku]),(none,[ku])]⟩ g
noncomputable def T(ad:LQ):=mkF ad 263 [] sp [] t0 t0 t0 17 [] f (fun a b c d=>1000+a.toNat+b.toNat+c.toNat+d.toNat) (by kernel_rfl)
end Zde
namespace Zch
def sp:Spec:=aj ⟨[(0,Si),(1,Si),(2,.clo 263 [.ptr 0 0,.ptr 1 0])],[(some 2,[ku]),(some 3,[ku])]⟩ ⟨[],[(none,[ku]),(none,[ku])]⟩ g
noncomputable def T(ad:LQ):=mkF ad 249 [263] sp [Zde.T ad] t0 (fun n=>tl 2 ⟨[(0,Si),(1,Si),(2,.clo 263 [.ptr 0 0,.ptr 1 0]),(6,Si)],[(none,[ku]),(none,[ku])]⟩ (fun _=>l2 n) <| tn) t0 38 [] f (fun a b c d=>1000+a.toNat+b.toNat+c.toNat+d.toNat) (by kernel_rfl)
end Zch
namespace Zdf
def sp:Spec:=aj ⟨[(0,Su),(1,Si),(2,Si),(3,Su)],[]⟩ ⟨[(0,Su)],[]⟩ g
noncomputable def T(ad:LQ):=mkF ad 237 [] sp [Zch.T ad] t0 t0 t0 14 [] f (fun a b c d=>1000+a.toNat+b.toNat+c.toNat+d.toNat) (by kernel_rfl)
end Zdf
namespace Zan
def sp:Spec:=aj ⟨[(0,.c (.sl u5))],[]⟩ ⟨[(0,Su)],[]⟩ g
noncomputable def T(ad:LQ):=mkF ad 210 [] sp [Zdf.T ad] t0 (fun n=>tl 3 ⟨[(3,Su),(6,.c (.sl u5)),(7,Si),(8,Si)],[]⟩ (fun _=>l3 n) <| tn) t0 23 [] f (fun a=>1000+a.length) (by kernel_rfl)
end Zan
namespace Zbh
def sp:Spec:=aj ⟨[(0,.agg c5)],[]⟩ ⟨[(0,Su)],[]⟩ g
noncomputable def T(ad:LQ):=mkF ad 174 [] sp [Zay.T ad,Zan.T ad] (fun n=>tj 14 ⟨[(1,Sp 0 0),(6,Sp 1 0)],[(some 0,c5),(some 1,[ki,ki,ki])]⟩ (fun _=>j14 n) <| tn) t0 t0 97 [] f (fun a b c d e i _=>1000+a.toNat+b.toNat+c.toNat+d.toNat+e.toNat+i.toNat) (by kernel_rfl)
end Zbh
namespace Zdg
def sp:Spec:=aj ⟨[(0,Si),(1,Si),(2,Sp 0 0),(3,Sp 1 0)],[(some 2,[ku]),(some 3,[ku])]⟩ ⟨[],[(none,[ku]),(none,[ku])]⟩ g
noncomputable def T(ad:LQ):=mkF ad 250 [] sp [] t0 t0 t0 14 [] f (fun a b c d=>1000+a.toNat+b.toNat+c.toNat+d.toNat) (by kernel_rfl)
end Zdg
namespace Zci
def sp:Spec:=aj ⟨[(0,Si),(1,Si),(2,.clo 250 [.ptr 0 0,.ptr 1 0])],[(some 2,[ku]),(some 3,[ku])]⟩ ⟨[],[(none,[ku]),(none,[ku])]⟩ g
noncomputable def T(ad:LQ):=mkF ad 249 [250] sp [Zdg.T ad] t0 (fun n=>tl 2 ⟨[(0,Si),(1,Si),(2,.clo 250 [.ptr 0 0,.ptr 1 0]),(6,Si)],[(none,[ku]),(none,[ku])]⟩ (fun _=>l2 n) <| tn) t0 38 [] f (fun a b c d=>1000+a.toNat+b.toNat+c.toNat+d.toNat) (by kernel_rfl)
end Zci
namespace Zdh
def sp:Spec:=aj ⟨[(0,Su),(1,Si),(2,Si)],[]⟩ ⟨[(0,Su)],[]⟩ g
noncomputable def T(ad:LQ):=mkF ad 223 [] sp [Zci.T ad] t0 t0 t0 13 [] f (fun a b c=>1000+a.toNat+b.toNat+c.toNat) (by kernel_rfl)
end Zdh
namespace Zap
def sp:Spec:=aj ⟨[(0,Si),(1,Si),(2,.c (.pp (.int .u32)))],[]⟩ ⟨[(0,Si)],[]⟩ g
noncomputable def T(ad:LQ):=mkF ad 222 [] sp [Zdh.T ad] t0 t0 t0 11 [] f (fun a b c=>1000+a.toNat+b.toNat+c.toNat) (by kernel_rfl)
end Zap
namespace Zdu
def sp:Spec:=aj ⟨[(0,Si)],[]⟩ ⟨[(0,Si)],[]⟩ g
noncomputable def T(ad:LQ):=mkF ad 251 [] sp [] t0 t0 t0 6 [] f (fun a=>1000+a.toNat) (by kernel_rfl)
end Zdu
namespace Zcu
def sp:Spec:=aj ⟨[(0,Su),(1,Si)],[]⟩ ⟨[(0,Si)],[]⟩ g
noncomputable def T(ad:LQ):=mkF ad 224 [] sp [Zdu.T ad] t0 t0 t0 16 [] f (fun a b=>1000+a.toNat+b.toNat) (by kernel_rfl)
end Zcu
namespace Zaz
def sp:Spec:=aj ⟨[(0,Su)],[]⟩ ⟨[(0,.agg c5)],[]⟩ g
noncomputable def T(ad:LQ):=mkF ad 189 [] sp [Zap.T ad,Zcu.T ad] (fun n=>tj 16 ⟨[(2,Sp 0 0),(6,Sp 1 0)],[(some 0,c5),(some 1,c5)]⟩ (fun _=>j16 n) <| tn) t0 t0 80 [] f (fun a=>1000+a.toNat) (by kernel_rfl)
end Zaz
namespace Zas
def sp:Spec:=aj ⟨[(0,.agg c5)],[]⟩ ⟨[(0,SB)],[]⟩ g
noncomputable def T(ad:LQ):=mkF ad 145 [] sp [Zco.T ad,Zbh.T ad,Zaz.T ad] (fun n=>tj 10 ⟨[(1,Sp 0 0)],[(some 0,c5)]⟩ (fun _=>j10 n) <| tn) t0 t0 64 [] f (fun a b c d e i _=>1000+a.toNat+b.toNat+c.toNat+d.toNat+e.toNat+i.toNat) (by kernel_rfl)
end Zas
namespace Zcp
def sp:Spec:=aj ⟨[(0,.agg c5)],[]⟩ ⟨[(0,Su),(1,Si)],[]⟩ g
noncomputable def T(ad:LQ):=mkF ad 127 [] sp [Zas.T ad,Zbh.T ad] t0 t0 t0 9 [] f (fun a b c d e i _=>1000+a.toNat+b.toNat+c.toNat+d.toNat+e.toNat+i.toNat) (by kernel_rfl)
end Zcp
namespace Zbd
def sp:Spec:=aj ⟨[(0,Sp 0 0),(1,.agg [ku,ki])],[(some 0,c4)]⟩ ⟨[],[(none,c4)]⟩ g
noncomputable def T(ad:LQ):=mkF ad 27 [] sp [] (fun n=>tj 3 ⟨[(0,Sp 0 0),(3,Sp 1 0)],[(none,c4),(some 1,[ku,ki])]⟩ (fun _=>j3 n) <| tn) t0 t0 37 [] f (fun a b c d e i j k l o=>1000+a.toNat+b.toNat+c.length+d.length+e.length+i.toNat+j.toNat+k.length+l.length+o.length) (by kernel_rfl)
end Zbd
namespace Zdm
def sp:Spec:=aj ⟨[(0,Sp 0 0),(1,.agg c5)],[(some 0,c4)]⟩ ⟨[(0,Si)],[(none,c4)]⟩ g
noncomputable def T(ad:LQ):=mkF ad 73 [] sp [Zcp.T ad,Zbd.T ad] t0 t0 t0 19 [] f (fun a b c d e i _ k l o p q r s t=>1000+a.toNat+b.toNat+c.toNat+d.toNat+e.toNat+i.toNat+k.length+l.length+o.length+p.toNat+q.toNat+r.length+s.length+t.length) (by kernel_rfl)
end Zdm
namespace Zcs
def sp:Spec:=aj ⟨[(0,Sp 0 0),(1,Sp 1 0),(2,Sp 2 0)],[(some 0,c0),(some 1,[.ptr 3 0]),(some 2,[ki]),(some 11,c4)]⟩ ⟨[(0,.agg [ku,ki])],[(none,c0),(none,[.ptr 3 0]),(none,[ki]),(none,c4)]⟩ g
noncomputable def T(ad:LQ):=mkF ad 68 [] sp [Zad.T ad] t0 t0 t0 16 [] f (fun a b c d e _ j k l o p q r s t u v=>1000+a.toNat+b.toNat+c.toNat+d.toNat+e.toNat+j.length+k.length+l.toNat+o.length+p.length+q.length+r.toNat+s.toNat+t.length+u.length+v.length) (by kernel_rfl)
end Zcs
namespace Zdn
def sp:Spec:=aj ⟨[(0,.agg [ku,ki]),(1,Si)],[]⟩ ⟨[(0,Si),(1,Si)],[]⟩ g
noncomputable def T(ad:LQ):=mkF ad 71 [] sp [] t0 t0 t0 35 [] f (fun a b c=>1000+a.toNat+b.toNat+c.toNat) (by kernel_rfl)
end Zdn
namespace Zcv
def sp:Spec:=aj ⟨[(0,Sp 0 0),(1,.agg [ku,ki])],[(some 0,c4)]⟩ ⟨[(0,Si)],[(none,c4)]⟩ g
noncomputable def T(ad:LQ):=mkF ad 72 [] sp [] t0 t0 t0 30 [] f (fun a b c d e i j k l o=>1000+a.toNat+b.toNat+c.length+d.length+e.length+i.toNat+j.toNat+k.length+l.length+o.length) (by kernel_rfl)
end Zcv
namespace Zaj
def sp:Spec:=aj ⟨[(0,Sp 0 0),(1,.agg c0),(2,Si)],[(some 0,c4)]⟩ ⟨[(0,Si)],[(none,c4)]⟩ g
noncomputable def T(ad:LQ):=mkF ad 26 [] sp [Zdl.T ad,Zam.T ad,Zdm.T ad,Zcs.T ad,Zdn.T ad,Zbi.T ad,Zcv.T ad,Zbd.T ad] (fun n=>tj 32 ⟨[(3,Sp 1 0),(6,Sp 2 0),(7,Sp 3 0)],[(none,c4),(some 0,[.ptr 0 0]),(some 1,[ki]),(some 2,c5)]⟩ (fun _=>j32 n) <| tj 12 ⟨[(3,Sp 1 0),(4,Sp 2 0),(6,Sp 3 0),(7,Sp 4 0),(9,Si)],[(none,c4),(some 0,[.ptr 0 0]),(some 1,c0),(some 2,[ki]),(some 3,c5)]⟩ (fun _=>j12 n) <| tj 31 ⟨[(6,Sp 1 0)],[(none,c4),(some 0,[ki])]⟩ (fun _=>j31 n) <| tj 29 ⟨[(3,Sp 1 0),(6,Sp 2 0),(14,Sp 3 0)],[(none,c4),(some 0,[.ptr 0 0]),(some 1,[ki]),(some 2,[ku,ki])]⟩ (fun _=>j29 n) <| tn) t0 t0 139 [] f (fun a b c d e _ j k l o p q r s t u v=>1000+a.toNat+b.toNat+c.toNat+d.toNat+e.toNat+j.length+k.length+l.toNat+o.length+p.length+q.length+r.toNat+s.toNat+t.length+u.length+v.length) (by kernel_rfl)
end Zaj
namespace Zba
def sp:Spec:=aj ⟨[(0,.c (.sl u2))],[]⟩ ⟨[(0,.agg c6),(1,Si),(2,Si)],[]⟩ g
noncomputable def T(ad:LQ):=mkF ad 11 [] sp [Zav.T ad,Zaj.T ad,Zbd.T ad] t0 (fun n=>tl 14 ⟨[(2,Sp 0 0),(6,Sp 1 0),(53,.c (.sl u4)),(54,Si),(55,Si)],[(some 0,c6),(some 1,c4)]⟩ (fun _=>l14 n) <| tl 7 ⟨[(2,Sp 0 0),(5,Sp 1 0),(6,Sp 2 0),(7,.clo 1000026 [.ptr 2 0]),(29,.c (.sl u2)),(30,Si),(31,Si)],[(some 0,c6),(some 1,c7),(some 2,c4)]⟩ (fun _=>l7 n) <| tn) t0 75 [] f (fun a=>1000+a.length) (by kernel_rfl)
end Zba
namespace Zca
def sp:Spec:=aj ⟨[(0,Ss)],[]⟩ ⟨[(0,.agg c6),(1,Si),(2,Si)],[]⟩ g
noncomputable def T(ad:LQ):=mkF ad 8 [] sp [Zbz.T ad,Zba.T ad] t0 t0 t0 22 [] f (fun a=>1000+a.length) (by kernel_rfl)
end Zca
namespace Zdx
def sp:Spec:=aj ⟨[(0,.c (.sl (.int .u32))),(1,.c (.sl (.int .u32)))],[]⟩ ⟨[(0,SB)],[]⟩ g
noncomputable def T(ad:LQ):=mkF ad 23 [] sp [] t0 (fun n=>tl 4 ⟨[(0,.c (.sl (.int .u32))),(1,.c (.sl (.int .u32))),(5,Si)],[]⟩ (fun _=>l4 n) <| tn) t0 26 [] f (fun a b=>1000+a.length+b.length) (by kernel_rfl)
end Zdx
namespace Zdo
def sp:Spec:=aj ⟨[],[]⟩ ⟨[(0,SB)],[]⟩ g
noncomputable def T(ad:LQ):=mkF ad 7 [] sp [Zca.T ad,Zdx.T ad] t0 t0 t0 21 [] f (1000:Nat) (by kernel_rfl)
end Zdo
namespace Zcw
def sp:Spec:=aj ⟨[(0,Ss)],[]⟩ ⟨[(0,Ss)],[]⟩ g
noncomputable def T(ad:LQ):=mkF ad 9 [] sp [] t0 t0 t0 8 [] f (fun a=>1000+a.length) (by kernel_rfl)
end Zcw
namespace Zbs
def sp:Spec:=aj ⟨[(0,.c (.sl (.int .u32))),(1,.c (.sl (.int .u32)))],[]⟩ ⟨[(0,SB)],[]⟩ g
noncomputable def T(ad:LQ):=mkF ad 43 [] sp [] t0 (fun n=>tl 4 ⟨[(0,.c (.sl (.int .u32))),(1,.c (.sl (.int .u32))),(12,Si),(13,Si)],[]⟩ (fun _=>l4 n) <| tn) t0 26 [] f (fun a b=>1000+a.length+b.length) (by kernel_rfl)
end Zbs
namespace Zbt
def sp:Spec:=aj ⟨[(0,.c (.sl (.int .i64))),(1,.c (.sl (.int .i64)))],[]⟩ ⟨[(0,SB)],[]⟩ g
noncomputable def T(ad:LQ):=mkF ad 44 [] sp [] t0 (fun n=>tl 4 ⟨[(0,.c (.sl (.int .i64))),(1,.c (.sl (.int .i64))),(12,Si),(13,Si)],[]⟩ (fun _=>l4 n) <| tn) t0 26 [] f (fun a b=>1000+a.length+b.length) (by kernel_rfl)
end Zbt
namespace Zbu
def sp:Spec:=aj ⟨[(0,.c (.sl u3)),(1,.c (.sl u3))],[]⟩ ⟨[(0,SB)],[]⟩ g
noncomputable def T(ad:LQ):=mkF ad 45 [] sp [] t0 (fun n=>tl 4 ⟨[(0,.c (.sl u3)),(1,.c (.sl u3)),(12,Si),(13,Si)],[]⟩ (fun _=>l4 n) <| tn) t0 26 [] f (fun a b=>1000+a.length+b.length) (by kernel_rfl)
end Zbu
namespace Zcl
def sp:Spec:=aj ⟨[(0,.agg c8),(1,.agg c8)],[]⟩ ⟨[(0,SB)],[]⟩ g
noncomputable def T(ad:LQ):=mkF ad 19 [] sp [Zbs.T ad,Zbt.T ad,Zbu.T ad] t0 t0 t0 24 [] f (fun a b c d e i=>1000+a.length+b.length+c.length+d.length+e.length+i.length) (by kernel_rfl)
end Zcl
namespace Zat
def sp:Spec:=aj ⟨[(0,.c (.sl (.int .u32))),(1,.c (.sl (.int .i64)))],[]⟩ ⟨[(0,.c (.row 42 (.int .u32))),(1,Si),(2,Si)],[]⟩ g
noncomputable def T(ad:LQ):=mkF ad 46 [] sp [slices_Clone_uint32_uint32.T ad] t0 (fun n=>tl 12 ⟨[(10,.c (.row 42 (.int .u32))),(11,Si),(37,.c (.sl (.int .i64))),(38,Si),(39,Si)],[]⟩ (fun _=>l12 n) <| tl 3 ⟨[(0,.c (.sl (.int .u32))),(1,.c (.sl (.int .i64))),(7,Si),(14,.c (.sl (.int .i64))),(15,Si),(16,Si)],[]⟩ (fun _=>l3 n) <| tn) t0 64 [] f (fun a b=>1000+a.length+b.length) (by kernel_rfl)
end Zat
namespace Zdr
def sp:Spec:=aj ⟨[(0,Si),(1,Sp 0 0),(2,Sp 1 0)],[(some 1,c8),(some 2,[ki])]⟩ ⟨[(0,SB)],[(none,c8),(none,[ki])]⟩ g
noncomputable def T(ad:LQ):=mkF ad 52 [] sp [] t0 t0 t0 13 [] f (fun a b c d e=>1000+a.toNat+b.length+c.length+d.length+e.toNat) (by kernel_rfl)
end Zdr
namespace Zcf
def sp:Spec:=aj ⟨[(0,.c (.sl (.int .i64))),(1,.clo 52 [.ptr 0 0,.ptr 1 0])],[(some 1,c8),(some 2,[ki])]⟩ ⟨[(0,Si)],[(none,c8),(none,[ki])]⟩ g
noncomputable def T(ad:LQ):=mkF ad 107 [52] sp [Zdr.T ad] t0 (fun n=>tl 2 ⟨[(0,.c (.sl (.int .i64))),(1,.clo 52 [.ptr 0 0,.ptr 1 0]),(7,Si),(8,Si)],[(none,c8),(none,[ki])]⟩ (fun _=>l2 n) <| tn) t0 19 [] f (fun a b c d e=>1000+a.length+b.length+c.length+d.length+e.toNat) (by kernel_rfl)
end Zcf
namespace Zcy
def sp:Spec:=aj ⟨[(0,.c (.sl (.int .i64))),(1,.clo 52 [.ptr 0 0,.ptr 1 0])],[(some 1,c8),(some 2,[ki])]⟩ ⟨[(0,SB)],[(none,c8),(none,[ki])]⟩ g
noncomputable def T(ad:LQ):=mkF ad 56 [52] sp [Zcf.T ad] t0 t0 t0 9 [] f (fun a b c d e=>1000+a.length+b.length+c.length+d.length+e.toNat) (by kernel_rfl)
end Zcy
namespace Zaw
def sp:Spec:=aj ⟨[(0,Sp 0 0)],[(some 0,c8)]⟩ ⟨[(0,SB)],[(none,c8)]⟩ g
noncomputable def T(ad:LQ):=mkF ad 54 [] sp [Zai.T ad] (fun n=>tj 6 ⟨[(0,Sp 0 0),(5,.c (.sl u3)),(6,Si),(7,Si)],[(none,c8)]⟩ (fun ms=>j6 n (l2 n ms.head!)) <| tn) (fun n=>tl 2 ⟨[(0,Sp 0 0),(5,.c (.sl u3)),(6,Si),(7,Si)],[(none,c8)]⟩ (fun _=>l2 n) <| tn) t0 33 [] f (fun a b c=>1000+a.length+b.length+c.length) (by kernel_rfl)
end Zaw
namespace Zds
def sp:Spec:=aj ⟨[(0,.agg [.str,ki]),(1,Sp 0 0)],[(some 2,[ki])]⟩ ⟨[(0,SB)],[(none,[ki])]⟩ g
noncomputable def T(ad:LQ):=mkF ad 53 [] sp [] t0 t0 t0 19 [] f (fun a b c=>1000+a.length+b.toNat+c.toNat) (by kernel_rfl)
end Zds
namespace Zcg
def sp:Spec:=aj ⟨[(0,.c (.sl u3)),(1,.clo 53 [.ptr 0 0])],[(some 1,[ki])]⟩ ⟨[(0,Si)],[(none,[ki])]⟩ g
noncomputable def T(ad:LQ):=mkF ad 108 [53] sp [Zds.T ad] t0 (fun n=>tl 2 ⟨[(0,.c (.sl u3)),(1,.clo 53 [.ptr 0 0]),(7,Si),(8,Si)],[(none,[ki])]⟩ (fun _=>l2 n) <| tn) t0 19 [] f (fun a b=>1000+a.length+b.toNat) (by kernel_rfl)
end Zcg
namespace Zcz
def sp:Spec:=aj ⟨[(0,.c (.sl u3)),(1,.clo 53 [.ptr 0 0])],[(some 1,[ki])]⟩ ⟨[(0,SB)],[(none,[ki])]⟩ g
noncomputable def T(ad:LQ):=mkF ad 57 [53] sp [Zcg.T ad] t0 t0 t0 9 [] f (fun a b=>1000+a.length+b.toNat) (by kernel_rfl)
end Zcz
namespace Zbl
def sp:Spec:=aj ⟨[(0,.agg c8)],[]⟩ ⟨[(0,Si)],[]⟩ g
noncomputable def T(ad:LQ):=mkF ad 22 [] sp [Zat.T ad,Zcy.T ad,Zaw.T ad,Zcz.T ad] t0 t0 t0 54 [] f (fun a b c=>1000+a.length+b.length+c.length) (by kernel_rfl)
end Zbl
namespace Zbc
def sp:Spec:=aj ⟨[(0,.c (.sl (.int .u32)))],[]⟩ ⟨[(0,.c (.row 5 (.int .u8)))],[]⟩ g
noncomputable def T(ad:LQ):=mkF ad 47 [] sp [] t0 (fun n=>tl 3 ⟨[(3,.c (.row 5 (.int .u8))),(6,.c (.sl (.int .u32))),(7,Si),(8,Si)],[]⟩ (fun _=>l3 n) <| tn) t0 28 [] f (fun a=>1000+a.length) (by kernel_rfl)
end Zbc
namespace Zdt
def sp:Spec:=aj ⟨[(0,Ss)],[]⟩ ⟨[(0,.c (.row 5 (.int .u8))),(1,Si)],[]⟩ g
noncomputable def T(ad:LQ):TF P (LW ad):=⟨48,[],sp,Ld (show Sat P (LW ad) 55 Zai.sp from(Zai.T ad).sat),aL (by kernel_rfl)⟩
end Zdt
namespace Zbm
def sp:Spec:=aj ⟨[(0,.agg c8)],[]⟩ ⟨[(0,.c (.sl (.int .u8))),(1,Si)],[]⟩ g
noncomputable def T(ad:LQ):=mkF ad 20 [] sp [Zbl.T ad,Zat.T ad,Zbc.T ad,Zdt.T ad] t0 (fun n=>tl 10 ⟨[(8,.c (.row 5 (.int .u8))),(46,.c (.sl u3)),(47,Si),(48,Si)],[]⟩ (fun _=>l10 n) <| tn) t0 77 [] f (fun a b c=>1000+a.length+b.length+c.length) (by kernel_rfl)
end Zbm
namespace Zbv
def sp:Spec:=aj ⟨[(0,.c (.sl (.int .u8))),(1,Si)],[]⟩ ⟨[(0,.c (.row 42 (.int .u32))),(1,Si)],[]⟩ g
noncomputable def T(ad:LQ):=mkF ad 103 [] sp [] t0 (fun n=>tl 5 ⟨[(0,.c (.sl (.int .u8))),(6,.c (.row 42 (.int .u32))),(18,Si),(19,Si)],[]⟩ (fun _=>l5 n) <| tn) t0 56 [] f (fun a b=>1000+a.length+b.toNat) (by kernel_rfl)
end Zbv
namespace Zbw
def sp:Spec:=aj ⟨[(0,.c (.sl (.int .u8))),(1,Si)],[]⟩ ⟨[(0,.c (.row 42 (.int .u32))),(1,.c (.sl (.int .u8))),(2,Si)],[]⟩ g
noncomputable def T(ad:LQ):=mkF ad 49 [] sp [Zbv.T ad] t0 t0 t0 21 [] f (fun a b=>1000+a.length+b.toNat) (by kernel_rfl)
end Zbw
namespace Zda
def sp:Spec:=aj ⟨[(0,Si)],[]⟩ ⟨[(0,Si)],[]⟩ g
noncomputable def T(ad:LQ):=mkF ad 102 [] sp [] t0 t0 t0 9 [] f (fun a=>1000+a.toNat) (by kernel_rfl)
end Zda
namespace Zbx
def sp:Spec:=aj ⟨[(0,.c (.sl (.int .u8)))],[]⟩ ⟨[(0,Ss),(1,Si),(2,Si)],[]⟩ g
noncomputable def T(ad:LQ):=mkF ad 50 [] sp [Zda.T ad,Zai.T ad] t0 (fun n=>tl 11 ⟨[(2,Ss),(6,Si),(34,.c (.sl (.int .u8))),(35,Si),(36,Si)],[]⟩ (fun _=>l11 n) <| tn) t0 45 [] f (fun a=>1000+a.length) (by kernel_rfl)
end Zbx
namespace Zbn
def sp:Spec:=aj ⟨[(0,.c (.sl (.int .u8)))],[]⟩ ⟨[(0,.agg c6),(1,Si)],[]⟩ g
noncomputable def T(ad:LQ):=mkF ad 21 [] sp [Zbw.T ad,Zbx.T ad,chain_Unpack.T ad,Zbl.T ad] t0 (fun n=>tl 13 ⟨[(0,.c (.sl (.int .u8))),(2,Sp 0 0),(4,.c (.row 42 (.int .u32))),(6,.c (.row 42 (.int .u32))),(7,Sp 1 0),(58,Su),(59,Su)],[(some 1,c6),(some 4,c6)]⟩ (fun _=>l13 n) <| tn) t0 121 [] f (fun a=>1000+a.length) (by kernel_rfl)
end Zbn
namespace rivetlaw21_AsmMay
def sp:Spec:=aj ⟨[(0,Ss)],[]⟩ ⟨[(0,SB)],[]⟩ g
def Q(ad:LQ)(a_rivetlaw21_shown:Option (Bool×Unit)):Nat->Env sp.r.T:=lq types maps [((7,[]),aj ⟨[],[]⟩ ⟨[(0,SB)],[]⟩ a_rivetlaw21_shown),(Zcw.T ad).kv,(Zca.T ad).kv,(Zcl.T ad).kv,(Zbm.T ad).kv,(Zbn.T ad).kv,(Zbl.T ad).kv] t0 t0 t0 76 0 []
theorem q2(ad:LQ)(a_rivetlaw21_shown:Option (Bool×Unit)):(fun(n:Nat)=>sL P 6 sp (Q ad a_rivetlaw21_shown n),fun n=>EA P 6 sp 76 (Q ad a_rivetlaw21_shown n))=(fun n=>sR P 6 sp (Q ad a_rivetlaw21_shown n),fun n=>ap sp.a.all (f a_rivetlaw21_shown n)):=by kernel_rfl
noncomputable def T(ad:LQ):=Nu ad 6 [] sp [Zdo.T ad,Zcw.T ad,Zca.T ad,Zcl.T ad,Zbm.T ad,Zbn.T ad,Zbl.T ad] t0 t0 t0 76 [] (fun n=>f Zdo.g n) (fun a=>1000+a.length) (by kernel_rfl) (q2 ad Zdo.g)
end rivetlaw21_AsmMay
theorem rivetlaw21_AsmMay.sat:Sat P (LW ad) 6 rivetlaw21_AsmMay.sp:=(rivetlaw21_AsmMay.T ad).sat
end
end Rv
namespace Rv
open Go
theorem w64{x:Int}(h:-9223372036854775808<=x/\x<=9223372036854775807):IntKind.i64.wrap x=x:=IntWalk.i64_in _ h
theorem NB{x:Int}(h:0<=x/\x<=4294967295):IntKind.u32.wrap x=x:=IntWalk.u32_in _ h
theorem w8u{x:Int}(h:0<=x/\x<=255):IntKind.u8.wrap x=x:=IntWalk.u8_in _ h
theorem xq{x:Int}(h:0<=x/\x<=18446744073709551615):IntKind.u64.wrap x=x:=IntWalk.u64_in _ h
theorem dt{p:Prop}[Decidable p]:(decide p=true)=p:=by simp
theorem df{p:Prop}[Decidable p]:(decide p=false)=¬p:=by simp
theorem qD(s:Str)(k:Nat):bt s (k:Int)=((s.getD k 0).toNat:Int):=rfl
theorem Ka(b:UInt8):(b.toNat:Int)<256:=by have:=b.toNat_lt;omega
theorem dD{s:Str}{k:Nat}(h:k<s.length):s.drop k=s.getD k 0::s.drop (k+1):=by
 rw[Og h];congr 1;simp[List.getD,h]
theorem kT(b:UInt8)(n:Nat)(hn:n<256):((b.toNat:Int)=(n:Int))=(b=UInt8.ofNat n):=by
 apply propext;constructor;·intro h;apply UInt8.toNat_inj.1;rw[UInt8.toNat_ofNat',Nat.mod_eq_of_lt hn];omega
 ·intro h;rw[h,UInt8.toNat_ofNat',Nat.mod_eq_of_lt hn]
theorem Nf{n:Nat}(h:n<=maxLen):n<=9223372036854775807:=by unfold maxLen at h;omega
end Rv
namespace Rv
open Go
def isL(b:UInt8):Bool:=decide (65<=b.toNat/\b.toNat<=90\/97<=b.toNat/\b.toNat<=122\/b.toNat=95)
def isD(b:UInt8):Bool:=decide (48<=b.toNat/\b.toNat<=57)
def isW(b:UInt8):Bool:=isL b||isD b
def bE(s:Str):Str:=s.takeWhile isW
theorem C8{p:Prop}[Decidable p](h:p):some (true,())=some (decide p,()):=by simp[h]
theorem CY{p:Prop}[Decidable p](h:¬p):some (false,())=some (decide p,()):=by simp[h]
theorem CZ{p q:Prop}[Decidable p][Decidable q](h:p↔q):some (decide p,())=some (decide q,()):=by simp[h]
theorem letter_eq(b:UInt8):Zcb.g (b.toNat:Int)=some (isL b,()):=by
 unfold Zcb.g Zcb.f isL;simp only[dt,df]
 (repeat' split)<;>first|(refine C8 ?_;omega)|(refine CY ?_;omega)|(refine CZ ?_;omega)
theorem digit_eq(b:UInt8):Zck.g (b.toNat:Int)=some (isD b,()):=by
 unfold Zck.g Zck.f isD;simp only[dt,df]
 (repeat' split)<;>first|(refine C8 ?_;omega)|(refine CY ?_;omega)|(refine CZ ?_;omega)
theorem GR(s:Str)(hs:s.length<=9223372036854775807)(n:Nat):∀(m k:Nat),k<=s.length->s.length-k<m->Zak.l2 n m s (k:Int)=some (s.take (k+(bE (s.drop k)).length),()):=by
 intro m
 induction m with
 |zero=>intro k _ h;omega
 |succ m ih=>
  intro k hk hm;have hend:Zak.j4 n s (k:Int)=some (s.take k,()):=by
   unfold Zak.j4;rw[if_pos (by omega)];simp
  simp only[Zak.l2,dt,df];by_cases hlt:k<s.length
  ·have hd:=dD hlt;have step:Zak.j3 n (Zak.l2 n m) s (k:Int)=some (s.take (k+1+(bE (s.drop (k+1))).length),()):=by
    unfold Zak.j3;rw[w64 (by omega)];exact ih (k+1) (by omega) (by omega)
   rw[if_pos (by omega),if_pos (by omega),qD,letter_eq,ND];cases hl:isL (s.getD k 0) with
   |true=>
    rw[if_neg (by simp),step,hd];simp only[bE,List.takeWhile_cons,isW,hl,Bool.true_or,if_true,N9];rw[show k+1+((s.drop (k+1)).takeWhile isW).length=k+(((s.drop (k+1)).takeWhile isW).length+1) by omega]
   |false=>
    rw[if_pos rfl,if_pos (by omega),digit_eq,ND];cases hdg:isD (s.getD k 0) with
    |true=>
     rw[if_pos rfl,step,hd];simp only[bE,List.takeWhile_cons,isW,hl,hdg,Bool.or_true,if_true,N9];rw[show k+1+((s.drop (k+1)).takeWhile isW).length=k+(((s.drop (k+1)).takeWhile isW).length+1) by omega]
    |false=>
     rw[if_neg (by simp),hend,hd];simp only[bE,List.takeWhile_cons,isW,hl,hdg,Bool.or_self,Bool.false_eq_true,if_false,OE,Nat.add_zero]
  ·have:k=s.length:=by omega
   subst this;rw[if_neg (by omega),hend];simp[bE]
theorem Di(s:Str)(hs:s.length<=9223372036854775807):Zak.g s=some (bE s,()):=by
 unfold Zak.g Zak.f;have:=GR s hs (1000+s.length) (1000+s.length) 0 (by omega) (by omega);rw[show((0:Nat):Int)=0 from rfl] at this;rw[this];congr 2;simp only[Oi,Nat.zero_add];exact(List.prefix_iff_eq_take.1 (List.takeWhile_prefix isW)).symm
def fw(c:Int):Int:=if c / 32 % 2=1 then c else c+32
theorem FL:((List.range 256).all fun n=>decide (aQ .or .u8 (n:Int) 32=fw n))=true:=by decide +kernel
theorem lower_eq(b:UInt8):Zah.g (b.toNat:Int)=some (fw b.toNat,()):=by
 unfold Zah.g Zah.f;have:=Oe.1 FL b.toNat (by have:=b.toNat_lt;simpa using this)
 rw[of_decide_eq_true this]
def jL(b:UInt8):Option Nat:=
 if 48<=b.toNat/\b.toNat<=57 then some (b.toNat-48) else if 97<=b.toNat/\b.toNat<=122 then some (b.toNat-87) else if 65<=b.toNat/\b.toNat<=90 then some (b.toNat-55) else none
def bi(base:Nat):Nat->Str->Option Nat
 |n,[]=>some n
 |n,c::r=>match jL c with
  |some d=>if d<base then(if n*base+d<4294967296 then bi base (n*base+d) r else none) else none
  |none=>none
def PuR(o:Option Nat)(r:Option (Int×Option Int×Unit)):Prop:=
 (∀v,o=some v->r=some ((v:Int),none,()))/\(o=none->∃x e,r=some (x,some e,())/\(e=1\/e=2))
theorem PuR.bad{x e:Int}(h:e=1\/e=2):PuR none (some (x,some e,())):=⟨fun _ e=>(by cases e),fun _=>⟨x,e,rfl,h⟩⟩
theorem IL(s:Str)(k:Nat)(h:k<s.length):(s.map fun b=>(b.toNat:Int)).getD ((k:Int)).toNat 0=((s.getD k 0).toNat:Int):=by
 simp[List.getD,h]
theorem Jb{n:Nat}{rl:Int->Bool->Str->Int->Int->Bool->Int->(List Int)->Int->Int->Option (Int×(Option Int)×Unit)}{base d v k:Nat}{s9:Str}{cutoff:Int}{t:List Int}{l:Int}{o:Nat->Option Nat}(hb:base=10\/base=16)(hd:d<36)(hv:v<4294967296)(hc:4294967296<=cutoff)(hk:k<9223372036854775807)
  (hr:∀v,v<4294967296->PuR (o v) (rl base false s9 cutoff 4294967295 false v t l ((k+1:Nat):Int))) :
  PuR (if d<base then(if v*base+d<4294967296 then o (v*base+d) else none) else none) (Zaa.j46 n rl base false s9 cutoff 4294967295 false v d t l k):=by
 unfold Zaa.j46 Zaa.j55;have hm:v*base<68719476736:=by
  rcases hb with rfl|rfl<;>omega
 rw[w8u (by omega),w64 (x:=(k:Int)+1) (by omega),xq (x:=(base:Int)) (by omega),xq (x:=(d:Int)) (by omega)];have e1:((v:Int)*(base:Int))=((v*base:Nat):Int):=by simp
 rw[e1];have hr':=fun h=>hr (v*base+d) h
 generalize v*base=M at *;rw[xq (x:=(M:Int)) (by omega),xq (x:=(M:Int)+d) (by omega)];simp only[dt,df];by_cases h1:d<base
 ·by_cases h2:M+d<4294967296
  ·rw[if_pos h1,if_pos h2,if_neg (by omega),if_neg (by omega),if_pos (by omega),if_neg (by omega)];have:=hr' h2;simpa using this
  ·rw[if_pos h1,if_neg h2,if_neg (by omega),if_neg (by omega),if_pos (by omega),if_pos (by omega)];exact PuR.bad (.inl rfl)
 ·rw[if_neg h1,if_pos (by omega)];exact PuR.bad (.inr rfl)
theorem La(s s9:Str)(base:Nat)(cutoff:Int)(hb:base=10\/base=16)(hc:4294967296<=cutoff)(hs:s.length<9223372036854775807)(n:Nat):∀(m k v:Nat),k<=s.length->s.length-k<m->v<4294967296 ->
  PuR (bi base v (s.drop k)) (Zaa.l36 n m base false s9 cutoff 4294967295 false v (s.map fun b=>(b.toNat:Int)) ((s.map fun b=>(b.toNat:Int)).length:Int) k):=by
 intro m
 induction m with
 |zero=>intro k v _ h;omega
 |succ m ih=>
  intro k v hk hm hv;simp only[Zaa.l36,dt,df];by_cases hlt:k<s.length
  ·have hl:k<(s.map fun b=>(b.toNat:Int)).length:=by simpa using hlt
   rw[if_pos (by omega),if_pos (by omega),dD hlt];simp only[IL s k hlt,lower_eq,ND,Bool.false_eq_true,if_false];have step:∀d,jL (s.getD k 0)=some d->d<36->PuR (bi base v (s.getD k 0::s.drop (k+1))) (Zaa.j46 n (Zaa.l36 n m) base false s9 cutoff 4294967295 false v d (s.map fun b=>(b.toNat:Int)) ((s.map fun b=>(b.toNat:Int)).length:Int) k):=by
    intro d hd hd36;simp only[bi,hd];exact Jb (o:=fun v=>bi base v (s.drop (k+1))) hb hd36 hv hc (by omega) fun v hv=>ih (k+1) v (by omega) (by omega) hv
   have bad:jL (s.getD k 0)=none->PuR (bi base v (s.getD k 0::s.drop (k+1))) (some ((0:Int),some (2:Int),())):=by
    intro hd;simp only[bi,hd];exact PuR.bad (.inr rfl)
   generalize hbb:s.getD k 0=b at *;have hb1:=Ka b;have dig1:(48:Int)<=b.toNat->(b.toNat:Int)<=57->jL b=some (b.toNat-48):=fun h1 h2=>by unfold jL;rw[if_pos (by omega)]
   have dig2:¬((48:Int)<=b.toNat/\(b.toNat:Int)<=57)->(97:Int)<=fw b.toNat->fw b.toNat<=(122:Int)->∃d,jL b=some d/\d<36/\IntKind.u8.wrap (IntKind.u8.wrap (fw b.toNat-97)+10)=(d:Int):=fun h1 h2 h3=>by
    rw[w8u (x:=fw b.toNat-97) (by omega),w8u (by omega)];unfold fw at h2 h3⊢;unfold jL;rw[if_neg (by omega)];split at h2;·rw[if_pos (by omega)] at h3;rw[if_pos (by omega),if_pos (by omega)];exact⟨_,rfl,by omega,by omega⟩
    ·rw[if_neg (by omega)] at h3;rw[if_neg (by omega),if_pos (by omega),if_neg (by omega)];exact⟨_,rfl,by omega,by omega⟩
   have dig3:¬((48:Int)<=b.toNat/\(b.toNat:Int)<=57)->¬((97:Int)<=fw b.toNat/\fw b.toNat<=(122:Int))->jL b=none:=fun h1 h2=>by
    unfold fw at h2;unfold jL;rw[if_neg (by omega)];split at h2;·rw[if_neg (by omega),if_neg (by omega)]
    ·rw[if_neg (by omega),if_neg (by omega)]
   have wr:(48:Int)<=b.toNat->(b.toNat:Int)<=57->IntKind.u8.wrap ((b.toNat:Int)-48)=((b.toNat-48:Nat):Int):=fun h1 h2=>by rw[w8u (by omega)];omega
   have lets:¬((48:Int)<=b.toNat/\(b.toNat:Int)<=57)->PuR (bi base v (b::s.drop (k+1))) (if(97:Int)<=fw b.toNat then(if fw b.toNat<=(122:Int) then Zaa.j46 n (Zaa.l36 n m) base false s9 cutoff 4294967295 false v (IntKind.u8.wrap (IntKind.u8.wrap (fw b.toNat-97)+10)) (s.map fun b=>(b.toNat:Int)) ((s.map fun b=>(b.toNat:Int)).length:Int) k
     else some ((0:Int),some (2:Int),())) else some ((0:Int),some (2:Int),())):=by
    intro h0;by_cases h1:(97:Int)<=fw b.toNat
    ·rw[if_pos h1];by_cases h2:fw b.toNat<=(122:Int)
     ·rw[if_pos h2];obtain⟨d,hd,hd36,he⟩:=dig2 h0 h1 h2;rw[he];exact step d hd hd36
     ·rw[if_neg h2];exact bad (dig3 h0 fun h=>h2 h.2)
    ·rw[if_neg h1];exact bad (dig3 h0 fun h=>h1 h.1)
   have rest:PuR (bi base v (b::s.drop (k+1))) (if(48:Int)<=b.toNat then(if(b.toNat:Int)<=57 then Zaa.j46 n (Zaa.l36 n m) base false s9 cutoff 4294967295 false v (IntKind.u8.wrap ((b.toNat:Int)-48)) (s.map fun b=>(b.toNat:Int)) ((s.map fun b=>(b.toNat:Int)).length:Int) k
     else(if(97:Int)<=fw b.toNat then(if fw b.toNat<=(122:Int) then Zaa.j46 n (Zaa.l36 n m) base false s9 cutoff 4294967295 false v (IntKind.u8.wrap (IntKind.u8.wrap (fw b.toNat-97)+10)) (s.map fun b=>(b.toNat:Int)) ((s.map fun b=>(b.toNat:Int)).length:Int) k
     else some ((0:Int),some (2:Int),())) else some ((0:Int),some (2:Int),())))
     else(if(97:Int)<=fw b.toNat then(if fw b.toNat<=(122:Int) then Zaa.j46 n (Zaa.l36 n m) base false s9 cutoff 4294967295 false v (IntKind.u8.wrap (IntKind.u8.wrap (fw b.toNat-97)+10)) (s.map fun b=>(b.toNat:Int)) ((s.map fun b=>(b.toNat:Int)).length:Int) k
     else some ((0:Int),some (2:Int),())) else some ((0:Int),some (2:Int),()))):=by
    by_cases h1:(48:Int)<=b.toNat
    ·rw[if_pos h1];by_cases h2:(b.toNat:Int)<=57
     ·rw[if_pos h2,wr h1 h2];exact step _ (dig1 h1 h2) (by omega)
     ·rw[if_neg h2];exact lets fun h=>h2 h.2
    ·rw[if_neg h1];exact lets fun h=>h1 h.1
   split;·exact rest
   ·exact rest
  ·have:k=s.length:=by omega
   subst this;rw[if_neg (by simp),Ol];simp only[Bool.false_eq_true,if_false];exact⟨fun v' e=>by simp only[bi,NC] at e;rw[e],fun e=>by simp[bi] at e⟩
theorem BJ(s:Str)(base:Nat)(hb:base=10\/base=16)(hs:s.length<9223372036854775807):PuR (if s=[] then none else bi base 0 s) (Zaa.g s base 32):=by
 unfold Zaa.g Zaa.f;simp only[dt,df];by_cases h0:s=[]
 ·rw[if_pos h0,if_pos h0];exact PuR.bad (.inr rfl)
 ·rw[if_neg h0,if_neg h0,if_pos (by omega),if_pos (by omega)];have hb0:decide ((base:Int)=0)=false:=by simp;omega
  rw[hb0];unfold Zaa.j21;simp only[dt,df];rw[if_neg (by omega),if_pos (by omega),if_neg (by omega)];unfold Zaa.j25;simp only[dt,df];have fin:∀cutoff:Int,4294967296<=cutoff->PuR (bi base 0 s) (Zaa.j32 (1000+s.length+(base:Int).toNat+(32:Int).toNat) s base 32 false s cutoff):=by
   intro cutoff hc;unfold Zaa.j32;have e1:IntKind.u64.wrap 32=32:=xq (by omega);rw[e1,if_neg (by omega)];have e2:IntKind.u64.wrap (IntKind.u64.wrap (1*2 ^ min (32:Int).toNat IntKind.u64.bits)-1)=4294967295:=by decide
   rw[e2];have:=La s s base cutoff hb hc hs (1000+s.length+(base:Int).toNat+(32:Int).toNat) (1000+s.length+(base:Int).toNat+(32:Int).toNat) 0 0 (by omega) (by omega) (by omega);simpa using this
  rcases hb with rfl|rfl;·rw[if_pos (by omega)];exact fin _ (by omega)
  ·rw[if_neg (by omega),if_pos (by omega)];exact fin _ (by omega)
theorem I7(s:Str)(base:Nat)(hb:base=10\/base=16)(hs:s.length<=281474976710656):(∀v,(if s=[] then none else bi base 0 s)=some v->Zcc.g s base 32=some ((v:Int),true,())) /\
  ((if s=[] then none else bi base 0 s)=none->∃x,Zcc.g s base 32=some (x,false,())):=by
 obtain⟨h1,h2⟩:=BJ s base hb (by omega);refine⟨fun v hv=>?_,fun hn=>?_⟩;·unfold Zcc.g Zcc.f;rw[h1 v hv];rfl
 ·obtain⟨x,e,he,hc⟩:=h2 hn;unfold Zcc.g Zcc.f;rw[he];simp only[ND,Option.isNone_some,Bool.not_false,if_true,L.toErrorO,NC];rw[if_pos ⟨hs,hc⟩];exact⟨x,rfl⟩
theorem qH:∀{s:Str}{c:UInt8},Lib.contains s [c]=true->c∈s
 |[],c,h=>by simp[Lib.contains,Lib.index] at h
 |b::l,c,h=>by
  by_cases hb:c=b;·simp[hb]
  ·have:Lib.contains l [c]=true:=by
    simp only[Lib.contains,Lib.index,List.isPrefixOf,Bool.and_true,beq_iff_eq,NN] at h⊢;rw[if_neg hb] at h;split at h;·omega
    ·have:=Lib.index_ge l [c];rename_i hne;have:¬Lib.index l [c]=-1:=by simpa using hne
     omega
   exact NR _ (qH this)
theorem tT{base:Nat}:∀{s:Str}{v:Nat},(95:UInt8)∈s->bi base v s=none
 |[],_,h=>by cases h
 |c::r,v,h=>by
  simp only[bi];rcases NS.1 h with h|h
  ·rw[<- h];have:jL 95=none:=by decide
   rw[this]
  ·(repeat' split)<;>first|rfl|exact tT h
theorem o7{base:Nat}:∀{s:Str}{v w:Nat},v<4294967296->bi base v s=some w->w<4294967296
 |[],_,_,hv,h=>by simp only[bi,NC] at h;omega
 |c::r,v,w,hv,h=>by
  simp only[bi] at h;split at h
  ·split at h
   ·split at h
    ·exact o7 (by assumption) h
    ·cases h
   ·cases h
  ·cases h
def num(s:Str):Option Nat:=
 if([48,120]:Str).isPrefixOf s then(if s.drop 2=[] then none else bi 16 0 (s.drop 2)) else if s=[] then none else bi 10 0 s
theorem Mq{s:Str}{v:Nat}(h:num s=some v):v<4294967296:=by
 unfold num at h;split at h<;>split at h<;>first|(cases h;done)|exact o7 (by omega) h
theorem tV(s:Str)(base:Nat)(n:Nat)(hb:base=10\/base=16)(hs:s.length<=1000000) :
  (∀v,(if s=[] then none else bi base 0 s)=some v->Zbe.j5 n s base=some ((v:Int),true,()))/\((if s=[] then none else bi base 0 s)=none->∃x,Zbe.j5 n s base=some (x,false,())):=by
 have hcO:L.containsO s [95]=some (Lib.contains s [95],()):=by unfold L.containsO;rw[if_pos (by omega)]
 unfold Zbe.j5;rw[hcO,ND];obtain⟨h1,h2⟩:=I7 s base hb (by omega);by_cases hc:Lib.contains s [95]=true
 ·simp only[hc,if_true];have hm:=qH hc;have hne:s≠[]:=by rintro rfl;cases hm
  rw[if_neg hne,tT hm];exact⟨fun v e=>(by cases e),fun _=>⟨_,rfl⟩⟩
 ·simp only[hc,Bool.false_eq_true,if_false];refine⟨fun v hv=>?_,fun hn=>?_⟩
  ·have hlt:v<4294967296:=by
    split at hv;·cases hv
    ·exact o7 (by omega) hv
   rw[h1 v hv,ND,NB (by omega)]
  ·obtain⟨x,hx⟩:=h2 hn;rw[hx,ND];exact⟨_,rfl⟩
theorem number_eq(s:Str)(hs:s.length<=1000000):(∀v,num s=some v->Zbe.g s=some ((v:Int),true,()))/\(num s=none->∃x,Zbe.g s=some (x,false,())):=by
 unfold Zbe.g Zbe.f num L.cutIs L.cutRest Lib.trimPrefix Lib.hasPrefix;by_cases hp:([48,120]:Str).isPrefixOf s=true;·simp only[hp,if_true];exact tV (s.drop 2) 16 _ (.inr rfl) (by simp;omega)
 ·have hp':([48,120]:Str).isPrefixOf s=false:=Bool.eq_false_iff.2 hp;simp only[hp',Bool.false_eq_true,if_false];exact tV s 10 _ (.inl rfl) hs
abbrev Tok:=Int×Int×Str×Int×Unit
def isS(c:UInt8):Bool:=([44,58,43,45,42,40,41,61]:Str).contains c
def p8(c:UInt8)(r:Str):Except Int (Nat×Int×Str×Int):=
 if isL c then .ok (0,1,bE (c::r),0)
 else if isD c then match num (bE (c::r)) with
  |some v=>.ok (0,2,bE (c::r),v)
  |none=>.error 21
 else if c=46/\(∃d∈r.head?,isL d) then .ok (1,4,bE r,0)
 else if isS c then .ok (0,3,[c],0)
 else .error 20
def bF(k:Int):Str->Except Int (List Tok)
 |[]=>.ok []
 |c::r=>
  if c=59 then .ok []
  else if c=32\/c=9 then bF (k+1) r
  else match p8 c r with
   | .error e=>.error e
   | .ok (d,q,t,v)=>match bF (k+d+t.length) (r.drop (d+t.length-1)) with
    | .error e=>.error e
    | .ok l=>.ok ((q,k,t,v,())::l)
termination_by s=>s.length
decreasing_by
 all_goals simp
 all_goals omega
theorem l9(k:Int):bF k []=.ok []:=by rw[bF]
theorem kI(k:Int)(c:UInt8)(r:Str):bF k (c::r)=if c=59 then .ok [] else if c=32\/c=9 then bF (k+1) r else match p8 c r with
   | .error e=>.error e
   | .ok (d,q,t,v)=>match bF (k+d+t.length) (r.drop (d+t.length-1)) with
    | .error e=>.error e
    | .ok l=>.ok ((q,k,t,v,())::l):=by rw[bF]
theorem Jm:((List.range 256).all fun n=>decide ((0<=L.indexByte ([44,58,43,45,42,40,41,61]:Str) (n:Int))=(isS (UInt8.ofNat n)=true)))=true:=by decide +kernel
theorem Ll(b:UInt8):(0<=L.indexByte ([44,58,43,45,42,40,41,61]:Str) (b.toNat:Int))=(isS b=true):=by
 have:=Oe.1 Jm b.toNat (by have:=b.toNat_lt;simpa using this)
 have h:=of_decide_eq_true this;simpa using h
def bf(out:List Tok):Except Int (List Tok)->List Tok×Int×Unit
 | .ok l=>(out++l,0,())
 | .error e=>([],e,())
theorem zQ(out:List Tok)(t:Tok)(x:Except Int (List Tok)):bf (out++[t]) x=bf out (match x with | .error e=>.error e | .ok l=>.ok (t::l)):=by
 cases x<;>simp[bf]
theorem sH(s:Str):(bE s).length<=s.length:=(List.takeWhile_prefix isW).length_le
theorem wE{c:UInt8}{r:Str}(h:isW c=true):1<=(bE (c::r)).length:=by
 simp[bE,List.takeWhile_cons,h]
theorem FK(s:Str)(hs:s.length<=1000000)(n:Nat):∀(m k:Nat) (out:List Tok),k<=s.length->s.length-k<m->out.length<=k->Zae.g0 n m s out (k:Int)=some (bf out (bF k (s.drop k))):=by
 intro m
 induction m with
 |zero=>intro k out _ h;omega
 |succ m ih=>
  intro k out hk hm hout;have e1:IntKind.i64.wrap ((k:Int)+1)=((k+1:Nat):Int):=by rw[w64 (by omega)];omega
  by_cases hlt:k<s.length
  ·have tok:∀(d:Nat) (q:Int) (t:Str) (v:Int),1<=d+t.length->k+d+t.length<=s.length->Zae.j23 n (Zae.g0 n m) s out ((k+d:Nat):Int) q (k:Int) t v=some (bf out (match bF ((k:Int)+d+t.length) ((s.drop (k+1)).drop (d+t.length-1)) with
     | .error e=>.error e
     | .ok l=>.ok ((q,k,t,v,())::l))):=by
    intro d q t v h1 h2;unfold Zae.j23;rw[if_pos (by simp;omega),w64 (by omega)];have:=ih (k+d+t.length) (out++[(q,(k:Int),t,v,())]) h2 (by omega) (by simp;omega);rw[zQ] at this;rw[show((k+d:Nat):Int)+(t.length:Int)=((k+d+t.length:Nat):Int) by omega,List.drop_drop,show k+1+(d+t.length-1)=k+d+t.length by omega,show(k:Int)+(d:Int)+(t.length:Int)=((k+d+t.length:Nat):Int) by omega];exact this
   have tok0:=fun q t v h1 h2=>tok 0 q t v h1 h2
   simp only[Nat.add_zero,Nat.zero_add] at tok0;have tok1:=fun q t v h1 h2=>tok 1 q t v h1 h2
   have skip:Zae.g0 n m s out ((k+1:Nat):Int)=some (bf out (bF ((k:Int)+1) (s.drop (k+1)))):=by
    rw[show(k:Int)+1=((k+1:Nat):Int) by omega];exact ih (k+1) out (by omega) (by omega) (by omega)
   rw[dD hlt,kI];simp only[Zae.g0,dt,df];simp only[e1,qD,letter_eq,digit_eq,ND,NU,List.take_length,Ll];rw[if_pos (by omega),if_pos (by omega)];have hw0:=Di (s.drop k) (by simp;omega);have hw1:=Di (s.drop (k+1)) (by simp;omega);rw[hw0,hw1,dD hlt];have hl0:=sH (s.drop k);have hl1:=sH (s.drop (k+1));rw[dD hlt] at hl0;have hd0:(s.drop (k+1)).length=s.length-(k+1):=by simp
   have hd1:(s.getD k 0::s.drop (k+1)).length=s.length-k:=by simp;omega
   have hsign:(s.take (k+1)).drop k=[s.getD k 0]:=by
    rw[List.drop_take,dD hlt];simp[show k+1-k=1 by omega]
   have hhead:(∃d∈(s.drop (k+1)).head?,isL d=true)↔k+1<s.length/\isL (s.getD (k+1) 0)=true:=by
    by_cases h:k+1<s.length;·rw[dD h];simp[h]
    ·rw[List.drop_eq_nil_of_le (by omega)];simp[h]
   have hwp:=@wE (s.getD k 0) (s.drop (k+1));have hwq:k+1<s.length->isL (s.getD (k+1) 0)=true->1<=(bE (s.drop (k+1))).length:=fun h h'=>by
    rw[dD h];exact wE (by unfold isW;rw[h'];rfl)
   rw[hsign];have b59:(((s.getD k 0).toNat:Int)=59)=(s.getD k 0=59):=kT _ 59 (by decide);have b32:(((s.getD k 0).toNat:Int)=32)=(s.getD k 0=32):=kT _ 32 (by decide);have b9:(((s.getD k 0).toNat:Int)=9)=(s.getD k 0=9):=kT _ 9 (by decide);have b46:(((s.getD k 0).toNat:Int)=46)=(s.getD k 0=46):=kT _ 46 (by decide);generalize s.getD k 0=b at *;by_cases h59:b=59;·rw[if_pos (by rw[h59];rfl),if_pos h59];simp[bf]
   ·rw[if_neg (fun h=>h59 (b59.mp h)),if_neg h59,if_pos (by omega)];by_cases h32:b=32
    ·rw[if_neg (fun h=>h (b32.mpr h32)),if_pos (.inl h32)];exact skip
    ·rw[if_pos (fun h=>h32 (b32.mp h))];by_cases h9:b=9
     ·rw[if_pos (b9.mpr h9),if_pos (.inr h9)];exact skip
     ·rw[if_neg (fun h=>h9 (b9.mp h)),if_neg (show ¬(b=32\/b=9) from fun h=>h.elim h32 h9)];unfold p8;by_cases hL:isL b=true
      ·rw[if_pos hL,if_pos hL,if_pos (by omega)];simp only[ND];rw[tok0 _ _ _ (hwp (by simp[isW,hL])) (by omega)];simp
      ·rw[if_neg hL,if_neg hL];by_cases hD:isD b=true
       ·rw[if_pos hD,if_pos hD,if_pos (by omega)];simp only[ND];obtain⟨h1,h2⟩:=number_eq (bE (b::s.drop (k+1))) (by omega);cases hn:num (bE (b::s.drop (k+1))) with
        |none=>
         obtain⟨x,hx⟩:=h2 hn;rw[hx];simp[bf]
        |some v=>
         rw[h1 v hn];simp only[ND,Bool.not_true,Bool.false_eq_true,if_false];rw[tok0 _ _ _ (hwp (by simp[isW,hD])) (by omega)];simp
       ·rw[if_neg hD,if_neg hD];have sgn:(if isS b=true then(if 0<=((k+1:Nat):Int)/\((k+1:Nat):Int)<=(s.length:Int) then(if 0<=(k:Int)/\(k:Int)<=((k+1:Nat):Int) then Zae.j23 n (Zae.g0 n m) s out k 3 k [b] 0 else none) else none) else some ([],20,())) =
          some (bf out (match (if isS b=true then Except.ok (0,3,[b],0) else Except.error 20:Except Int (Nat×Int×Str×Int)) with
           | .error e=>.error e
           | .ok (d,q,t,v)=>match bF (k+d+t.length) ((s.drop (k+1)).drop (d+t.length-1)) with
            | .error e=>.error e
            | .ok l=>.ok ((q,k,t,v,())::l))):=by
         by_cases hS:isS b=true;·rw[if_pos hS,if_pos hS,if_pos (by omega),if_pos (by omega),tok0 _ _ _ (by simp) (by simp;omega)];simp
         ·rw[if_neg hS,if_neg hS];simp[bf]
        by_cases h46:b=46
        ·rw[if_pos (b46.mpr h46)];by_cases hk1:k+1<s.length
         ·rw[if_pos (by omega),if_pos (by omega)];by_cases hL1:isL (s.getD (k+1) 0)=true
          ·rw[if_pos hL1,if_pos (by omega),if_pos ⟨h46,hhead.mpr ⟨hk1,hL1⟩⟩];simp only[ND];have:=hwq hk1 hL1;rw[tok1 _ _ _ (by omega) (by omega)]
          ·rw[if_neg hL1,if_neg (show ¬(b=46/\∃d∈(s.drop (k+1)).head?,isL d=true) from fun h=>hL1 (hhead.mp h.2).2)];exact sgn
         ·rw[if_neg (by omega),if_neg (show ¬(b=46/\∃d∈(s.drop (k+1)).head?,isL d=true) from fun h=>hk1 (hhead.mp h.2).1)];exact sgn
        ·rw[if_neg (fun h=>h46 (b46.mp h)),if_neg (show ¬(b=46/\∃d∈(s.drop (k+1)).head?,isL d=true) from fun h=>h46 h.1)];exact sgn
  ·have:k=s.length:=by omega
   subst this;simp only[Zae.g0,dt,df];rw[if_neg (by omega),Ol,l9];simp[bf]
theorem KO(s:Str)(hs:s.length<=1000000):Zae.g s=some (bf [] (bF 0 s)):=by
 unfold Zae.g Zae.f;have:=FK s hs (1000+s.length) (1000+s.length) 0 [] (by omega) (by omega) (by simp);simpa using this
end Rv
namespace Rv
open Go
def shift(j:Int)(t:Tok):Tok:=(t.1,t.2.1+j,t.2.2)
theorem yx{s:Str}:(59:UInt8) ∉ s.takeWhile isW:=by
 intro h;have h1:(s.takeWhile isW).all isW=true:=List.all_takeWhile;have:=Oe.1 h1 59 h;exact absurd this (by decide)
theorem JV(s:Str):s.take (s.takeWhile isW).length=s.takeWhile isW:=(List.prefix_iff_eq_take.1 (List.takeWhile_prefix isW)).symm
theorem Jz{c:UInt8}{r:Str}{d:Nat}{q:Int}{t:Str}{v:Int}(h:p8 c r=.ok (d,q,t,v)):1<=d+t.length/\d+t.length-1<=r.length/\(59:UInt8) ∉ r.take (d+t.length-1):=by
 have wc:isW c=true->1<=0+(bE (c::r)).length/\0+(bE (c::r)).length-1<=r.length/\(59:UInt8) ∉ r.take (0+(bE (c::r)).length-1):=by
  intro hc;have:bE (c::r)=c::r.takeWhile isW:=by simp[bE,List.takeWhile_cons,hc]
  rw[this];have hl:=(List.takeWhile_prefix isW (l:=r)).length_le;simp only[N9];refine⟨by omega,by omega,?_⟩;rw[show 0+((r.takeWhile isW).length+1)-1=(r.takeWhile isW).length by omega,JV];exact yx
 unfold p8 at h;split at h;·rename_i hL;simp only[Except.ok.injEq,NG] at h;obtain⟨rfl,rfl,rfl,rfl⟩:=h;exact wc (by simp[isW,hL])
 ·split at h
  ·rename_i hD;split at h
   ·simp only[Except.ok.injEq,NG] at h;obtain⟨rfl,rfl,rfl,rfl⟩:=h;exact wc (by simp[isW,hD])
   ·cases h
  ·split at h
   ·simp only[Except.ok.injEq,NG] at h;obtain⟨rfl,rfl,rfl,rfl⟩:=h;have hl:=sH r;refine⟨by omega,by omega,?_⟩;rw[show 1+(bE r).length-1=(r.takeWhile isW).length by unfold bE;omega,JV];exact yx
   ·split at h
    ·simp only[Except.ok.injEq,NG] at h;obtain⟨rfl,rfl,rfl,rfl⟩:=h;simp
    ·cases h
theorem qY:∀(n:Nat) (k:Int) (s:Str) (l:List Tok),s.length<=n->bF k s=.ok l->l.length<=s.length
 |_,k,[],l,_,h=>by rw[l9] at h;cases h;simp
 |0,k,c::r,l,hn,_=>by simp at hn
 |n+1,k,c::r,l,hn,h=>by
  simp only[N9] at hn⊢;rw[kI] at h;split at h;·cases h;simp
  ·split at h
   ·have:=qY n (k+1) r l (by omega) h;omega
   ·split at h
    ·cases h
    ·split at h
     ·cases h
     ·rename_i l' hl;cases h;have:=qY n _ _ l' (by simp;omega) hl;simp at this⊢;omega
theorem Bp{k:Int}{s:Str}:(bf [] (bF k s)).1.length<=s.length:=by
 cases h:bF k s with
 |error e=>simp[bf]
 |ok l=>simpa[bf] using qY s.length k s l (NM _) h
end Rv
namespace Rv
open Go
end Rv
namespace Rv
open Go
end Rv
namespace Rv
open Go
def nN(s:Str):Bool:=decide (s.getD 0 0=82)&&(decide (s.length=2)||decide (s.length=3))&&(s.drop 1).all isD
def bA(s:Str):Bool:=decide (s≠[])&&decide (s.length<=12)&&!isD (s.getD 0 0)&&s.all isW&&!nN s
def D5(b:Int):Bool:=
 if aQ .or .u8 b 32<97\/122<aQ .or .u8 b 32\/b<65 then decide (b=95)||(!decide (b<48)&&!decide (57<b)) else true
theorem Iz:((List.range 256).all fun k=>D5 k == isW (UInt8.ofNat k))=true:=by decide +kernel
theorem KI(b:UInt8):D5 b.toNat=isW b:=by
 have h:=Oe.1 Iz b.toNat (by simp;exact b.toNat_lt)
 simpa using h
theorem F3(p:Prop):p=True\/p=False:=(Classical.em p).imp eq_true eq_false
theorem D7(s:Str)(n m:Nat)(i:Nat)(h1:i<s.length)(X:Option (Bool×Unit))(hX:Zac.j9 n (Zac.l4 n m) s (s.length:Int) (i:Int)=X) :
  Zac.l4 n (m+1) s (s.length:Int) (i:Int)=if D5 (bt s i)=true then X else some (false,()):=by
 have hc:(0:Int)<=i/\(i:Int)<s.length:=by omega
 have hc2:(i:Int)<s.length:=hc.2;simp only[Zac.l4,dt,df,hX,D5];by_cases a1:aQ .or .u8 (bt s i) 32<97<;>by_cases a2:122<aQ .or .u8 (bt s i) 32<;>by_cases a3:bt s i<65<;>rcases F3 (bt s i=95) with a4|a4<;>by_cases a5:bt s i<48<;>by_cases a6:57<bt s i<;>
  simp only[hc,hc2,a1,a2,a3,a4,a5,a6,if_true,if_false,not_true_eq_false,not_false_eq_true,ne_eq,true_or,or_true,or_false,false_or,or_self,and_self,true_and,decide_true,decide_false,Bool.true_or,Bool.false_or,Bool.not_true,Bool.not_false,Bool.and_true,Bool.and_false,Bool.false_and,Bool.true_and,Bool.or_self,Bool.or_false,Bool.or_true,Bool.false_eq_true]
theorem D6(s:Str)(hs:s.length<=12)(n:Nat):∀(m i:Nat),i<=s.length->s.length-i<m ->
  Zac.l4 n m s (s.length:Int) (i:Int)=if(s.drop i).all isW=true then Zac.l4 n 1 s (s.length:Int) (s.length:Int) else some (false,()):=by
 intro m
 induction m with
 |zero=>intro i _ h;omega
 |succ m ih=>
  intro i hi hm;by_cases h1:i<s.length
  ·have hnext:Zac.j9 n (Zac.l4 n m) s (s.length:Int) (i:Int)=if(s.drop (i+1)).all isW=true then Zac.l4 n 1 s (s.length:Int) (s.length:Int) else some (false,()):=by
    unfold Zac.j9;rw[w64 (by omega),show(i:Int)+1=((i+1:Nat):Int) by omega];exact ih (i+1) (by omega) (by omega)
   rw[D7 s n m i h1 _ hnext,qD,KI,dD h1,OH];cases hw:isW (s.getD i 0);·rfl
   ·rw[if_pos rfl,Bool.true_and]
  ·have hi':i=s.length:=by omega
   subst hi';rw[Ol,List.all_nil,if_pos rfl];have hlt:¬((s.length:Int)<s.length):=by omega
   simp only[Zac.l4,dt,hlt,if_false]
theorem Fb(b:UInt8):L.isDig b=isD b:=by simp[L.isDig,isD]
theorem nu{p:UInt8->Bool}:∀{l:Str}{a:UInt8}{r:Str},l.dropWhile p=a::r->p a=false
 |[],_,_,h=>by simp at h
 |b::l,a,r,h=>by
  rw[List.dropWhile_cons] at h;cases hb:p b;·rw[hb] at h;simp only[Bool.false_eq_true,if_false,List.cons.injEq] at h;rw[<- h.1];exact hb
  ·rw[hb] at h;exact nu (l:=l) (by simpa using h)
theorem Ba(s:Str):(L.trimDig s=[])=(s.all isD=true):=by
 have gen:∀l:Str,(l.dropWhile L.isDig=[])↔l.all isD=true:=fun l=>by
  induction l with
  |nil=>simp
  |cons a l ih=>
   simp only[List.dropWhile_cons,OH,Fb];cases h:isD a;·simp
   ·simp[ih]
 unfold L.trimDig;apply propext;rw[gen];constructor
 ·intro h;have h0:(s.reverse.dropWhile L.isDig)=[]:=by
   cases hr:s.reverse.dropWhile L.isDig with
   |nil=>rfl
   |cons a r=>
    exfalso;rw[hr] at h;have ha:isD a=true:=Oe.1 h a (by simp);rw[<- Fb,nu hr] at ha;cases ha
  rw[gen] at h0;simpa using h0
 ·intro h;have h0:s.reverse.dropWhile L.isDig=[]:=(gen _).2 (by simpa using h);rw[h0];rfl
theorem uE(s:Str):Zac.g s=some (bA s,()):=by
 unfold Zac.g Zac.f;simp only[dt,df];by_cases h0:s=[]
 ·subst h0;rw[if_neg (by simp)];rfl
 ·rw[if_pos h0];have hl0:0<s.length:=List.length_pos_iff.2 h0;by_cases h12:s.length<=12
  ·rw[if_pos (by omega),if_pos (by omega)];have hj:¬isD (s.getD 0 0)=true->Zac.j3 (1000+s.length) s=some (bA s,()):=fun hd=>by
    unfold Zac.j3;have:=D6 s h12 (1000+s.length) (1000+s.length) 0 (by omega) (by omega);rw[Oi] at this;rw[show((0:Nat):Int)=0 from rfl] at this;rw[this];by_cases hw:s.all isW=true
    ·rw[if_pos hw];simp only[Zac.l4,dt,df,qD];rw[if_neg (by omega),if_pos (by omega)];have hbt:bt s 0=((s.getD 0 0).toNat:Int):=rfl;simp only[hbt];have h82:(((s.getD 0 0).toNat:Int)=82)=(s.getD 0 0=82):=kT _ 82 (by omega);simp only[h82];have htake:(s.take (s.length:Int).toNat).drop (1:Int).toNat=s.drop 1:=by
      rw[show(s.length:Int).toNat=s.length by omega,List.take_length];rfl
     have htrim:s.length<=3->L.trimO ((s.take (s.length:Int).toNat).drop (1:Int).toNat) [48,49,50,51,52,53,54,55,56,57]=some (L.trimDig (s.drop 1),()):=fun h=>by
      rw[htake];unfold L.trimO;rw[if_pos ⟨rfl,by simp;omega⟩]
     have hL:bA s=!nN s:=by
      unfold bA;rw[decide_eq_true (show s≠[] from h0),decide_eq_true h12,show isD (s.getD 0 0)=false by simpa using hd,hw];rfl
     have hT:decide (L.trimDig (s.drop 1)=[])=(s.drop 1).all isD:=by
      rw[Bool.eq_iff_iff,NN,Ba]
     rw[hL];unfold nN;by_cases hR:s.getD 0 0=82
     ·rw[if_pos hR,decide_eq_true hR];by_cases h2:s.length=2
      ·rw[if_neg (by omega),if_pos (by omega),htrim (by omega),ND,decide_eq_true h2];dsimp only;rw[hT];rfl
      ·rw[if_pos (by omega),decide_eq_false h2];by_cases h3:s.length=3
       ·rw[if_pos (by omega),if_pos (by omega),htrim (by omega),ND,decide_eq_true h3];dsimp only;rw[hT];rfl
       ·rw[if_neg (by omega),decide_eq_false h3];rfl
     ·rw[if_neg hR,decide_eq_false hR];rfl
    ·rw[if_neg hw];simp[bA,hw]
   have hbt:bt s 0=((s.getD 0 0).toNat:Int):=rfl;simp only[hbt];by_cases h48:(48:Int)<=(s.getD 0 0).toNat
   ·rw[if_pos h48,if_pos (by omega)];by_cases h57:((s.getD 0 0).toNat:Int)<=57
    ·rw[if_pos h57];have hd:isD (s.getD 0 0)=true:=by unfold isD;rw[NN];omega
     unfold bA;rw[hd,decide_eq_true (show s≠[] from h0),decide_eq_true h12];rfl
    ·rw[if_neg h57];exact hj (by unfold isD;rw[NN];omega)
   ·rw[if_neg h48];exact hj (by unfold isD;rw[NN];omega)
  ·rw[if_neg (by omega)];simp[bA,h12]
end Rv
namespace Rv
open Go
abbrev Item:=Int×Int×Str×Unit
def aB(x:Item):Int×Bool:=
 if x.1=1 then(0,decide (x.2.2.1=[]))
 else if x.1=2 then(0,decide (x.2.1=0)&&bA x.2.2.1)
 else if x.1=3 then(1,decide (x.2.1=0)&&decide (x.2.2.1=[]))
 else if x.1=4\/x.1=5\/x.1=6 then(2,decide (x.2.1=0)&&decide (x.2.2.1=[]))
 else(0,false)
theorem IQ(a b:Int)(c:Str):Zce.g a b c=some ((aB (a,b,c,())).1,(aB (a,b,c,())).2,()):=by
 unfold Zce.g Zce.f;simp only[Zce.j2,dt,uE,ND];unfold aB;dsimp only;rcases F3 (b=0) with hb|hb
 all_goals
  by_cases h1:a=1;·subst h1;simp only[hb,if_true,if_false,decide_true,decide_false]
  by_cases h2:a=2;·subst h2;simp only[hb,if_true,if_false,decide_true,decide_false,Bool.true_and,Bool.false_and,show ¬((2:Int)=1) by decide]
  by_cases h3:a=3;·subst h3;simp only[hb,if_true,if_false,decide_true,decide_false,Bool.true_and,Bool.false_and,show ¬((3:Int)=1) by decide,show ¬((3:Int)=2) by decide]
  by_cases h4:a=4;·subst h4;simp only[hb,if_true,if_false,decide_true,decide_false,Bool.true_and,Bool.false_and,true_or,show ¬((4:Int)=1) by decide,show ¬((4:Int)=2) by decide,show ¬((4:Int)=3) by decide]
  by_cases h5:a=5;·subst h5;simp only[hb,if_true,if_false,decide_true,decide_false,Bool.true_and,Bool.false_and,true_or,or_true,show ¬((5:Int)=1) by decide,show ¬((5:Int)=2) by decide,show ¬((5:Int)=3) by decide,show ¬((5:Int)=4) by decide]
  by_cases h6:a=6;·subst h6;simp only[hb,if_true,if_false,decide_true,decide_false,Bool.true_and,Bool.false_and,true_or,or_true,show ¬((6:Int)=1) by decide,show ¬((6:Int)=2) by decide,show ¬((6:Int)=3) by decide,show ¬((6:Int)=4) by decide,show ¬((6:Int)=5) by decide]
  simp only[hb,h1,h2,h3,h4,h5,h6,if_true,if_false,or_self]
def iL:Int->List Item->Bool
 |t,[]=>decide (t=1)
 |t,x::r=>(aB x).2&&(!decide (t<(aB x).1)&&iL (t+(1-(aB x).1)) r)
def well(e:List Item):Bool:=iL 0 e&&decide (e.length<=64)
theorem BF(x:Item):0<=(aB x).1/\(aB x).1<=2:=by
 unfold aB;split;·simp
 ·split
  ·simp
  ·split
   ·simp
   ·split<;>simp
theorem GM(e:List Item)(he:e.length<=4611686018427387904)(n:Nat):∀(m i:Nat) (t:Int),i<=e.length->e.length-i<m->0<=t->t<=i ->
  Zbk.l3 n m e t e (e.length:Int) (i:Int)=some (iL t (e.drop i)&&decide (e.length<=64),()):=by
 intro m
 induction m with
 |zero=>intro i t _ h;omega
 |succ m ih=>
  intro i t hi hm h0 ht;by_cases h1:i<e.length
  ·have hx:e.drop i=e.getD i ((0:Int),((0:Int),(([]:Str),())))::e.drop (i+1):=by
    rw[Og h1,NH,NL h1];rfl
   rw[hx];simp only[Zbk.l3,dt,df,IQ,ND];rw[if_pos (by omega),if_pos (by omega),NU];generalize e.getD i ((0:Int),((0:Int),(([]:Str),())))=x;obtain⟨a,b,c,u⟩:=x;cases u;have hr:=BF (a,b,c,());simp only[iL];generalize aB (a,b,c,())=y at *;obtain⟨k,ok⟩:=y;simp only at hr⊢;cases ok;·rfl
   ·rw[if_pos (show(!true)=false from rfl)];by_cases h2:t<k
    ·rw[if_pos h2];simp[h2]
    ·rw[if_neg h2,w64 (x:=1-k) (by omega),w64 (x:=t+(1-k)) (by omega),w64 (x:=(i:Int)+1) (by omega),show(i:Int)+1=((i+1:Nat):Int) by omega];rw[ih (i+1) (t+(1-k)) (by omega) (by omega) (by omega) (by omega)];simp[h2]
  ·have hi':i=e.length:=by omega
   subst hi';simp only[Zbk.l3,dt];rw[if_neg (by omega),Ol];simp only[iL];by_cases h3:t=1;·rw[if_pos h3];simp[h3];omega
   ·rw[if_neg h3];simp[h3]
theorem LD(e:List Item)(he:e.length<=4611686018427387904):Zbk.g e=some (well e,()):=by
 unfold Zbk.g Zbk.f;exact GM e he _ _ 0 0 (by omega) (by omega) (by omega) (by omega)
end Rv
namespace Rv
open Go
abbrev Sym:=Str×Int×Unit
def bB(s:Str):List Sym->Option Int
 |[]=>none
 |x::r=>if x.1=s then some x.2.1 else bB s r
def kG(s:Str):List Sym->Option Nat
 |[]=>none
 |x::r=>if x.1=s then some 0 else(kG s r).map (·+1)
theorem DV(l:List Sym)(s:Str)(hl:l.length<=4611686018427387904)(n:Nat):∀(m i:Nat),i<=l.length->l.length-i<m ->
  Zbq.l2 n m l (l.length:Int) (i:Int) s=some ((match kG s (l.drop i) with|some k=>((i+k:Nat):Int)|none=>-1),s,()):=by
 intro m
 induction m with
 |zero=>intro i _ h;omega
 |succ m ih=>
  intro i hi hm;by_cases h1:i<l.length
  ·have hx:l.drop i=l.getD i (([]:Str),((0:Int),()))::l.drop (i+1):=by
    rw[Og h1,NH,NL h1];rfl
   rw[hx];simp only[Zbq.l2,dt,Zdp.g,Zdp.f,ND];rw[if_pos (by omega),if_pos (by omega),NU];generalize l.getD i (([]:Str),((0:Int),()))=x;unfold kG;by_cases h2:x.1=s;·rw[if_pos h2,if_pos h2];simp
   ·rw[if_neg h2,if_neg h2,w64 (by omega),show(i:Int)+1=((i+1:Nat):Int) by omega,ih (i+1) (by omega) (by omega)];cases kG s (l.drop (i+1)) with
    |none=>rfl
    |some k=>simp only[Ov];rw[show i+1+k=i+(k+1) by omega]
  ·have hi':i=l.length:=by omega
   subst hi';simp only[Zbq.l2,dt];rw[if_neg (by omega),Ol];rfl
theorem vL(s:Str):∀{l:List Sym}{k:Nat},kG s l=some k->k<l.length/\bB s l=some (l.getD k (([]:Str),((0:Int),()))).2.1
 |[],_,h=>by cases h
 |x::r,k,h=>by
  unfold kG at h;unfold bB;by_cases h2:x.1=s;·rw[if_pos h2] at h⊢;cases h;exact⟨by simp,rfl⟩
  ·rw[if_neg h2] at h⊢;obtain⟨j,hj,rfl⟩:=Option.map_eq_some_iff.1 h;obtain⟨h3,h4⟩:=vL s hj;exact⟨by simp;omega,by rw[h4];rfl⟩
theorem vK(s:Str):∀{l:List Sym},kG s l=none->bB s l=none
 |[],_=>rfl
 |x::r,h=>by
  unfold kG at h;unfold bB;by_cases h2:x.1=s;·rw[if_pos h2] at h;cases h
  ·rw[if_neg h2] at h⊢;exact vK s (Option.map_eq_none_iff.1 h)
theorem wQ(l:List Sym)(s:Str)(hl:l.length<=4611686018427387904):Zbr.g l s=some ((bB s l).getD 0,(bB s l).isSome,()):=by
 unfold Zbr.g Zbr.f Zbq.g Zbq.f;rw[show(0:Int)=((0:Nat):Int) from rfl,DV l s hl _ _ 0 (by omega) (by omega),ND,Oi];dsimp only;cases h:kG s l with
 |none=>
  rw[vK s h];rfl
 |some k=>
  obtain⟨h1,h2⟩:=vL s h;rw[h2];simp only[dt];rw[if_neg (by omega),if_pos (by omega)];simp
end Rv
namespace Rv
open Go
abbrev Val:=Int×Int×Unit
theorem vZ(l:List Val)(v:Val)(hl:l.length<=4611686018427387904):Zbb.g (l++[v])=some (v.1,v.2.1,l,()):=by
 unfold Zbb.g Zbb.f;have e1:IntKind.i64.wrap (((l++[v]).length:Int)-1)=(l.length:Int):=by
  rw[w64 (by simp;omega)];simp
 have e2:(l++[v]).getD l.length ((0:Int),((0:Int),()))=v:=by
  rw[NH,List.getElem?_append_right (NM _)];simp
 rw[e1,NU,if_pos (by simp;omega),if_pos (by simp;omega),e2,List.take_left]
def ib(labels:List Sym)(st:List Val)(x:Item):Except Int (List Val):=
 if x.1=2 then match bB x.2.2.1 labels with
  |some a=>.ok (st++[(IntKind.u32.wrap a,1,())])
  |none=>.error 25
 else if x.1=3 then match st.getLast? with
  |some v=>.ok (st.dropLast++[(IntKind.u32.wrap (0-v.1),IntKind.i64.wrap (0-v.2.1),())])
  |none=>.error 99
 else if x.1=4\/x.1=5\/x.1=6 then match st.getLast?,st.dropLast.getLast? with
  |some b,some a=>
   if x.1=4 then .ok (st.dropLast.dropLast++[(IntKind.u32.wrap (a.1+b.1),IntKind.i64.wrap (a.2.1+b.2.1),())])
   else if x.1=5 then .ok (st.dropLast.dropLast++[(IntKind.u32.wrap (a.1-b.1),IntKind.i64.wrap (a.2.1-b.2.1),())])
   else if a.2.1=0/\b.2.1=0 then .ok (st.dropLast.dropLast++[(IntKind.u32.wrap (a.1*b.1),0,())])
   else .error 27
  |_,_=>.error 99
 else .ok (st++[(x.2.1,0,())])
def gF(labels:List Sym):List Val->List Item->Except Int (List Val)
 |st,[]=>.ok st
 |st,x::r=>match ib labels st x with
  | .ok st=>gF labels st r
  | .error e=>.error e
theorem yu(a b:Int):Zct.g a b (-1)=some (IntKind.u32.wrap (0-a),IntKind.i64.wrap (0-b),()):=by
 unfold Zct.g Zct.f;have e1:IntKind.u32.wrap (-1)=4294967295:=by rw[IntKind.wrap_u32];rfl
 have e2:IntKind.u32.wrap (4294967295*a)=IntKind.u32.wrap (0-a):=by rw[IntKind.wrap_u32,IntKind.wrap_u32];omega
 rw[e1,e2,show -1*b=0-b by omega]
theorem MP(a b c d:Int):Zdq.g a b c d=some (IntKind.u32.wrap (a+c),IntKind.i64.wrap (b+d),()):=rfl
theorem Bi(a b:Int):IntKind.i64.wrap (a+IntKind.i64.wrap (0-b))=IntKind.i64.wrap (a-b):=by
 rw[IntKind.wrap_i64,IntKind.wrap_i64,IntKind.wrap_i64];omega
theorem BQ(a b:Int):IntKind.u32.wrap (a+IntKind.u32.wrap (0-b))=IntKind.u32.wrap (a-b):=by
 rw[IntKind.wrap_u32,IntKind.wrap_u32,IntKind.wrap_u32];omega
end Rv
namespace Rv
open Go
def yU(st:List Val):Option (Int×Int×Int×Unit):=
 match st.getLast? with
 |some v=>some (v.1,v.2.1,0,())
 |none=>none
theorem K4(labels:List Sym)(e:List Item)(n:Nat)(rl)(t:Int)(i:Nat)(hi:i<=1000)(b0 b1:Int)(st:List Val)(hst:st.length<=1000)(v0 v1:Int) :
  Zad.j27 n rl labels e t (i:Int) b0 b1 st v0 v1=rl labels e t ((i+1:Nat):Int) b0 b1 (st++[(v0,v1,())]):=by
 unfold Zad.j27;rw[if_pos (by simp;omega),w64 (by omega)];rfl
theorem jV(st:List Val):st=[]\/∃l v,st=l++[v]:=by
 rcases List.eq_nil_or_concat st with h|⟨l,v,h⟩;·exact .inl h
 ·exact .inr ⟨l,v,by rw[h,List.concat_eq_append]⟩
theorem dB(l:List Val)(v:Val):(l++[v]).getLast?=some v/\(l++[v]).dropLast=l:=by simp
theorem K3(labels:List Sym)(hlab:labels.length<=4611686018427387904)(e:List Item)(he:e.length<=999)(n:Nat):∀(m i:Nat) (st:List Val) (b0 b1:Int),i<=e.length->e.length-i<m->iL (st.length:Int) (e.drop i)=true->st.length<=i ->
  Zad.l5 n m labels e (e.length:Int) (i:Int) b0 b1 st=match gF labels st (e.drop i) with
   | .error x=>some (0,0,x,())
   | .ok st'=>yU st':=by
 intro m
 induction m with
 |zero=>intro i st b0 b1 _ h;omega
 |succ m ih=>
  intro i st b0 b1 hi hm hw hst;by_cases h1:i<e.length
  ·have hx:e.drop i=e.getD i ((0:Int),((0:Int),(([]:Str),())))::e.drop (i+1):=by
    rw[Og h1,NH,NL h1];rfl
   rw[hx] at hw⊢;simp only[Zad.l5,dt,df];rw[if_pos (by omega),if_pos (by omega),NU];generalize e.getD i ((0:Int),((0:Int),(([]:Str),())))=x at hw⊢;obtain⟨a,b,c,u⟩:=x;cases u;simp only[iL,NJ,Bool.not_eq_true',decide_eq_false_iff_not] at hw;obtain⟨hk,hlt,hw⟩:=hw;have next:∀(s:List Val) (v0 v1:Int),s.length+1<=i+1->iL ((s.length+1:Nat):Int) (e.drop (i+1))=true ->
     Zad.j27 n (Zad.l5 n m) labels e (e.length:Int) (i:Int) b0 b1 s v0 v1=match gF labels (s++[(v0,v1,())]) (e.drop (i+1)) with
      | .error x=>some (0,0,x,())
      | .ok st'=>yU st':=fun s v0 v1 hs hws=>by
    rw[K4 labels e n _ _ i (by omega) b0 b1 s (by omega) v0 v1];exact ih (i+1) _ b0 b1 (by omega) (by omega) (by simpa using hws) (by simpa using hs)
   simp only[gF,ib];by_cases k2:a=2
   ·subst k2;rw[if_pos rfl,if_pos rfl,wQ labels c hlab,ND];have e0:(aB (2,b,c,())).1=0:=rfl;rw[e0] at hw;cases hf:bB c labels with
    |none=>rfl
    |some at_=>
     dsimp only[Option.isSome,Option.getD];rw[if_neg (by simp)];exact next st _ 1 (by omega) (by simpa using hw)
   ·rw[if_neg k2,if_neg k2];by_cases k3:a=3
    ·subst k3;have e0:(aB (3,b,c,())).1=1:=rfl;rw[e0] at hlt hw;rcases jV st with rfl|⟨l,v,rfl⟩
     ·simp at hlt
     ·obtain⟨g1,g2⟩:=dB l v;rw[if_pos rfl,if_pos rfl,g1,g2,vZ l v (by simp at hst;omega),ND];dsimp only;rw[yu,ND];exact next l _ _ (by simp at hst;omega) (by simpa using hw)
    ·rw[if_neg k3,if_neg k3];by_cases k4:a=4\/a=5\/a=6
     ·have e0:(aB (a,b,c,())).1=2:=by
       unfold aB;rcases k4 with rfl|rfl|rfl<;>rfl
      rw[e0] at hlt hw;rcases jV st with rfl|⟨l0,v,rfl⟩;·simp at hlt
      ·rcases jV l0 with rfl|⟨l,w,rfl⟩
       ·simp at hlt
       ·obtain⟨g1,g2⟩:=dB (l++[w]) v;obtain⟨g3,g4⟩:=dB l w;have hl:l.length<=1000:=by simp at hst;omega
        have hn:=next l
        rw[if_pos k4,g1,g2,g3,g4,vZ (l++[w]) v (by simp;omega),ND];dsimp only;have hp2:=vZ l w (by omega);simp only[hp2,ND,MP,yu,BQ,Bi];have hs1:l.length+1<=i+1:=by simp at hst;omega
        have hw1:iL ((l.length+1:Nat):Int) (e.drop (i+1))=true:=by
         have:((l++[w]++[v]).length:Int)+(1-2)=((l.length+1:Nat):Int):=by simp;omega
         rw[<- this];exact hw
        rcases k4 with rfl|rfl|rfl;·rw[if_pos rfl,if_pos rfl,Int.add_comm v.1 w.1,Int.add_comm v.2.1 w.2.1];exact next l _ _ hs1 hw1
        ·rw[if_neg (show ¬(5:Int)=4 by decide),if_neg (show ¬(5:Int)=4 by decide),if_pos rfl,if_pos rfl];exact next l _ _ hs1 hw1
        ·rw[if_neg (show ¬(6:Int)=4 by decide),if_neg (show ¬(6:Int)=4 by decide),if_neg (show ¬(6:Int)=5 by decide),if_neg (show ¬(6:Int)=5 by decide),if_pos rfl];by_cases z1:v.2.1=0
         ·by_cases z2:w.2.1=0
          ·rw[if_pos (show w.2.1=0/\v.2.1=0 from⟨z2,z1⟩)];simp only[z1,z2,decide_true,Bool.and_self,Bool.not_true,if_true];rw[if_neg (by decide),Int.mul_comm v.1 w.1];exact next l _ _ hs1 hw1
          ·rw[if_neg (show ¬(w.2.1=0/\v.2.1=0) from fun h=>z2 h.1)];simp[z1,z2]
         ·rw[if_neg (show ¬(w.2.1=0/\v.2.1=0) from fun h=>z1 h.2)];simp[z1]
     ·have ha:a=1:=by
       apply Classical.byContradiction;intro h1';have:(aB (a,b,c,())).2=false:=by
        unfold aB;simp[h1',k2,k3,k4]
       rw[this] at hk;cases hk
      subst ha;have e0:(aB (1,b,c,())).1=0:=rfl;rw[e0] at hw;rw[if_neg k4,if_neg (show ¬(1:Int)=4 by decide),if_neg (show ¬(1:Int)=5 by decide),if_neg (show ¬(1:Int)=6 by decide)];exact next st b 0 (by omega) (by simpa using hw)
  ·have hi':i=e.length:=by omega
   subst hi';simp only[Zad.l5,dt];rw[if_neg (by omega),Ol];simp only[gF];rw[Ol] at hw;rcases jV st with rfl|⟨l,v,rfl⟩;·simp[iL] at hw
   ·rw[vZ l v (by simp at hst;omega),ND];simp[yU]
def ofR(labels:List Sym)(e:List Item):Option (Int×Int×Int×Unit):=
 if well e=true then(match gF labels [] e with
  | .error x=>some (0,0,x,())
  | .ok st=>yU st)
 else some (0,0,23,())
theorem Ef(labels:List Sym)(hlab:labels.length<=4611686018427387904)(e:List Item)(he:e.length<=4611686018427387904):Zad.g e labels=ofR labels e:=by
 unfold Zad.g Zad.f ofR;rw[LD e he,ND];dsimp only;by_cases hw:well e=true;·rw[hw,if_neg (by decide),if_pos rfl];unfold well at hw;rw[NJ,NN] at hw;exact K3 labels hlab e (by omega) _ _ 0 [] 0 0 (by omega) (by omega) (by simpa using hw.1) (by simp)
 ·have hw':well e=false:=by simpa using hw
  rw[hw'];rfl
end Rv
namespace Rv
open Go
def enough:Int->List Item->Option Int
 |t,[]=>some t
 |t,x::r=>if(aB x).2=true/\¬t<(aB x).1 then enough (t+(1-(aB x).1)) r else none
theorem lQ:∀(e:List Item) (t:Int),(iL t e=true)=(enough t e=some 1)
 |[],t=>by simp[iL,enough]
 |x::r,t=>by
  simp only[iL,enough,NJ,Bool.not_eq_true',decide_eq_false_iff_not];by_cases h:(aB x).2=true/\¬t<(aB x).1;·rw[if_pos h,<- lQ r];simp[h.1,h.2]
  ·rw[if_neg h];apply propext;constructor
   ·intro h';exact absurd ⟨h'.1,h'.2.1⟩ h
   ·intro h';cases h'
theorem kE:∀(a b:List Item) (t:Int),enough t (a++b)=(enough t a).bind fun k=>enough k b
 |[],b,t=>rfl
 |x::a,b,t=>by
  simp only[List.cons_append,enough];split;·exact kE a b _
  ·rfl
def gG(e:List Item):Prop:=enough 0 e=some 1
theorem qK:∀(e:List Item) (t k j:Int),0<=j->enough t e=some k->enough (t+j) e=some (k+j)
 |[],t,k,j,_,h=>by
  simp only[enough,NC] at h⊢;omega
 |x::e,t,k,j,hj,h=>by
  simp only[enough] at h⊢;split at h;·rename_i hc;rw[if_pos ⟨hc.1,by omega⟩,show t+j+(1-(aB x).1)=(t+(1-(aB x).1))+j by omega];exact qK e _ k j hj h
  ·cases h
theorem JF{a b:List Item}(ha:gG a)(hb:gG b)(x:Item)(hx:aB x=(2,true)):gG (a++b++[x]):=by
 unfold gG at *;have h1:enough 1 b=some 2:=qK b 0 1 1 (by omega) hb;rw[kE,kE,ha,ND,h1,ND];simp[enough,hx]
theorem JE{a:List Item}(ha:gG a)(x:Item)(hx:aB x=(1,true)):gG (a++[x]):=by
 unfold gG at *;rw[kE,ha,ND];simp[enough,hx]
end Rv
namespace Rv
open Go
theorem Js(labels:List Sym)(x:Item)(st st':List Val)(hk:(aB x).2=true)(hl:¬(st.length:Int)<(aB x).1)(h:ib labels st x=.ok st'):(st'.length:Int)=st.length+(1-(aB x).1):=by
 obtain⟨a,b,c,u⟩:=x;cases u;unfold ib at h;dsimp only at h;by_cases k2:a=2
 ·subst k2;rw[if_pos rfl] at h;have e0:(aB (2,b,c,())).1=0:=rfl;rw[e0];split at h
  ·cases h;simp
  ·cases h
 ·rw[if_neg k2] at h;by_cases k3:a=3
  ·subst k3;have e0:(aB (3,b,c,())).1=1:=rfl;rw[e0] at hl⊢;rcases jV st with rfl|⟨l,v,rfl⟩
   ·simp at hl
   ·rw[if_pos rfl,(dB l v).1,(dB l v).2] at h;cases h;simp
  ·rw[if_neg k3] at h;by_cases k4:a=4\/a=5\/a=6
   ·have e0:(aB (a,b,c,())).1=2:=by
     unfold aB;rcases k4 with rfl|rfl|rfl<;>rfl
    rw[e0] at hl⊢;rcases jV st with rfl|⟨l0,v,rfl⟩;·simp at hl
    ·rcases jV l0 with rfl|⟨l,w,rfl⟩
     ·simp at hl
     ·rw[if_pos k4,(dB _ v).1,(dB _ v).2,(dB l w).1,(dB l w).2] at h;dsimp only at h;split at h
      ·cases h;simp;omega
      ·split at h
       ·cases h;simp;omega
       ·split at h
        ·cases h;simp;omega
        ·cases h
   ·rw[if_neg k4] at h;have ha:a=1:=by
     apply Classical.byContradiction;intro h1';have:(aB (a,b,c,())).2=false:=by
      unfold aB;simp[h1',k2,k3,k4]
     rw[this] at hk;cases hk
    subst ha;have e0:(aB (1,b,c,())).1=0:=rfl;rw[e0];cases h;simp
def onE(f:List Val->List Val):Except Int (List Val)->Except Int (List Val)
 | .ok l=>.ok (f l)
 | .error e=>.error e
theorem Gt(labels:List Sym)(x:Item)(base st:List Val)(hl:¬(st.length:Int)<(aB x).1):ib labels (base++st) x=onE (base++·) (ib labels st x):=by
 obtain⟨a,b,c,u⟩:=x;cases u;unfold ib;dsimp only;by_cases k2:a=2
 ·subst k2;rw[if_pos rfl,if_pos rfl];cases bB c labels with
  |none=>rfl
  |some y=>simp[onE]
 ·rw[if_neg k2,if_neg k2];by_cases k3:a=3
  ·subst k3;have e0:(aB (3,b,c,())).1=1:=rfl;rw[e0] at hl;rcases jV st with rfl|⟨l,v,rfl⟩
   ·simp at hl
   ·rw[if_pos rfl,if_pos rfl,<- NV,(dB (base++l) v).1,(dB (base++l) v).2,(dB l v).1,(dB l v).2];simp[onE]
  ·rw[if_neg k3,if_neg k3];by_cases k4:a=4\/a=5\/a=6
   ·have e0:(aB (a,b,c,())).1=2:=by
     unfold aB;rcases k4 with rfl|rfl|rfl<;>rfl
    rw[e0] at hl;rcases jV st with rfl|⟨l0,v,rfl⟩;·simp at hl
    ·rcases jV l0 with rfl|⟨l,w,rfl⟩
     ·simp at hl
     ·rw[if_pos k4,if_pos k4,<- NV,<- NV,(dB (base++l++[w]) v).1,(dB (base++l++[w]) v).2,(dB (base++l) w).1,(dB (base++l) w).2,(dB (l++[w]) v).1,(dB (l++[w]) v).2,(dB l w).1,(dB l w).2];dsimp only;split
      ·simp[onE]
      ·split
       ·simp[onE]
       ·split
        ·simp[onE]
        ·rfl
   ·rw[if_neg k4,if_neg k4];simp[onE]
theorem AB(labels:List Sym):∀(e:List Item) (base st:List Val) (k:Int),enough (st.length:Int) e=some k->gF labels (base++st) e=onE (base++·) (gF labels st e)/\∀st',gF labels st e=.ok st'->(st'.length:Int)=k
 |[],base,st,k,h=>by
  simp only[enough,NC] at h;exact⟨rfl,fun st' h'=>by cases h';exact h⟩
 |x::e,base,st,k,h=>by
  simp only[enough] at h;split at h
  ·rename_i hc;simp only[gF];rw[Gt labels x base st hc.2];cases hs:ib labels st x with
   |error er=>exact⟨rfl,fun st' h'=>by cases h'⟩
   |ok s2=>
    have hl:=Js labels x st s2 hc.1 hc.2 hs;rw[<- hl] at h;exact AB labels e base s2 k h
  ·cases h
end Rv
namespace Rv
open Go
theorem AC(labels:List Sym){e:List Item}(h:gG e):(∃x,gF labels [] e=.error x)\/∃v,gF labels [] e=.ok [v]:=by
 obtain⟨_,h2⟩:=AB labels e [] [] 1 h;cases hr:gF labels [] e with
 |error x=>exact .inl ⟨x,rfl⟩
 |ok st=>
  have:=h2 st hr
  match st,this with
  |[v],_=>exact .inr ⟨v,rfl⟩
end Rv
namespace Rv
open Go
def okV(v:Val):Prop:=(0<=v.1/\v.1<=4294967295)/\(-9223372036854775808<=v.2.1/\v.2.1<=9223372036854775807)
theorem sw(a:Int):0<=IntKind.u32.wrap a/\IntKind.u32.wrap a<=4294967295:=by rw[IntKind.wrap_u32];omega
theorem Fy(a:Int):-9223372036854775808<=IntKind.i64.wrap a/\IntKind.i64.wrap a<=9223372036854775807:=by rw[IntKind.wrap_i64];omega
theorem uH(a b:Int):okV (IntKind.u32.wrap a,IntKind.i64.wrap b,()):=⟨sw a,Fy b⟩
theorem Eg{a c:Int}(h1:0<=a/\a<=4294967295)(h2:-9223372036854775808<=c/\c<=9223372036854775807):okV (a,c,()):=⟨h1,h2⟩
theorem ru{α:Type}{l:List α}{x:α}(h:x∈l.dropLast):x∈l:=List.dropLast_subset l h
theorem Jt{labels:List Sym}{x:Item}{st st':List Val}(hx:0<=x.2.1/\x.2.1<=4294967295)(hst:∀v∈st,okV v)(h:ib labels st x=.ok st'):∀v∈st',okV v:=by
 have snoc:∀(l:List Val) (u:Val),(∀v∈l,okV v)->okV u->∀v∈l++[u],okV v:=fun l u hl hu v hv=>by
  rcases NT.1 hv with hv|hv;·exact hl v hv
  ·rw[NZ] at hv;subst hv;exact hu
 have hd:∀v∈st.dropLast,okV v:=fun v hv=>hst v (ru hv)
 have hdd:∀v∈st.dropLast.dropLast,okV v:=fun v hv=>hd v (ru hv)
 unfold ib at h;split at h
 ·split at h
  ·simp only[Except.ok.injEq] at h;subst h;exact snoc _ _ hst (Eg (sw _) (by decide))
  ·cases h
 ·split at h
  ·split at h
   ·simp only[Except.ok.injEq] at h;subst h;exact snoc _ _ hd (uH _ _)
   ·cases h
  ·split at h
   ·split at h
    ·split at h
     ·simp only[Except.ok.injEq] at h;subst h;exact snoc _ _ hdd (uH _ _)
     ·split at h
      ·simp only[Except.ok.injEq] at h;subst h;exact snoc _ _ hdd (uH _ _)
      ·split at h
       ·simp only[Except.ok.injEq] at h;subst h;exact snoc _ _ hdd (Eg (sw _) (by decide))
       ·cases h
    ·cases h
   ·simp only[Except.ok.injEq] at h;subst h;exact snoc _ _ hst (Eg hx (by decide))
theorem CW{labels:List Sym}:∀{e:List Item}{st st':List Val},(∀x∈e,0<=x.2.1/\x.2.1<=4294967295)->(∀v∈st,okV v)->gF labels st e=.ok st'->∀v∈st',okV v
 |[],st,st',_,hst,h=>by
  simp only[gF,Except.ok.injEq] at h;subst h;exact hst
 |x::e,st,st',hx,hst,h=>by
  simp only[gF] at h;cases hs:ib labels st x with
  |ok s=>
   rw[hs] at h;exact CW (fun y hy=>hx y (by simp[hy])) (Jt (hx x (by simp)) hst hs) h
  |error k=>rw[hs] at h;cases h
theorem Jr{labels:List Sym}{x:Item}{st:List Val}{k:Int}(h:ib labels st x=.error k):k=25\/k=99\/k=27:=by
 unfold ib at h;split at h
 ·split at h
  ·cases h
  ·cases h;simp
 ·split at h
  ·split at h
   ·cases h
   ·cases h;simp
  ·split at h
   ·split at h
    ·split at h
     ·cases h
     ·split at h
      ·cases h
      ·split at h
       ·cases h
       ·cases h;simp
    ·cases h;simp
   ·cases h
theorem CV{labels:List Sym}:∀{e:List Item}{st:List Val}{k:Int},gF labels st e=.error k->k≠0
 |[],st,k,h=>by cases h
 |x::e,st,k,h=>by
  simp only[gF] at h;cases hs:ib labels st x with
  |ok s=>rw[hs] at h;exact CV h
  |error k'=>
   rw[hs] at h;cases h;rcases Jr hs with rfl|rfl|rfl<;>decide
def mv(by':Int)(v:Val):Val:=(IntKind.u32.wrap (v.1+by'*v.2.1),v.2.1,())
end Rv
namespace Rv
open Go
def bH(x:Ln):Nat:=if x.2.1.1=0\/x.2.1.1=10 then 0 else 1
theorem pR(x:Ln):bH x<=1:=by unfold bH;split<;>omega
def bM:List Ln->Nat->List Int->List Sym->Nat->Except (Nat×Int) (List Int×List Sym×Nat)
 |[],_,a,lb,c=>.ok (a,lb,c)
 |x::r,i,a,lb,c=>
  if x.1=[] then bM r (i+1) (a++[((4*c:Nat):Int)]) lb (c+bH x)
  else if(bB x.1 lb).isSome=true then .error (i+1,26)
  else bM r (i+1) (a++[((4*c:Nat):Int)]) (lb++[(x.1,((4*c:Nat):Int),())]) (c+bH x)
def uj(p:List Val)(v:Val):List Val:=if v∈p then p else p++[v]
def vOf(lb:List Sym)(e:List Item):Int×Int×Int×Unit:=(ofR lb e).getD (0,0,99,())
def dn(lb:List Sym):List Ln->Nat->List Val->Except (Nat×Int) (List Val)
 |[],_,p=>.ok p
 |x::r,i,p=>
  if x.2.1.1=8 then
   (if(vOf lb x.2.1.2.2.2.2.2.2.1).2.2.1≠0 then .error (i+1,(vOf lb x.2.1.2.2.2.2.2.2.1).2.2.1)
   else if(vOf lb x.2.1.2.2.2.2.2.2.1).2.1<0\/1<(vOf lb x.2.1.2.2.2.2.2.2.1).2.1 then .error (i+1,27)
   else dn lb r (i+1) (uj p ((vOf lb x.2.1.2.2.2.2.2.2.1).1,(vOf lb x.2.1.2.2.2.2.2.2.1).2.1,())))
  else dn lb r (i+1) p
abbrev uY:=List Int×List Sym×List Val×Int×Int×Int×Int×Unit
def rA(i:Nat)(e:Int):uY:=([],[],[],0,0,(i:Int),e,())
def vV(t:List Int)(lb:List Sym)(c:Nat):Except (Nat×Int) (List Val)->uY
 | .error x=>rA x.1 x.2
 | .ok p=>if 1024<c+p.length then rA 0 2 else(t,lb,p,((4*c:Nat):Int),((c+p.length:Nat):Int),0,0,())
def El(l:List Ln):Except (Nat×Int) (List Int×List Sym×Nat)->uY
 | .error x=>rA x.1 x.2
 | .ok r=>vV r.1 r.2.1 r.2.2 (dn r.2.1 l 0 [])
def ay(l:List Ln):uY:=El l (bM l 0 [] [] 0)
def uM(v:Val):List Val->Nat
 |[]=>0
 |x::r=>if x=v then 0 else uM v r+1
theorem Cy(labels:List Sym)(e:List Item):∃v1 v2 x,ofR labels e=some (v1,v2,x,()):=by
 unfold ofR;by_cases hw:well e=true
 ·rw[if_pos hw];unfold well at hw;rw[NJ,NN] at hw;have hwl:gG e:=by unfold gG;rw[<- lQ];exact hw.1
  rcases AC labels hwl with⟨x,hx⟩|⟨v,hv⟩;·rw[hx];exact⟨0,0,x,rfl⟩
  ·rw[hv];exact⟨v.1,v.2.1,0,rfl⟩
 ·rw[if_neg hw];exact⟨0,0,23,rfl⟩
theorem Cz(labels:List Sym)(e:List Item):ofR labels e=some (vOf labels e):=by
 obtain⟨a,b,c,h⟩:=Cy labels e;unfold vOf;rw[h];rfl
theorem kM:∀(l:List Ln) (i:Nat) (a:List Int) (lb:List Sym) (c:Nat) {r},bM l i a lb c=.ok r->r.1.length=a.length+l.length/\r.2.1.length<=lb.length+l.length/\r.2.2<=c+l.length
 |[],_,a,lb,c,r,h=>by cases h;simp
 |x::t,i,a,lb,c,r,h=>by
  have hs:=pR x;unfold bM at h;split at h;·have:=kM t _ _ _ _ h;simp at this⊢;omega
  ·split at h
   ·cases h
   ·have:=kM t _ _ _ _ h;simp at this⊢;omega
theorem zh(p:List Val)(v:Val):(uj p v).length<=p.length+1:=by unfold uj;split<;>simp
theorem ma(lb:List Sym):∀(l:List Ln) (i:Nat) (p:List Val) {r},dn lb l i p=.ok r->r.length<=p.length+l.length
 |[],_,p,r,h=>by cases h;simp
 |x::t,i,p,r,h=>by
  unfold dn at h;split at h
  ·split at h
   ·cases h
   ·split at h
    ·cases h
    ·have:=ma lb t _ _ h;have:=zh p ((vOf lb x.2.1.2.2.2.2.2.2.1).1,(vOf lb x.2.1.2.2.2.2.2.2.1).2.1,());simp;omega
  ·have:=ma lb t _ _ h;simp;omega
end Rv
namespace Rv
open Go
abbrev eL(x:Ln):List Item:=x.2.1.2.2.2.2.2.2.1
theorem GH(lb:List Sym){e:List Item}(hg:∀y∈e,0<=y.2.1/\y.2.1<=4294967295):(∃x,x≠0/\vOf lb e=(0,0,x,()))\/∃v,okV v/\vOf lb e=(v.1,v.2.1,0,())/\gF lb [] e=.ok [v]:=by
 unfold vOf ofR;by_cases hw:well e=true
 ·rw[if_pos hw];unfold well at hw;rw[NJ,NN] at hw;have hwl:gG e:=by unfold gG;rw[<- lQ];exact hw.1
  rcases AC lb hwl with⟨x,hx⟩|⟨v,hv⟩;·rw[hx];exact .inl ⟨x,CV hx,rfl⟩
  ·rw[hv];have:=CW hg (fun u hu=>by cases hu) hv v (by simp);exact .inr ⟨v,this,rfl,rfl⟩
 ·rw[if_neg hw];exact .inl ⟨23,by decide,rfl⟩
end Rv
namespace Rv
open Go
def isA(b:UInt8):Bool:=decide (65<=b.toNat/\b.toNat<=90\/97<=b.toNat/\b.toNat<=122)
theorem M4(b:UInt8):isL b=(isA b||decide (b.toNat=95)):=by
 unfold isL isA;rw[Bool.eq_iff_iff];simp only[NN,Bool.or_eq_true];omega
def cB(s:Str):Bool:=decide (s≠[])&&decide (s.length<=12)&&isA (s.getD 0 0)&&!nN s&&s.all isW
end Rv
namespace Rv
open Go
end Rv
namespace Rv
open Go
end Rv
namespace Rv
open Go
end Rv
namespace Rv
open Go
def oK(x:Item):Prop:=0<=x.2.1/\x.2.1<=4294967295/\(aB x).2=true
end Rv
namespace Rv
open Go
end Rv
namespace Rv
open Go
end Rv
namespace Rv
open Go
end Rv
namespace Rv
open Go
end Rv
namespace Rv
open Go
theorem IJ(x:Ln):Zdj.g x.2.1.1 x.2.1.2.1 x.2.1.2.2.1 x.2.1.2.2.2.1 x.2.1.2.2.2.2.1 x.2.1.2.2.2.2.2.1 x.2.1.2.2.2.2.2.2.1 x.2.1.2.2.2.2.2.2.2.1=some ((bH x:Int),()):=by
 unfold Zdj.g Zdj.f bH;simp only[dt];by_cases h0:x.2.1.1=0;·rw[if_pos h0,if_pos h0,if_pos (.inl h0)];rfl
 ·rw[if_neg h0];by_cases h1:x.2.1.1=10
  ·rw[if_pos h1,if_pos (.inr h1)];rfl
  ·rw[if_neg h1,if_neg (by rintro(h|h)<;>contradiction)];rfl
theorem MQ(x:Val)(a b:Int):(decide (x.1=a)&&(decide (x.2.1=b)&&true))=decide (x=(a,b,())):=by
 obtain⟨x1,x2,_⟩:=x;simp only[Bool.and_true];by_cases h1:x1=a<;>by_cases h2:x2=b<;>simp[h1,h2]
theorem FZ(p:List Val)(a b:Int)(hp:p.length<=1000000)(n:Nat):∀(m i:Nat),i<=p.length->p.length-i<m ->
  Zbi.l2 n m p p (p.length:Int) (i:Int) a b=some (if(a,b,())∈p.drop i then p else p++[(a,b,())],((i+uM (a,b,()) (p.drop i):Nat):Int),()):=by
 intro m
 induction m with
 |zero=>intro i _ h;omega
 |succ m ih=>
  intro i hi hm;rw[Zbi.l2];simp only[MQ,dt,NU];by_cases h:i<p.length
  ·have hd:p.drop i=p.getD i ((0:Int),((0:Int),()))::p.drop (i+1):=by
    rw[Og h,NH,NL h];rfl
   rw[if_pos (by omega),if_pos (by omega),hd];generalize p.getD i ((0:Int),((0:Int),()))=x;unfold uM;by_cases hx:x=(a,b,())
   ·rw[if_pos hx,if_pos (by rw[hx];simp),if_pos hx];simp
   ·rw[if_neg hx,if_neg hx,w64 (by omega),show(i:Int)+1=((i+1:Nat):Int) by omega,ih (i+1) (by omega) (by omega)];have e:((a,b,())∈x::p.drop (i+1))=((a,b,())∈p.drop (i+1)):=by
     apply propext;rw[NS];exact⟨fun h=>h.resolve_left fun e=>hx e.symm,.inr⟩
    simp only[e];rw[show i+1+uM (a,b,()) (p.drop (i+1))=i+(uM (a,b,()) (p.drop (i+1))+1) by omega]
  ·obtain rfl:i=p.length:=by omega
   rw[if_neg (by omega),Ol];unfold Zdv.g Zdv.f;rw[if_pos ⟨rfl,rfl,rfl⟩,ND];dsimp only;rw[if_pos (by simp),if_pos (by simp;omega),if_neg (by simp)];rfl
theorem CK(p:List Val)(a b:Int)(hp:p.length<=1000000):Zbi.g p a b=some (uj p (a,b,()),(uM (a,b,()) p:Int),()):=by
 unfold Zbi.g Zbi.f;have:=FZ p a b hp (1000+p.length+a.toNat+b.toNat) (1000+p.length+a.toNat+b.toNat) 0 (by omega) (by omega);rw[Oi,Nat.zero_add] at this;exact this
theorem yz{c k:Nat}(hc:c<=1000000)(hk:k<=1):IntKind.i64.wrap (((4*c:Nat):Int)+IntKind.i64.wrap (4*(k:Int)))=((4*(c+k):Nat):Int):=by
 rw[w64 (x:=4*(k:Int)) (by omega),w64 (by omega)];omega
theorem I9(x:Ln)(t:List Int)(lb:List Sym)(q:List Val)(c:Nat)(s:Int)(ht:t.length<=1000000)(hlb:lb.length<=1000000)(hc:c<=1000000) :
  Zcj.g x.1 x.2.1.1 x.2.1.2.1 x.2.1.2.2.1 x.2.1.2.2.2.1 x.2.1.2.2.2.2.1 x.2.1.2.2.2.2.2.1 x.2.1.2.2.2.2.2.2.1 x.2.1.2.2.2.2.2.2.2.1 t lb q ((4*c:Nat):Int) s =
   some (if x.1=[] then(0,t++[((4*c:Nat):Int)],lb,q,((4*(c+bH x):Nat):Int),s,()) else if(bB x.1 lb).isSome=true then(26,t++[((4*c:Nat):Int)],lb,q,((4*c:Nat):Int),s,())
    else(0,t++[((4*c:Nat):Int)],lb++[(x.1,((4*c:Nat):Int),())],q,((4*(c+bH x):Nat):Int),s,())):=by
 unfold Zcj.g;generalize 1000+_+_+_+_+_+_+_+_+_+_+_+_+_=n;unfold Zcj.f Zcj.j7;rw[if_pos (by simp;omega),wQ lb x.1 (by omega),ND,IJ,ND];dsimp only;rw[yz hc (pR x)];simp only[Bool.not_eq_true',decide_eq_false_iff_not];by_cases h:x.1=[]
 ·rw[if_neg (by simpa using h),if_pos h,ND];dsimp only;rw[yz hc (pR x)]
 ·rw[if_pos h,if_neg h];by_cases h2:(bB x.1 lb).isSome=true
  ·rw[if_pos h2,if_pos h2]
  ·rw[if_neg h2,if_neg h2,if_pos (by simp;omega)]
theorem wM{a:List Ln}{i:Nat}(h:i<a.length):a.drop i=a.getD i zL::a.drop (i+1):=by
 rw[Og h,NH,NL h];rfl
theorem Ck{a:List Ln}{i:Nat}(h:i<a.length):a.getD i zL∈a:=by
 rw[NH,NL h];exact Ou h
theorem Km(a:List Ln)(ha:a.length<=1000000)(n:Nat)(q:List Val)(s:Int):∀(m i:Nat) (t:List Int) (lb:List Sym) (c:Nat),i<=a.length->a.length-i<m->t.length<=i->lb.length<=i->c<=i ->
  ∃r,Zcq.l2 n m a (a.length:Int) (i:Int) t lb q ((4*c:Nat):Int) s=some r/\(∀x,bM (a.drop i) i t lb c=.error x->r.1=(x.1:Int)/\r.2.1=x.2/\x.2≠0) /\
   (∀y,bM (a.drop i) i t lb c=.ok y->r=(0,0,y.1,y.2.1,q,((4*y.2.2:Nat):Int),s,())):=by
 intro m
 induction m with
 |zero=>intro i _ _ _ _ h;omega
 |succ m ih=>
  intro i t lb c hi hm ht hlb hc;rw[Zcq.l2];simp only[dt,NU];by_cases h:i<a.length
  ·rw[if_pos (by omega),if_pos (by omega),I9 _ t lb q c s (by omega) (by omega) (by omega),ND,wM h];have hs:=pR (a.getD i zL);generalize a.getD i zL=x at hs;have W:IntKind.i64.wrap ((i:Int)+1)=((i+1:Nat):Int):=by rw[w64 (by omega)];omega
   rw[bM,W];by_cases h1:x.1=[]
   ·rw[if_pos h1,if_pos h1];simp only[ne_eq,not_true_eq_false,↓reduceIte];exact ih (i+1) _ _ _ (by omega) (by omega) (by simp;omega) (by omega) (by omega)
   ·rw[if_neg h1,if_neg h1];by_cases h2:(bB x.1 lb).isSome=true
    ·rw[if_pos h2,if_pos h2];dsimp only;rw[if_pos (by decide)];exact⟨_,rfl,fun y hy=>by cases hy;exact⟨rfl,rfl,(by decide:(26:Int)≠0)⟩,fun y hy=>by cases hy⟩
    ·rw[if_neg h2,if_neg h2];simp only[ne_eq,not_true_eq_false,↓reduceIte];exact ih (i+1) _ _ _ (by omega) (by omega) (by simp;omega) (by simp;omega) (by omega)
  ·obtain rfl:i=a.length:=by omega
   rw[if_neg (by omega),Ol];exact⟨_,rfl,fun x hx=>by(rw[bM] at hx;cases hx),fun y hy=>by(rw[bM] at hy;cases hy;rfl)⟩
theorem Ja(x:Ln)(t:List Int)(lb:List Sym)(q:List Val)(f s:Int)(hlb:lb.length<=1000000)(hq:q.length<=1000000)(he:(eL x).length<=4611686018427387904) :
  Zdk.g x.1 x.2.1.1 x.2.1.2.1 x.2.1.2.2.1 x.2.1.2.2.2.1 x.2.1.2.2.2.2.1 x.2.1.2.2.2.2.2.1 x.2.1.2.2.2.2.2.2.1 x.2.1.2.2.2.2.2.2.2.1 t lb q f s =
   some (if x.2.1.1=8 then(if(vOf lb (eL x)).2.2.1≠0 then((vOf lb (eL x)).2.2.1,t,lb,q,f,s,()) else if(vOf lb (eL x)).2.1<0\/1<(vOf lb (eL x)).2.1 then(27,t,lb,q,f,s,())
    else(0,t,lb,uj q ((vOf lb (eL x)).1,(vOf lb (eL x)).2.1,()),f,s,())) else(0,t,lb,q,f,s,())):=by
 unfold Zdk.g;generalize 1000+_+_+_+_+_+_+_+_+_+_+_+_+_=n;unfold Zdk.f;rw[Ef lb (by omega) _ he,Cz,ND];simp only[dt,df];by_cases h8:x.2.1.1=8
 ·rw[if_neg (by simpa using h8),if_pos h8];show(if(vOf lb (eL x)).2.2.1≠0 then _ else _)=_;by_cases h1:(vOf lb (eL x)).2.2.1≠0
  ·rw[if_pos h1,if_pos h1]
  ·rw[if_neg h1,if_neg h1,CK q _ _ hq,ND];by_cases h2:(vOf lb (eL x)).2.1<0
   ·rw[if_neg (by simpa using h2),if_pos (.inl h2)]
   ·rw[if_pos h2];by_cases h3:1<(vOf lb (eL x)).2.1
    ·rw[if_pos h3,if_pos (.inr h3)]
    ·rw[if_neg h3,if_neg (by rintro(h|h)<;>contradiction)]
 ·rw[if_pos h8,if_neg h8]
theorem Kn(a:List Ln)(ha:a.length<=1000000)(he:∀x∈a,(eL x).length<=4611686018427387904)(n:Nat)(t:List Int)(lb:List Sym)(hlb:lb.length<=1000000)(f s:Int):∀(m i:Nat) (q:List Val),i<=a.length->a.length-i<m->q.length<=i ->
  ∃r,Zcr.l2 n m a (a.length:Int) (i:Int) t lb q f s=some r/\(∀x,dn lb (a.drop i) i q=.error x->r.1=(x.1:Int)/\r.2.1=x.2/\x.2≠0) /\
   (∀y,dn lb (a.drop i) i q=.ok y->r=(0,0,t,lb,y,f,s,())):=by
 intro m
 induction m with
 |zero=>intro i _ _ h;omega
 |succ m ih=>
  intro i q hi hm hq;rw[Zcr.l2];simp only[dt,NU];by_cases h:i<a.length
  ·rw[if_pos (by omega),if_pos (by omega),Ja _ t lb q f s hlb (by omega) (he _ (Ck h)),ND,wM h];generalize a.getD i zL=x;have W:IntKind.i64.wrap ((i:Int)+1)=((i+1:Nat):Int):=by rw[w64 (by omega)];omega
   rw[dn,W];by_cases h8:x.2.1.1=8
   ·rw[if_pos h8,if_pos h8];show ∃r,_/\(∀y,(if(vOf lb (eL x)).2.2.1≠0 then _ else _)=_->_)/\_;by_cases h1:(vOf lb (eL x)).2.2.1≠0
    ·rw[if_pos h1];dsimp only;rw[if_pos h1];refine⟨_,rfl,fun y hy=>?_,fun y hy=>?_⟩
     ·rw[if_pos h1] at hy;cases hy;exact⟨rfl,rfl,h1⟩
     ·rw[if_pos h1] at hy;cases hy
    ·rw[if_neg h1];by_cases h2:(vOf lb (eL x)).2.1<0\/1<(vOf lb (eL x)).2.1
     ·rw[if_pos h2];dsimp only;rw[if_pos (by decide)];refine⟨_,rfl,fun y hy=>?_,fun y hy=>?_⟩
      ·rw[if_neg h1,if_pos h2] at hy;cases hy;exact⟨rfl,rfl,(by decide:(27:Int)≠0)⟩
      ·rw[if_neg h1,if_pos h2] at hy;cases hy
     ·rw[if_neg h2];simp only[ne_eq,not_true_eq_false,↓reduceIte];have hl:=zh q ((vOf lb (eL x)).1,(vOf lb (eL x)).2.1,());obtain⟨r,hr,g1,g2⟩:=ih (i+1) (uj q ((vOf lb (eL x)).1,(vOf lb (eL x)).2.1,())) (by omega) (by omega) (by omega);refine⟨r,hr,fun y hy=>g1 y ?_,fun y hy=>g2 y ?_⟩
      ·rw[if_neg h1,if_neg h2] at hy;exact hy
      ·rw[if_neg h1,if_neg h2] at hy;exact hy
   ·rw[if_neg h8,if_neg h8];simp only[ne_eq,not_true_eq_false,↓reduceIte];exact ih (i+1) q (by omega) (by omega) (by omega)
  ·obtain rfl:i=a.length:=by omega
   rw[if_neg (by omega),Ol];exact⟨_,rfl,fun x hx=>by(rw[dn] at hx;cases hx),fun y hy=>by(rw[dn] at hy;cases hy;rfl)⟩
theorem Em{c k:Nat}(hc:c<=1000000)(hk:k<=1000000):IntKind.i64.wrap (IntKind.i64.wrap (Int.tdiv ((4*c:Nat):Int) 4)+(k:Int))=((c+k:Nat):Int):=by
 have:Int.tdiv ((4*c:Nat):Int) 4=(c:Int):=by
  rw[Int.tdiv_eq_ediv_of_nonneg (by omega)];omega
 rw[this,w64 (x:=(c:Int)) (by omega),w64 (by omega)];omega
theorem K9(a:List Ln)(ha:a.length<=1000000)(he:∀x∈a,(eL x).length<=4611686018427387904):Zav.g a=some (ay a):=by
 have key:∀n m,3<=m->Zav.l4 n m a 2 0 [] [] [] 0 0=some (ay a):=by
  intro n m hm;obtain⟨k,rfl⟩:∃k,m=k+3:=⟨m-3,by omega⟩
  obtain⟨r,hr,g1,g2⟩:=Km a ha (1000+a.length+([]:List Int).length+([]:List Sym).length+([]:List Val).length+(0:Int).toNat+(0:Int).toNat) [] 0 (1000+a.length+([]:List Int).length+([]:List Sym).length+([]:List Val).length+(0:Int).toNat+(0:Int).toNat) 0 [] [] 0 (by omega) (by omega) (by simp) (by simp) (by omega);rw[Oi] at g1 g2;have hr':Zcq.g a [] [] [] 0 0=some r:=hr;rw[Zav.l4,if_pos (by decide),if_pos rfl,hr',ND,Zav.j7];unfold ay El;cases hp:bM a 0 [] [] 0 with
  |error x=>
   obtain⟨e1,e2,e3⟩:=g1 x hp;rw[e1,e2];simp only[dt];rw[if_pos e3];rfl
  |ok y=>
   obtain rfl:=g2 y hp;simp only[ne_eq,not_true_eq_false,decide_false,Bool.false_eq_true,↓reduceIte];have hl:=kM _ _ _ _ _ hp;simp only[OE,Nat.zero_add] at hl;rw[show IntKind.i64.wrap ((0:Int)+1)=1 from rfl,Zav.l4,if_pos (by decide),if_neg (by decide),if_pos rfl];obtain⟨r2,hr2,k1,k2⟩:=Kn a ha he (1000+a.length+y.1.length+y.2.1.length+([]:List Val).length+(((4*y.2.2:Nat):Int)).toNat+(0:Int).toNat) y.1 y.2.1 (by omega) ((4*y.2.2:Nat):Int) 0 (1000+a.length+y.1.length+y.2.1.length+([]:List Val).length+(((4*y.2.2:Nat):Int)).toNat+(0:Int).toNat) 0 [] (by omega) (by omega) (by simp);rw[Oi] at k1 k2;have hr2':Zcr.g a y.1 y.2.1 [] ((4*y.2.2:Nat):Int) 0=some r2:=hr2;rw[hr2',ND,Zav.j7];cases hq:dn y.2.1 a 0 [] with
   |error x=>
    obtain⟨e1,e2,e3⟩:=k1 x hq;rw[e1,e2];simp only[dt];rw[if_pos e3];rfl
   |ok z=>
    obtain rfl:=k2 z hq;have hz:=ma _ _ _ _ hq;simp only[OE,Nat.zero_add] at hz;simp only[ne_eq,not_true_eq_false,decide_false,Bool.false_eq_true,↓reduceIte];rw[show IntKind.i64.wrap ((1:Int)+1)=2 from rfl,Zav.l4,if_neg (by decide),Em (by omega) (by omega)];simp only[dt];unfold vV;by_cases hw:1024<y.2.2+z.length;·rw[if_pos (by omega)];dsimp only;rw[if_pos hw];rfl
    ·rw[if_neg (by omega)];dsimp only;rw[if_neg hw]
 exact key _ _ (by omega)
end Rv
namespace Rv
open Go
abbrev W32:=BitVec 32
theorem ofI(W:W32):BitVec.ofInt 32 (W.toNat:Int)=W:=by simp
theorem MR(x:Int):IntKind.u32.wrap x=((BitVec.ofInt 32 x).toNat:Int):=by
 rw[IntKind.wrap_u32,BitVec.toNat_ofInt];omega
theorem JD(W:W32):IntKind.u32.wrap (W.toNat:Int)=(W.toNat:Int):=by rw[MR,ofI]
theorem Eh(A B:W32):aQ .or .u32 (A.toNat:Int) (B.toNat:Int)=((A ||| B).toNat:Int):=by
 show IntKind.u32.wrap (((BitVec.ofInt 32 (A.toNat:Int) ||| BitVec.ofInt 32 (B.toNat:Int)).toNat:Nat):Int)=_;rw[ofI,ofI,JD]
theorem JJ(A B:W32):aQ .and .u32 (A.toNat:Int) (B.toNat:Int)=((A &&& B).toNat:Int):=by
 show IntKind.u32.wrap (((BitVec.ofInt 32 (A.toNat:Int) &&& BitVec.ofInt 32 (B.toNat:Int)).toNat:Nat):Int)=_;rw[ofI,ofI,JD]
theorem G6(A B:W32):aQ .andNot .u32 (A.toNat:Int) (B.toNat:Int)=((A &&& ~~~B).toNat:Int):=by
 show IntKind.u32.wrap (((BitVec.ofInt 32 (A.toNat:Int) &&& ~~~BitVec.ofInt 32 (B.toNat:Int)).toNat:Nat):Int)=_;rw[ofI,ofI,JD]
theorem yV(A:W32)(b:Nat)(hb:b<=32):IntKind.u32.wrap ((A.toNat:Int)*2 ^ (min ((b:Int)).toNat IntKind.u32.bits))=((A <<< b).toNat:Int):=by
 have e:min ((b:Int)).toNat IntKind.u32.bits=b:=by show min ((b:Int)).toNat 32=b;omega
 rw[e,IntKind.wrap_u32,BitVec.toNat_shiftLeft,Nat.shiftLeft_eq];have:(A.toNat:Int)*2 ^ b=((A.toNat*2 ^ b:Nat):Int):=by rw[Int.natCast_mul,Int.natCast_pow];rfl
 rw[this];generalize A.toNat*2 ^ b=q;omega
theorem JS(A:W32)(b:Nat)(hb:b<=32):(A.toNat:Int).fdiv (2 ^ (min ((b:Int)).toNat IntKind.u32.bits))=((A >>> b).toNat:Int):=by
 have e:min ((b:Int)).toNat IntKind.u32.bits=b:=by show min ((b:Int)).toNat 32=b;omega
 rw[e,BitVec.toNat_ushiftRight,Nat.shiftRight_eq_div_pow,Int.fdiv_eq_ediv_of_nonneg _ (Int.le_of_lt (Int.pow_pos (by decide))),Int.natCast_ediv,Int.natCast_pow];rfl
def sS(W X:W32)(b p:Nat):W32:=(W &&& ~~~(1#32 <<< b)) ||| (((X >>> p) &&& 1#32) <<< b)
def fB(W X:W32)(a:Nat):Nat->W32
 |0=>W
 |k+1=>sS (fB W X a k) X (a+k) k
def eP(W:W32)(a:Nat):Nat->W32
 |0=>0
 |k+1=>eP W a k ||| (((W >>> (a+k)) &&& 1#32) <<< k)
theorem CB(j:Nat):(1#32).getLsbD j=decide (j=0):=by
 rw[BitVec.getLsbD_one];simp
theorem BO(W X:W32){b p:Nat}(hb:b<32){j:Nat}(hj:j<32):(sS W X b p).getLsbD j=if j=b then X.getLsbD p else W.getLsbD j:=by
 unfold sS;rw[BitVec.getLsbD_or,BitVec.getLsbD_and,BitVec.getLsbD_not,BitVec.getLsbD_shiftLeft,BitVec.getLsbD_shiftLeft,BitVec.getLsbD_and,BitVec.getLsbD_ushiftRight,CB];by_cases h:j=b;·subst h;simp[hj]
 ·rw[if_neg h];by_cases h2:j<b
  ·simp[hj,h2]
  ·have:¬j-b=0:=by omega
   simp[hj,this]
theorem uU(W X:W32){a:Nat}:∀{n:Nat},a+n<=32->∀{j:Nat},j<32->(fB W X a n).getLsbD j=if a<=j/\j<a+n then X.getLsbD (j-a) else W.getLsbD j
 |0,_,j,_=>by rw[if_neg (by omega)];rfl
 |n+1,h,j,hj=>by
  rw[fB,BO _ _ (by omega) hj];by_cases e:j=a+n;·rw[if_pos e,if_pos (by omega),e,Nat.add_sub_cancel_left]
  ·rw[if_neg e,uU W X (by omega) hj];by_cases e2:a<=j/\j<a+n
   ·rw[if_pos e2,if_pos (by omega)]
   ·rw[if_neg e2,if_neg (by omega)]
theorem fq(W:W32){a:Nat}:∀{n:Nat},n<=32->∀{j:Nat},j<32->(eP W a n).getLsbD j=(decide (j<n)&&W.getLsbD (a+j))
 |0,_,j,_=>by simp[eP]
 |n+1,h,j,hj=>by
  rw[eP,BitVec.getLsbD_or,fq W (by omega) hj,BitVec.getLsbD_shiftLeft,BitVec.getLsbD_and,BitVec.getLsbD_ushiftRight,CB];by_cases e:j=n;·subst e;simp[hj]
  ·by_cases e2:j<n
   ·simp[e2];omega
   ·have h1:¬j-n=0:=by omega
    have h2:¬j<n+1:=by omega
    simp[e2,h1,h2]
theorem mY{A B:W32}(h:∀j,j<32->A.getLsbD j=B.getLsbD j):A=B:=BitVec.eq_of_getLsbD_eq fun j hj=>h j hj
theorem zC(W X:W32){a n b m:Nat}(h:a+n<=32)(h1:a<=b)(h2:b+m<=a+n):eP (fB W X a n) b m=eP X (b-a) m:=mY fun j hj=>by
 rw[fq _ (by omega) hj,fq _ (by omega) hj];by_cases e:j<m;·rw[uU _ _ h (by omega),if_pos (by omega),show b+j-a=b-a+j by omega]
 ·simp[e]
theorem Kv(W X:W32){a n b m:Nat}(h:a+n<=32)(hb:b+m<=32)(h1:b+m<=a\/a+n<=b):eP (fB W X a n) b m=eP W b m:=mY fun j hj=>by
 rw[fq _ (by omega) hj,fq _ (by omega) hj];by_cases e:j<m;·rw[uU _ _ h (by omega),if_neg (by omega)]
 ·simp[e]
theorem Il(b m:Nat)(hm:m<=32):eP 0 b m=0:=mY fun j hj=>by
 rw[fq _ hm hj];simp
theorem Ku{X:W32}{n:Nat}(hn:n<=32)(hx:X.toNat<2 ^ n):eP X 0 n=X:=mY fun j hj=>by
 rw[fq _ hn hj,Nat.zero_add];by_cases e:j<n;·simp[e]
 ·have:X.getLsbD j=false:=by
   show X.toNat.testBit j=false;exact Nat.testBit_lt_two_pow (Ow hx (Nat.pow_le_pow_right (by decide) (by omega)))
  simp[e,this]
theorem Mc(W:W32)(a:Nat){n:Nat}(hn:n<=32):(eP W a n).toNat<2 ^ n:=by
 refine Nat.lt_pow_two_of_testBit _ fun j hj=>?_
 by_cases h:j<32;·have:=fq W (a:=a) hn h;show(eP W a n).getLsbD j=false;rw[this];simp;omega
 ·exact BitVec.getLsbD_of_ge _ _ (by omega)
theorem Li(W X:W32){b p:Nat}(hb:b<32)(hp:p<32):Zde.g (b:Int) (p:Int) (W.toNat:Int) (X.toNat:Int)=some (((sS W X b p).toNat:Int),(X.toNat:Int),()):=by
 unfold Zde.g Zde.f;have e1:(1:Int)=((1#32).toNat:Int):=rfl;rw[if_neg (by omega),if_neg (by omega),if_neg (by omega),JS X p (by omega),e1,yV (1#32) b (by omega),JJ,yV _ b (by omega),G6,Eh];rfl
theorem H9(n:Nat)(X W:W32){a c:Nat}(hc:1<=c)(h:a+c<=32):∀(m k:Nat),k<=c->c-k<m->Zch.l2 n m (a:Int) (c:Int) ((a+k:Nat):Int) ((fB W X a k).toNat:Int) (X.toNat:Int)=some (((fB W X a c).toNat:Int),(X.toNat:Int),()):=by
 intro m
 induction m with
 |zero=>intro k _ hm;omega
 |succ m ih=>
  intro k hk hm;rw[Zch.l2];simp only[dt];by_cases e:k=c
  ·subst e;by_cases e2:a+k<32
   ·rw[if_pos (by omega),if_neg (by rw[w64 (by omega)];omega)]
   ·rw[if_neg (by omega)]
  ·rw[if_pos (by omega),w64 (by omega),if_pos (by omega),show((a+k:Nat):Int)-(a:Int)=(k:Int) by omega,Li _ X (by omega) (by omega),ND];dsimp only;rw[w64 (by omega),show((a+k:Nat):Int)+1=((a+(k+1):Nat):Int) by omega];exact ih (k+1) (by omega) (by omega)
theorem MJ(W X:W32){a c:Nat}(hc:1<=c)(h:a+c<=32):Zdf.g (W.toNat:Int) (a:Int) (c:Int) (X.toNat:Int)=some (((fB W X a c).toNat:Int),()):=by
 unfold Zdf.g Zdf.f Zch.g Zch.f;simp only[dt,df];rw[if_pos (by omega),if_pos (by omega),w64 (by omega),if_neg (by omega)];have hmx:mx (a:Int) 0=((a+0:Nat):Int):=by unfold mx;split<;>omega
 rw[hmx];have:=H9 (1000+((a:Int)).toNat+((c:Int)).toNat+((W.toNat:Int)).toNat+((X.toNat:Int)).toNat) X W hc h (1000+((a:Int)).toNat+((c:Int)).toNat+((W.toNat:Int)).toNat+((X.toNat:Int)).toNat) 0 (by omega) (by omega);rw[show fB W X a 0=W from rfl] at this;rw[this,ND]
theorem Kt(O W:W32){b p:Nat}(hb:b<32)(hp:p<32):Zdg.g (b:Int) (p:Int) (O.toNat:Int) (W.toNat:Int)=some (((O ||| (((W >>> b) &&& 1#32) <<< p)).toNat:Int),(W.toNat:Int),()):=by
 unfold Zdg.g Zdg.f;have e1:(1:Int)=((1#32).toNat:Int):=rfl;rw[if_neg (by omega),if_neg (by omega),JS W b (by omega),e1,JJ,yV _ p (by omega),Eh]
theorem H8(n:Nat)(W:W32){a c:Nat}(hc:1<=c)(h:a+c<=32):∀(m k:Nat),k<=c->c-k<m->Zci.l2 n m (a:Int) (c:Int) ((a+k:Nat):Int) ((eP W a k).toNat:Int) (W.toNat:Int)=some (((eP W a c).toNat:Int),(W.toNat:Int),()):=by
 intro m
 induction m with
 |zero=>intro k _ hm;omega
 |succ m ih=>
  intro k hk hm;rw[Zci.l2];simp only[dt];by_cases e:k=c
  ·subst e;by_cases e2:a+k<32
   ·rw[if_pos (by omega),if_neg (by rw[w64 (by omega)];omega)]
   ·rw[if_neg (by omega)]
  ·rw[if_pos (by omega),w64 (by omega),if_pos (by omega),show((a+k:Nat):Int)-(a:Int)=(k:Int) by omega,Kt _ W (by omega) (by omega),ND];dsimp only;rw[w64 (by omega),show((a+k:Nat):Int)+1=((a+(k+1):Nat):Int) by omega];exact ih (k+1) (by omega) (by omega)
theorem Ma(W:W32){a c:Nat}(hc:1<=c)(h:a+c<=32):Zdh.g (W.toNat:Int) (a:Int) (c:Int)=some (((eP W a c).toNat:Int),()):=by
 unfold Zdh.g Zdh.f Zci.g Zci.f;simp only[dt,df];rw[if_pos (by omega),if_pos (by omega),w64 (by omega),if_neg (by omega)];have hmx:mx (a:Int) 0=((a+0:Nat):Int):=by unfold mx;split<;>omega
 rw[hmx];have:=H8 (1000+((a:Int)).toNat+((c:Int)).toNat+((0:Int)).toNat+((W.toNat:Int)).toNat) W hc h (1000+((a:Int)).toNat+((c:Int)).toNat+((0:Int)).toNat+((W.toNat:Int)).toNat) 0 (by omega) (by omega);rw[show((eP W a 0).toNat:Int)=0 from rfl] at this;rw[this,ND]
end Rv
namespace Rv
open Go
def le4(x:Int):List Int:=[x % 256,x / 256 % 256,x / 65536 % 256,x / 16777216 % 256]
def leB(l:List Int):List Int:=l.flatMap le4
theorem iG:∀l:List Int,(leB l).length=4*l.length
 |[]=>rfl
 |x::l=>by rw[leB,Oc,NI,<- leB,iG l,N9];show 4+_=_;omega
theorem KM(a b:List Int):leB (a++b)=leB a++leB b:=by unfold leB;rw[List.flatMap_append]
theorem vB{a:List Int}{i:Nat}(h:i<a.length):a.drop i=a.getD i 0::a.drop (i+1):=by
 rw[Og h,NH,NL h];rfl
theorem Nw{x:Int}(h0:0<=x)(h1:x<=4294967295):[IntKind.u8.wrap x,IntKind.u8.wrap (x.fdiv (2 ^ (min (8:Int).toNat IntKind.u32.bits))),IntKind.u8.wrap (x.fdiv (2 ^ (min (16:Int).toNat IntKind.u32.bits))),IntKind.u8.wrap (x.fdiv (2 ^ (min (24:Int).toNat IntKind.u32.bits)))]=le4 x:=by
 have e8:(2:Int) ^ (min (8:Int).toNat IntKind.u32.bits)=256:=by decide
 have e16:(2:Int) ^ (min (16:Int).toNat IntKind.u32.bits)=65536:=by decide
 have e24:(2:Int) ^ (min (24:Int).toNat IntKind.u32.bits)=16777216:=by decide
 rw[e8,e16,e24,Int.fdiv_eq_ediv_of_nonneg _ (by decide),Int.fdiv_eq_ediv_of_nonneg _ (by decide),Int.fdiv_eq_ediv_of_nonneg _ (by decide)];simp only[IntKind.wrap_u8,le4]
theorem Ea(l:List Int)(hl:l.length<=100000)(hb:∀x∈l,0<=x/\x<=4294967295)(n:Nat):∀(m i:Nat) (a:List Int),i<=l.length->l.length-i<m->a.length=4*i ->
  Zbc.l3 n m a l (l.length:Int) (i:Int)=some (a++leB (l.drop i),()):=by
 intro m
 induction m with
 |zero=>intro i _ _ h;omega
 |succ m ih=>
  intro i a hi hm ha;rw[Zbc.l3];simp only[dt,NU];by_cases h:i<l.length;·have hx:=hb (l.getD i 0) (by rw[NH,NL h];exact Ou h);rw[if_pos (by omega),if_pos (by omega),if_pos (by simp;omega),Nw hx.1 hx.2,w64 (by omega)];have:=ih (i+1) (a++le4 (l.getD i 0)) (by omega) (by omega) (by rw[NI];show _+4=_;omega);rw[show((i:Int)+1)=((i+1:Nat):Int) by omega,this,vB h,leB,leB,Oc,NV]
  ·obtain rfl:i=l.length:=by omega
   rw[if_neg (by omega),Ol];simp[leB]
theorem uF(l:List Int)(hl:l.length<=100000)(hb:∀x∈l,0<=x/\x<=4294967295):Zbc.g l=some (leB l,()):=by
 unfold Zbc.g Zbc.f;have:=Ea l hl hb (1000+l.length) (1000+l.length) 0 [] (by omega) (by omega) rfl;simpa using this
theorem Ae(a k i:Nat)(h:a<2 ^ i)(hs:2 ^ i*k+a<4294967296):aQ .or .u32 (a:Int) ((2 ^ i*k:Nat):Int)=((2 ^ i*k+a:Nat):Int):=by
 have ha:(BitVec.ofNat 32 a).toNat=a:=by rw[BitVec.toNat_ofNat];omega
 have hk:(BitVec.ofNat 32 (2 ^ i*k)).toNat=2 ^ i*k:=by rw[BitVec.toNat_ofNat];exact Nat.mod_eq_of_lt (by omega)
 have:=Eh (BitVec.ofNat 32 a) (BitVec.ofNat 32 (2 ^ i*k));rw[BitVec.toNat_or,ha,hk,Nat.or_comm,<- Nat.two_pow_add_eq_or_of_lt h] at this;exact this
theorem or4{x:Int}(h0:0<=x)(h1:x<=4294967295) :
  aQ .or .u32 (aQ .or .u32 (aQ .or .u32 (IntKind.u32.wrap (x % 256)) (IntKind.u32.wrap ((IntKind.u32.wrap (x / 256 % 256))*2 ^ (min (8:Int).toNat IntKind.u32.bits)))) (IntKind.u32.wrap ((IntKind.u32.wrap (x / 65536 % 256))*2 ^ (min (16:Int).toNat IntKind.u32.bits)))) (IntKind.u32.wrap ((IntKind.u32.wrap (x / 16777216 % 256))*2 ^ (min (24:Int).toNat IntKind.u32.bits)))=x:=by
 have e8:(2:Int) ^ (min (8:Int).toNat IntKind.u32.bits)=256:=by decide
 have e16:(2:Int) ^ (min (16:Int).toNat IntKind.u32.bits)=65536:=by decide
 have e24:(2:Int) ^ (min (24:Int).toNat IntKind.u32.bits)=16777216:=by decide
 rw[e8,e16,e24];obtain⟨n,rfl⟩:=Int.eq_ofNat_of_zero_le h0;have a0:IntKind.u32.wrap ((n:Int) % 256)=((n % 256:Nat):Int):=by rw[IntKind.wrap_u32];omega
 have a1:IntKind.u32.wrap (IntKind.u32.wrap ((n:Int) / 256 % 256)*256)=((2 ^ 8*(n / 256 % 256):Nat):Int):=by rw[IntKind.wrap_u32,IntKind.wrap_u32];omega
 have a2:IntKind.u32.wrap (IntKind.u32.wrap ((n:Int) / 65536 % 256)*65536)=((2 ^ 16*(n / 65536 % 256):Nat):Int):=by rw[IntKind.wrap_u32,IntKind.wrap_u32];omega
 have a3:IntKind.u32.wrap (IntKind.u32.wrap ((n:Int) / 16777216 % 256)*16777216)=((2 ^ 24*(n / 16777216 % 256):Nat):Int):=by rw[IntKind.wrap_u32,IntKind.wrap_u32];omega
 rw[a0,a1,a2,a3,Ae _ _ 8 (by omega) (by omega),Ae _ _ 16 (by omega) (by omega),Ae _ _ 24 (by omega) (by omega)];omega
theorem KL{l rest:List Int}{i:Nat}(h:i<l.length):(((leB l++rest).take (4*i+4)).drop (4*i))=le4 (l.getD i 0):=by
 rw[<- List.take_append_drop i l,KM,vB h,leB,leB,Oc];have e:(List.flatMap le4 (l.take i)).length=4*i:=by
  have:=iG (l.take i);rw[leB,Oa,Nat.min_eq_left (by omega)] at this;exact this
 rw[NV,List.drop_take,<- e,List.drop_left,NV,show(List.flatMap le4 (l.take i)).length+4-(List.flatMap le4 (l.take i)).length=4 by omega];have e2:(l.take i++l.getD i 0::l.drop (i+1)).getD i 0=l.getD i 0:=by rw[<- vB h,List.take_append_drop]
 rw[e2];rfl
theorem Bo(l rest:List Int)(hl:l.length<=100000)(hr:rest.length<=1000000)(hb:∀x∈l,0<=x/\x<=4294967295)(n:Nat):∀(m i:Nat) (b:List Int),i<=l.length->l.length-i<m->b.length=i ->
  Zbv.l5 n m (leB l++rest) b (l.length:Int) (i:Int)=some (b++l.drop i,0,()):=by
 have hlen:(leB l++rest).length=4*l.length+rest.length:=by rw[NI,iG]
 intro m
 induction m with
 |zero=>intro i _ _ h;omega
 |succ m ih=>
  intro i b hi hm hbl;rw[Zbv.l5];simp only[dt,NU];by_cases h:i<l.length
  ·have hx:=hb (l.getD i 0) (by rw[NH,NL h];exact Ou h);have w1:IntKind.i64.wrap ((4:Int)*(i:Int))=((4*i:Nat):Int):=by rw[w64 (by omega)];omega
   have w2:IntKind.i64.wrap (((4*i:Nat):Int)+4)=((4*i+4:Nat):Int):=by rw[w64 (by omega)];omega
   rw[w1,w2,NU,NU,KL h];have g0:(le4 (l.getD i 0)).getD (0:Int).toNat 0=l.getD i 0 % 256:=rfl;have g1:(le4 (l.getD i 0)).getD (1:Int).toNat 0=l.getD i 0 / 256 % 256:=rfl;have g2:(le4 (l.getD i 0)).getD (2:Int).toNat 0=l.getD i 0 / 65536 % 256:=rfl;have g3:(le4 (l.getD i 0)).getD (3:Int).toNat 0=l.getD i 0 / 16777216 % 256:=rfl;have l4:((le4 (l.getD i 0)).length:Int)=4:=rfl;rw[if_pos (by omega),if_pos (by omega),if_pos (by omega),l4,if_pos (by decide),if_pos (by decide),if_pos (by decide),if_pos (by decide),g0,g1,g2,g3,or4 hx.1 hx.2,if_pos (by simp;omega),w64 (by omega)];have:=ih (i+1) (b++[l.getD i 0]) (by omega) (by omega) (by simp[hbl]);rw[show((i:Int)+1)=((i+1:Nat):Int) by omega,this,vB h,NV];rfl
  ·obtain rfl:i=l.length:=by omega
   rw[if_neg (by omega),Ol,OI]
theorem FJ(l rest:List Int)(hl:l.length<=100000)(hr:rest.length<=1000000)(hb:∀x∈l,0<=x/\x<=4294967295):Zbv.g (leB l++rest) (l.length:Int)=some (l,0,()):=by
 have hlen:(leB l++rest).length=4*l.length+rest.length:=by rw[NI,iG]
 unfold Zbv.g;generalize hn:1000+(leB l++rest).length+((l.length:Int)).toNat=n;unfold Zbv.f;have w:IntKind.i64.wrap (Int.tdiv ((leB l++rest).length:Int) 4)=(((4*l.length+rest.length) / 4:Nat):Int):=by
  rw[hlen,Int.tdiv_eq_ediv_of_nonneg (by omega),w64 (by omega)];omega
 simp only[dt,df];rw[if_pos (by omega),w,if_neg (by omega)];have:=Bo l rest hl hr hb n n 0 [] (by omega) (by omega) rfl;simpa using this
theorem qM(l rest:List Int)(hl:l.length<=100000)(hr:rest.length<=1000000)(hb:∀x∈l,0<=x/\x<=4294967295):Zbw.g (leB l++rest) (l.length:Int)=some (l,rest,0,()):=by
 have hlen:(leB l++rest).length=4*l.length+rest.length:=by rw[NI,iG]
 unfold Zbw.g;generalize 1000+(leB l++rest).length+((l.length:Int)).toNat=n;unfold Zbw.f;rw[FJ l rest hl hr hb,ND];have w:IntKind.i64.wrap ((4:Int)*(l.length:Int))=((leB l).length:Int):=by rw[iG,w64 (by omega)];omega
 simp only[dt];rw[if_neg (by simp),w,if_pos (by rw[NI];omega),NU,NU,List.take_length,List.drop_left]
end Rv
namespace Rv
open Go
def vT(p:List Int×Int)(s:Int):List Int×Int:=(p.1.set s.toNat (p.1.getD s.toNat 0*65536+p.2),s+1)
def stP(ws ss:List Int)(i:Nat):List Int×Int:=(ss.take i).foldl vT (ws,0)
def aS(ws ss:List Int):List Int×Int:=ss.foldl vT (ws,0)
theorem lc(ws ss:List Int):stP ws ss ss.length=aS ws ss:=by unfold stP aS;rw[List.take_length]
theorem Gv{ss:List Int}{i:Nat}(h:i<ss.length):ss.take (i+1)=ss.take i++[ss.getD i 0]:=by
 rw[List.take_succ,NH,NL h];rfl
theorem pW{ws ss:List Int}{i:Nat}(h:i<ss.length):stP ws ss (i+1)=vT (stP ws ss i) (ss.getD i 0):=by
 unfold stP;rw[Gv h,List.foldl_append];rfl
theorem K6(a k i:Nat)(h:a<2 ^ i)(hs:2 ^ i*k+a<4294967296):aQ .or .u32 ((2 ^ i*k:Nat):Int) (a:Int)=((2 ^ i*k+a:Nat):Int):=by
 have ha:(BitVec.ofNat 32 a).toNat=a:=by rw[BitVec.toNat_ofNat];omega
 have hk:(BitVec.ofNat 32 (2 ^ i*k)).toNat=2 ^ i*k:=by rw[BitVec.toNat_ofNat];exact Nat.mod_eq_of_lt (by omega)
 have:=Eh (BitVec.ofNat 32 (2 ^ i*k)) (BitVec.ofNat 32 a);rw[BitVec.toNat_or,ha,hk,<- Nat.two_pow_add_eq_or_of_lt h] at this;exact this
structure OkS (ws ss:List Int):Prop where
 lw:ws.length<=1024
 wr:∀x∈ws,0<=x/\x<=4294967295
 lt:∀i j,i<j->j<ss.length->ss.getD i 0<ss.getD j 0
 at_:∀i,i<ss.length->0<=ss.getD i 0/\ss.getD i 0<(ws.length:Int)
 low:∀i,i<ss.length->ws.getD (ss.getD i 0).toNat 0<=65535
section
variable{ws ss:List Int}(O:OkS ws ss)
include O
theorem OkS.len:ss.length<=1024:=by
 have key:∀i,i<ss.length->(i:Int)<=ss.getD i 0:=by
  intro i
  induction i with
  |zero=>intro h;have:=(O.at_ 0 h).1;omega
  |succ i ih=>intro h;have:=ih (by omega);have:=O.lt i (i+1) (by omega) h;omega
 have hl:=O.lw;rcases Nat.lt_or_ge 1024 ss.length with h|h;·have:=key 1024 h;have:=(O.at_ 1024 h).2;omega
 ·exact h
theorem lK:∀i,i<=ss.length->(stP ws ss i).1.length=ws.length/\(∀j,i<=j->j<ss.length->(stP ws ss i).1.getD (ss.getD j 0).toNat 0=ws.getD (ss.getD j 0).toNat 0) /\
  0<=(stP ws ss i).2/\(stP ws ss i).2<=1024/\(∀j,i<=j->j<ss.length->(stP ws ss i).2<=ss.getD j 0)/\∀x∈(stP ws ss i).1,0<=x/\x<=4294967295:=by
 intro i
 induction i with
 |zero=>
  intro _;refine⟨rfl,fun _ _ _=>rfl,Int.le_refl _,by show(0:Int)<=1024;decide,fun j _ hj=>(O.at_ j hj).1,O.wr⟩
 |succ i ih=>
  intro h;obtain⟨h1,h2,h3,h4,h5,h6⟩:=ih (by omega);have hs:=O.at_ i (by omega);have hlow:=O.low i (by omega);have hlw:=O.lw;have e:=h2 i (NM _) (by omega);rw[pW (by omega)];generalize hq:stP ws ss i=q at h1 h2 h3 h4 h5 h6 e;obtain⟨o,hd⟩:=q;dsimp only at h1 h2 h3 h4 h5 h6 e;have hpos:0<=o.getD (ss.getD i 0).toNat 0:=by
   rw[NH,NL (by omega)];exact(h6 _ (Ou _)).1
  unfold vT;dsimp only;refine⟨by rw[OJ];exact h1,fun j hj hj2=>?_,by omega,by omega,fun j hj hj2=>?_,fun x hx=>?_⟩
  ·have hlt:=O.lt i j (by omega) hj2;rw[NH,List.getElem?_set_ne (by omega),<- NH];exact h2 j (by omega) hj2
  ·have:=O.lt i j (by omega) hj2;omega
  ·rcases List.mem_or_eq_of_mem_set hx with hx|rfl
   ·exact h6 x hx
   ·omega
theorem unpack_pack:∀i,i<=ss.length->∀(m:Nat) (acc:List Int),(stP ws ss i).2.toNat<=m->L.unpR m (stP ws ss i).1 acc (stP ws ss i).2.toNat=some (ws,acc++(ss.take i).reverse):=by
 intro i
 induction i with
 |zero=>
  intro _ m acc _;have:stP ws ss 0=(ws,0):=rfl;rw[this];cases m<;>simp[L.unpR]
 |succ i ih=>
  intro h m acc hm;obtain⟨h1,h2,h3,h4,h5,h6⟩:=lK O i (by omega);have hs:=O.at_ i (by omega);have hlow:=O.low i (by omega);have e:=h2 i (NM _) (by omega);have hle:=h5 i (NM _) (by omega);have ih:=ih (by omega);rw[pW (by omega)] at hm⊢;rw[Gv (by omega)];generalize hq:stP ws ss i=q at h1 h2 h3 h4 h5 h6 e hm ih hle;obtain⟨o,hd⟩:=q;dsimp only at h1 h2 h3 h4 h5 h6 e ih hle;generalize ss.getD i 0=s at hs hlow e hm hle⊢;have hpos:0<=o.getD s.toNat 0:=by
   rw[NH,NL (by omega)];exact(h6 _ (Ou _)).1
  unfold vT at hm⊢;dsimp only at hm⊢;obtain⟨k,rfl⟩:=Int.eq_ofNat_of_zero_le hs.1;have hk:((k:Int)+1).toNat=k+1:=by omega
  rw[hk] at hm⊢;rw[NU] at *;obtain⟨m,rfl⟩:∃q,m=q+1:=⟨m-1,by omega⟩
  have hko:k<o.length:=by omega
  have g:(o.set k (o.getD k 0*65536+hd)).getD k 0=o.getD k 0*65536+hd:=by
   rw[NH,List.getElem?_set_self hko];rfl
  have hmod:(o.getD k 0*65536+hd) % 65536=hd:=by omega
  have hdiv:(o.getD k 0*65536+hd) / 65536=o.getD k 0:=by omega
  rw[L.unpR,g,hmod,hdiv,if_neg (by omega),List.set_set];have hset:o.set k (o.getD k 0)=o:=by
   rw[NH,NL hko];exact List.set_getElem_self hko
  rw[hset,ih m _ (by omega),List.reverse_append,NV];rfl
theorem I6(n:Nat):∀(m i:Nat),i<=ss.length->ss.length-i<m->Zat.l12 n m (stP ws ss i).1 (stP ws ss i).2 ss (ss.length:Int) (i:Int)=some ((aS ws ss).1,(aS ws ss).2,0,()):=by
 intro m
 induction m with
 |zero=>intro i _ h;omega
 |succ m ih=>
  intro i hi hm;have hl:=O.len;rw[Zat.l12];simp only[dt,NU];by_cases h:i<ss.length
  ·obtain⟨h1,h2,h3,h4,h5,h6⟩:=lK O i hi;have hs:=O.at_ i h;have hlow:=O.low i h;have e:=h2 i (NM _) h;have ih:=ih (i+1) (by omega) (by omega);rw[pW h] at ih;have hlw:=O.lw;generalize hq:stP ws ss i=q at h1 h2 h3 h4 h5 h6 e ih;obtain⟨o,hd⟩:=q;dsimp only at h1 h2 h3 h4 h5 h6 e ih⊢;have hpos:0<=o.getD (ss.getD i 0).toNat 0:=by
    rw[NH,NL (by omega)];exact(h6 _ (Ou _)).1
   have hr:0<=ss.getD i 0/\ss.getD i 0<(o.length:Int):=by omega
   have hv:aQ .or .u32 (IntKind.u32.wrap (o.getD (ss.getD i 0).toNat 0*2 ^ (min (16:Int).toNat IntKind.u32.bits))) (IntKind.u32.wrap hd)=o.getD (ss.getD i 0).toNat 0*65536+hd:=by
    have e16:(2:Int) ^ (min (16:Int).toNat IntKind.u32.bits)=65536:=by decide
    rw[e16,e];rw[e] at hpos;generalize ws.getD (ss.getD i 0).toNat 0=y at hpos hlow;obtain⟨y,rfl⟩:=Int.eq_ofNat_of_zero_le hpos;obtain⟨d,rfl⟩:=Int.eq_ofNat_of_zero_le h3;have a1:IntKind.u32.wrap ((y:Int)*65536)=((2 ^ 16*y:Nat):Int):=by rw[IntKind.wrap_u32];omega
    have a2:IntKind.u32.wrap (d:Int)=(d:Int):=by rw[IntKind.wrap_u32];omega
    rw[a1,a2,K6 _ _ 16 (by omega) (by omega)];omega
   rw[if_pos (by omega),if_pos (by omega),if_pos hr,if_neg (by omega),if_pos hr,if_pos hr,hv,w64 (by omega),w64 (by omega),show(i:Int)+1=((i+1:Nat):Int) by omega];exact ih
  ·obtain rfl:i=ss.length:=by omega
   rw[if_neg (by omega),lc]
theorem K8(n:Nat)(hn:ss.length<n):∀(m i:Nat) (c:Int),i<=ss.length->ss.length-i<m->(∀j,i<=j->j<ss.length->c<ss.getD j 0)->Zat.l3 n m ws ss c ss (ss.length:Int) (i:Int)=some ((aS ws ss).1,(aS ws ss).2,0,()):=by
 intro m
 induction m with
 |zero=>intro i _ _ h;omega
 |succ m ih=>
  intro i c hi hm hc;have hl:=O.len;have hlw:=O.lw;rw[Zat.l3];simp only[dt,df,NU];by_cases h:i<ss.length;·have hs:=O.at_ i h;have h0:=hc i (NM _) h;rw[if_pos (by omega),if_pos (by omega),if_pos (by omega),if_pos (by omega),if_neg (by omega),w64 (by omega),show(i:Int)+1=((i+1:Nat):Int) by omega];exact ih (i+1) _ (by omega) (by omega) fun j hj hj2=>O.lt i j (by omega) hj2
  ·rw[if_neg (by omega)];unfold L.cloneO;rw[if_pos (by omega),ND];exact I6 O n n 0 (by omega) (by omega)
theorem CG:Zat.g ws ss=some ((aS ws ss).1,(aS ws ss).2,0,()):=by
 unfold Zat.g;generalize hn:1000+ws.length+ss.length=n;unfold Zat.f;exact K8 O n (by omega) n 0 (-1) (by omega) (by omega) fun j _ hj=>by have:=(O.at_ j hj).1;omega
theorem GG:L.unpackO (aS ws ss).1 (aS ws ss).2=some (ws,ss,0,()):=by
 obtain⟨h1,_,h3,h4,_,h6⟩:=lK O ss.length (NM _);have hu:=unpack_pack O ss.length (NM _) (aS ws ss).2.toNat [] (by rw[lc];exact NM _)
 have hlw:=O.lw;rw[lc] at h1 h3 h4 h6 hu;have hh:(aS ws ss).2<=(ws.length:Int):=by
  rcases Nat.eq_zero_or_pos ss.length with h0|h0;·have:ss=[]:=List.eq_nil_of_length_eq_zero h0;subst this;show(0:Int)<=_;omega
  ·have e:=pW (ws:=ws) (ss:=ss) (i:=ss.length-1) (by omega);rw[show ss.length-1+1=ss.length by omega,lc] at e;rw[e];have:=(O.at_ (ss.length-1) (by omega)).2;show ss.getD (ss.length-1) 0+1<=_;omega
 unfold L.unpackO;rw[if_neg (by omega),if_pos ⟨by omega,Oe.2 fun x hx=>decide_eq_true (h6 x hx)⟩,hu];simp
end
end Rv
namespace Rv
open Go
theorem IC:((List.range 256).all fun k=>decide (Zbj.g (k:Int) true=some (isA (UInt8.ofNat k),()))&&decide (Zbj.g (k:Int) false=some (isW (UInt8.ofNat k),())))=true:=by decide +kernel
theorem Cs(b:UInt8)(f:Bool):Zbj.g (b.toNat:Int) f=some (if f then isA b else isW b,()):=by
 have h:=Oe.1 IC b.toNat (by simp;exact b.toNat_lt)
 simp at h;cases f;·exact h.2
 ·exact h.1
theorem Bn(s:Str)(hs:s.length<=12)(n:Nat):∀(m i:Nat),1<=i->i<=s.length->s.length-i<m ->
  Zai.l4 n m s (s.length:Int) (i:Int)=if(s.drop i).all isW=true then Zai.l4 n 1 s (s.length:Int) (s.length:Int) else some (false,()):=by
 intro m
 induction m with
 |zero=>intro i _ _ h;omega
 |succ m ih=>
  intro i h0 hi hm;by_cases h1:i<s.length;·rw[Zai.l4,if_pos (by simp;omega),if_pos (by omega),qD,Cs,ND,dD h1,OH];dsimp only;rw[if_neg (show ¬decide ((i:Int)=0)=true by simp;omega),w64 (by omega),show(i:Int)+1=((i+1:Nat):Int) by omega,ih (i+1) (by omega) (by omega) (by omega)];cases isW (s.getD i 0)<;>simp
  ·have hi':i=s.length:=by omega
   subst hi';rw[Ol,List.all_nil,if_pos rfl];have hlt:¬((s.length:Int)<s.length):=by omega
   simp only[Zai.l4,dt,hlt,if_false]
theorem jY(s:Str):Zai.g s=some (cB s,()):=by
 unfold Zai.g Zai.f;simp only[dt,df];by_cases h0:s=[]
 ·subst h0;rw[if_neg (by simp)];rfl
 ·have hl0:0<s.length:=List.length_pos_iff.2 h0;rw[if_pos (by omega)];by_cases h12:s.length<=12
  ·rw[if_neg (by omega)];obtain⟨m,hm⟩:∃m,1000+s.length=m+1:=⟨999+s.length,by omega⟩
   rw[show Zai.l4 (1000+s.length) (1000+s.length) s (s.length:Int) 0=Zai.l4 (1000+s.length) (m+1) s (s.length:Int) 0 by rw[hm],Zai.l4,if_pos (by simp;omega),if_pos (by omega)];have hb0:bt s 0=((s.getD 0 0).toNat:Int):=rfl;rw[hb0,Cs,ND];dsimp only;have hdd:decide ((0:Int)=0)=true:=rfl;rw[hdd,if_pos (show true=true from rfl),show IntKind.i64.wrap ((0:Int)+1)=((1:Nat):Int) from rfl,Bn s h12 (1000+s.length) m 1 (by omega) (by omega) (by omega)];have hall:s.all isW=(isW (s.getD 0 0)&&(s.drop 1).all isW):=by
    have:=dD (s:=s) (k:=0) hl0;rw[Oi] at this
    conv=>lhs;rw[this]
    rw[OH]
   unfold cB;rw[decide_eq_true h0,decide_eq_true h12,hall];have hAW:isA (s.getD 0 0)=true->isW (s.getD 0 0)=true:=fun h=>by unfold isW;rw[M4,h];rfl
   cases hA:isA (s.getD 0 0) with
   |false=>rw[if_pos (by simp)];simp
   |true=>
    rw[if_neg (by simp),hAW hA];by_cases hw:(s.drop 1).all isW=true
    ·rw[if_pos hw,hw];simp only[Zai.l4,dt,df];rw[if_neg (by omega),if_pos (by omega),hb0];have h82:(((s.getD 0 0).toNat:Int)=82)=(s.getD 0 0=82):=kT _ 82 (by omega);simp only[h82];have htake:(s.take (s.length:Int).toNat).drop (1:Int).toNat=s.drop 1:=by
      rw[show(s.length:Int).toNat=s.length by omega,List.take_length];rfl
     have htrim:s.length<=3->L.trimO ((s.take (s.length:Int).toNat).drop (1:Int).toNat) [48,49,50,51,52,53,54,55,56,57]=some (L.trimDig (s.drop 1),()):=fun h=>by
      rw[htake];unfold L.trimO;rw[if_pos ⟨rfl,by simp;omega⟩]
     have hT:decide (L.trimDig (s.drop 1)=[])=(s.drop 1).all isD:=by
      rw[Bool.eq_iff_iff,NN,Ba]
     unfold nN;by_cases hR:s.getD 0 0=82
     ·rw[if_pos hR,decide_eq_true hR];by_cases h2:s.length=2
      ·rw[if_neg (by omega),if_pos (by omega),htrim (by omega),ND,decide_eq_true h2];dsimp only;rw[hT];simp
      ·rw[if_pos (by omega),decide_eq_false h2];by_cases h3:s.length=3
       ·rw[if_pos (by omega),if_pos (by omega),htrim (by omega),ND,decide_eq_true h3];dsimp only;rw[hT];simp
       ·rw[if_neg (by omega),decide_eq_false h3];simp
     ·rw[if_neg hR,decide_eq_false hR];simp
    ·rw[if_neg hw,Bool.eq_false_iff.2 hw];simp
  ·rw[if_pos (by omega)];unfold cB;rw[decide_eq_false h12];simp
end Rv
namespace Rv
open Go
def fC(s:Str):List Int:=(s.length:Int)::((s.map fun b=>(b.toNat:Int))++List.replicate ((s.length+4) / 4*4-1-s.length) 0)
theorem rz(s:Str):(fC s).length=(s.length+4) / 4*4:=by
 unfold fC;simp;omega
theorem kK{s:Str}(h:cB s=true):1<=s.length/\s.length<=12:=by
 unfold cB at h;simp only[NJ,NN] at h;refine⟨?_,h.1.1.1.2⟩;cases s with
 |nil=>simp at h
 |cons _ _=>simp
theorem Ep{s:Str}(h:cB s=true):Zdt.g s=some (fC s,0,()):=by
 have hl:=kK h;unfold Zdt.g L.putNameO;rw[jY s,ND];dsimp only;rw[if_pos h,if_pos (by omega)];rfl
theorem FU(n:Nat)(h:n<=1000):Zda.g (n:Int)=some ((((n+4) / 4*4:Nat):Int),()):=by
 unfold Zda.g Zda.f;have w1:IntKind.i64.wrap ((1:Int)+(n:Int))=((n+1:Nat):Int):=by rw[w64 (by omega)];omega
 have w2:IntKind.i64.wrap (((n+1:Nat):Int)+4)=((n+5:Nat):Int):=by rw[w64 (by omega)];omega
 have w3:IntKind.i64.wrap (((n+5:Nat):Int)-1)=((n+4:Nat):Int):=by rw[w64 (by omega)];omega
 have w4:IntKind.i64.wrap (Int.tdiv ((n+4:Nat):Int) 4)=(((n+4) / 4:Nat):Int):=by
  rw[Int.tdiv_eq_ediv_of_nonneg (by omega),w64 (by omega)];omega
 rw[w1,w2,w3,w4,w64 (by omega)];congr 2
theorem DF(s:Str):bytesOf (s.map fun b=>(b.toNat:Int))=s:=by
 unfold bytesOf;rw[List.map_map];have:((fun n:Int=>UInt8.ofNat n.toNat) ∘ fun b:UInt8=>(b.toNat:Int))=id:=by funext b;simp
 rw[this,List.map_id]
theorem EL(n:Nat)(a:Str)(b:Int)(k:Nat)(hk:k<=1000):∀(m i:Nat),i<=k->k-i<m->Zbx.l11 n m a b (List.replicate k 0) (k:Int) (i:Int)=some (a,b,0,()):=by
 intro m
 induction m with
 |zero=>intro i _ h;omega
 |succ m ih=>
  intro i hi hm;rw[Zbx.l11];simp only[dt,NU];by_cases h:i<k
  ·have e:(List.replicate k (0:Int)).getD i 0=0:=by rw[NH,List.getElem?_replicate];simp[h]
   rw[if_pos (by omega),if_pos (by rw[Ox];omega),e,if_neg (by simp),w64 (by omega)];exact ih (i+1) (by omega) (by omega)
  ·rw[if_neg (by omega)]
theorem BP{s:Str}(h:cB s=true)(rest:List Int)(hr:rest.length<=1000000):Zbx.g (fC s++rest)=some (s,((fC s).length:Int),0,()):=by
 have hl:=kK h;have hnl:=rz s;have hlen:(fC s++rest).length=(s.length+4) / 4*4+rest.length:=by rw[NI,hnl]
 obtain⟨p,hp⟩:∃p,p=(s.length+4) / 4*4:=⟨_,rfl⟩
 have hp1:s.length+1<=p:=by omega
 have hp2:p<=16:=by omega
 rw[<- hp] at hlen hnl;unfold Zbx.g;generalize hn:1000+(fC s++rest).length=n;unfold Zbx.f;have g0:(fC s++rest).getD (0:Int).toNat 0=(s.length:Int):=rfl;have w0:IntKind.i64.wrap ((s.length:Nat):Int)=(s.length:Int):=w64 (by omega);have w1:IntKind.i64.wrap ((1:Int)+(s.length:Int))=((1+s.length:Nat):Int):=by rw[w64 (by omega)];omega
 have seg1:(((fC s++rest).take (1+s.length)).drop (1:Int).toNat)=s.map fun b=>(b.toNat:Int):=by
  unfold fC;rw[OM 1,List.cons_append,List.take_succ_cons,show(1:Int).toNat=1 from rfl,List.drop_succ_cons,Oi,NV];exact List.take_left' (by simp)
 have seg2:(((fC s++rest).take p).drop (1+s.length))=List.replicate (p-1-s.length) 0:=by
  have e:(fC s++rest).take p=fC s:=List.take_left' hnl;rw[e];unfold fC;rw[OM 1,List.drop_succ_cons,<- hp];exact List.drop_left' (by simp)
 simp only[dt,df];rw[if_neg (by omega),if_pos (by omega),g0,w0,FU _ (by omega),<- hp,ND];dsimp only;rw[if_neg (by omega),w1,if_pos (by omega),if_pos (by omega),NU,seg1,DF,jY,ND,h];rw[if_neg (by simp),if_pos (by omega),if_pos (by omega),NU,seg2,Ox,hnl];exact EL n s p _ (by omega) n 0 (by omega) (by omega)
end Rv
