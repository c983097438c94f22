/- Texts put together. -/
import Derived.Test.YtfphlcngbllgoaaGreatDoorSS1
import Derived.Test.YtfphlcngbllgoaaGreatDoorS8
import Derived.Test.YtfphlcngbllgoaaGreatDoorS1
import Derived.IntWalk
set_option linter.all false
namespace Rv
open Go Go.Proofs
noncomputable section
set_option maxRecDepth 100000
set_option maxHeartbeats 2000000
variable{ad:LQ}
abbrev u0:Ty:=.pair .str (.pair (.int .i64) .nil)
abbrev u1:Ty:=.pair (.int .i64) (.pair (.int .i64) (.pair (.int .i64) .nil))
abbrev u2:Ty:=.pair (.int .i64) (.pair (.int .u32) (.pair .str .nil))
abbrev u3:Ty:=.pair .str (.pair (.pair (.int .i64) (.pair (.int .i64) (.pair (.int .i64) (.pair (.int .i64) (.pair (.int .i64) (.pair .bool (.pair (.sl (.pair (.int .i64) (.pair (.int .u32) (.pair .str .nil)))) (.pair .str .nil)))))))) .nil)
abbrev u4:Ty:=.pair .fn (.pair .fn .nil)
abbrev u5:Ty:=.pair (.int .i64) (.pair (.int .i64) (.pair .str (.pair (.int .u32) .nil)))
abbrev u6:Ty:=.pair (.int .u32) (.pair (.int .i64) .nil)
abbrev u7:Ty:=.pair (.sl (.int .u32)) (.pair (.sl (.int .i64)) (.pair (.sl (.pair .str (.pair (.int .i64) .nil))) .nil))
abbrev u8:Ty:=.pair (.int .i64) (.pair (.int .i64) (.pair (.int .i64) (.pair (.int .i64) (.pair (.int .i64) (.pair .bool (.pair (.sl (.pair (.int .i64) (.pair (.int .u32) (.pair .str .nil)))) (.pair .str .nil)))))))
abbrev u9:Ty:=.pair (.sl (.int .u32)) (.pair (.sl (.int .u8)) (.pair (.sl .str) .nil))
abbrev u10:Ty:=.pair (.int .i64) (.pair (.int .i64) (.pair (.int .i64) (.pair (.int .i64) (.pair (.int .i64) (.pair (.int .i64) (.pair .bool .nil))))))
abbrev u11:Ty:=.pair (.sl (.int .i64)) (.pair (.sl (.pair .str (.pair (.int .i64) .nil))) (.pair (.sl (.pair (.int .u32) (.pair (.int .i64) .nil))) (.pair (.int .i64) (.pair (.int .i64) .nil))))
abbrev u12:Ty:=.pair (.pair (.sl (.int .i64)) (.pair (.sl (.pair .str (.pair (.int .i64) .nil))) (.pair (.sl (.pair (.int .u32) (.pair (.int .i64) .nil))) (.pair (.int .i64) (.pair (.int .i64) .nil))))) (.pair (.pair (.sl (.int .u32)) (.pair (.sl (.int .i64)) (.pair (.sl (.pair .str (.pair (.int .i64) .nil))) .nil))) .nil)
abbrev u13:Ty:=.pair (.sl (.pair (.int .i64) (.pair (.int .i64) (.pair .str (.pair (.int .u32) .nil))))) (.pair (.int .i64) (.pair (.int .i64) .nil))
abbrev u14:Ty:=.pair (.int .i64) (.pair (.int .i64) .nil)
abbrev u15:Ty:=.pair (.sl (.pair (.int .i64) (.pair (.int .i64) (.pair .str (.pair (.int .u32) .nil))))) (.pair (.int .i64) (.pair (.sl (.pair (.int .i64) (.pair (.int .u32) (.pair .str .nil)))) (.pair (.int .i64) .nil)))
abbrev c0:List CD:=[.sl (.int .u32),.sl (.int .i64),.sl u0]
abbrev c1:List CD:=[ki,ki,ki,ki,ki,ki,.bool]
abbrev c2:List CD:=[ki,ki,ki,ki,ki,.bool,.sl u2,.str]
abbrev c3:List CD:=[.str,ki,ki,ki,ki,ki,.bool,.sl u2,.str]
abbrev c4:List CD:=[.row 51 (.int .u32),.row 3 (.int .i64),.row 70 u0]
abbrev c5:List CD:=[.sl (.int .u32),.sl (.int .u8),.sl .str]
abbrev c6:List CD:=[.sl u5,ki,.row 53 u2,ki]
abbrev c7:List CD:=[.row 3 (.int .i64),.row 70 u0,.sl u6,ki,ki]
abbrev c8:List CD:=[.sl (.int .i64),.sl u0,.sl u6,ki,ki,.row 51 (.int .u32),.row 3 (.int .i64),.row 70 u0]
abbrev c9:List CD:=[.sl (.int .i64),.sl u0,.sl u6,ki,ki]
abbrev c10:List CD:=[.sl (.int .u32),.sl (.int .i64),.row 70 u0]
def types:List (TypeId×TI):=[
 tI 2 .i64 8,
 tI 3 .i64 8,
 tB 4 1,
 tI 5 .u8 1,
 tS 9 16,
 tI 21 .i32 4,
 tL 22 51 (.int .u32),
 tL 23 3 (.int .i64),
 tL 24 70 u0,
 (26,⟨3,true,72,[.nilS,.nilS,.nilS],[(0,1,false),(1,1,false),(2,1,false)],none,some u7,none,false,false,false,none,none⟩),
 tL 29 78 u3,
 tI 30 .i64 8,
 tL 36 53 u2,
 (38,⟨8,true,88,[.int .i64 0,.int .i64 0,.int .i64 0,.int .i64 0,.int .i64 0,.bool false,.nilS,.str []],[(0,1,false),(1,1,false),(2,1,false),(3,1,false),(4,1,false),(5,1,false),(6,1,false),(7,1,false)],none,some u8,none,false,false,false,none,none⟩),
 tL 42 5 (.int .u8),
 tL 43 9 .str,
 (45,⟨3,true,72,[.nilS,.nilS,.nilS],[(0,1,false),(1,1,false),(2,1,false)],none,some u9,none,false,false,false,none,none⟩),
 (48,⟨7,true,56,[.int .i64 0,.int .i64 0,.int .i64 0,.int .i64 0,.int .i64 0,.int .i64 0,.bool false],[(0,1,false),(1,1,false),(2,1,false),(3,1,false),(4,1,false),(5,1,false),(6,1,false)],none,some u10,none,false,false,false,some u10,none⟩),
 tI 51 .u32 4,
 (53,⟨3,true,32,[.int .i64 0,.int .u32 0,.str []],[(0,1,false),(1,1,false),(2,1,false)],none,some u2,none,false,false,false,some u2,none⟩),
 (70,⟨2,true,24,[.str [],.int .i64 0],[(0,1,false),(1,1,false)],none,some u0,none,false,false,false,some u0,none⟩),
 (78,⟨9,true,104,[.str [],.int .i64 0,.int .i64 0,.int .i64 0,.int .i64 0,.int .i64 0,.bool false,.nilS,.str []],[(0,1,false),(1,8,true)],none,some u3,none,false,false,false,none,none⟩),
 tL 96 106 u6,
 (98,⟨5,true,88,[.nilS,.nilS,.nilS,.int .i64 0,.int .i64 0],[(0,1,false),(1,1,false),(2,1,false),(3,1,false),(4,1,false)],none,some u11,none,false,false,false,none,none⟩),
 (101,⟨1,false,8,[.raw (.pointer none)],[],none,none,none,false,false,false,none,none⟩),
 (103,⟨8,true,160,[.nilS,.nilS,.nilS,.int .i64 0,.int .i64 0,.nilS,.nilS,.nilS],[(0,5,true),(5,3,true)],none,some u12,none,false,false,false,none,none⟩),
 (106,⟨2,true,16,[.int .u32 0,.int .i64 0],[(0,1,false),(1,1,false)],none,some u6,none,false,false,false,some u6,none⟩),
 tI 135 .u64 8,
 (138,⟨3,true,24,[.int .i64 0,.int .i64 0,.int .i64 0],[],none,some u1,none,false,false,false,none,some 3⟩),
 tL 143 199 u5,
 (150,⟨1,false,8,[.raw .nilFunc],[],none,some .fn,none,false,false,false,none,none⟩),
 tL 155 150 .fn,
 tL 175 180 u4,
 (177,⟨1,false,8,[.raw .nilFunc],[],none,some .fn,none,false,false,false,none,none⟩),
 (178,⟨1,false,8,[.raw .nilFunc],[],none,some .fn,none,false,false,false,none,none⟩),
 (180,⟨2,true,16,[.raw .nilFunc,.raw .nilFunc],[(0,1,false),(1,1,false)],none,some u4,none,false,false,false,none,none⟩),
 (186,⟨1,false,16,[.raw .nilIface],[],none,none,none,false,true,false,none,none⟩),
 tL 194 138 u1,
 (199,⟨4,true,40,[.int .i64 0,.int .i64 0,.str [],.int .u32 0],[(0,1,false),(1,1,false),(2,1,false),(3,1,false)],none,some u5,none,false,false,false,none,none⟩),
 (205,⟨3,true,40,[.nilS,.int .i64 0,.int .i64 0],[(0,1,false),(1,1,false),(2,1,false)],none,some u13,none,false,false,false,none,none⟩),
 tL 212 106 u6,
 (219,⟨2,true,16,[.int .i64 0,.int .i64 0],[],none,some u14,none,false,false,false,none,some 2⟩),
 (236,⟨1,false,8,[.raw .nilFunc],[],none,some .fn,none,false,false,false,none,none⟩),
 tI 247 .u64 8,
 (284,⟨1,false,8,[.raw (.pointer none)],[],none,none,none,false,false,false,none,none⟩),
 (286,⟨4,true,64,[.nilS,.int .i64 0,.nilS,.int .i64 0],[(0,1,false),(1,1,false),(2,1,false),(3,1,false)],none,some u15,none,false,false,false,none,none⟩),
 tL 287 289 u0,
 (289,⟨2,true,24,[.str [],.int .i64 0],[(0,1,false),(1,1,false)],none,some u0,none,false,false,false,none,none⟩),
 tI 296 .i64 8]
theorem iF:(types.all fun p=>kY P p.1 p.2)=true:=by kernel_rfl
def slices_Clone_uint32_uint32.T(ad:LQ):TF P (LW ad):=⟨109,[],slices_Clone_uint32_uint32.sp,slices_Clone_uint32_uint32.sat,slices_Clone_uint32_uint32.enter⟩
def strings_Trim.T(ad:LQ):TF P (LW ad):=⟨112,[],strings_Trim.sp,strings_Trim.sat,strings_Trim.enter⟩
def strconv_Itoa.T(ad:LQ):TF P (LW ad):=⟨223,[],strconv_Itoa.sp,strconv_Itoa.sat,strconv_Itoa.enter⟩
def internal_strconv_FormatUint.T(ad:LQ):TF P (LW ad):=⟨286,[],internal_strconv_FormatUint.sp,internal_strconv_FormatUint.sat,internal_strconv_FormatUint.enter⟩
def name_Mnemonic.T(ad:LQ):TF P (LW ad):=⟨125,[],name_Mnemonic.sp,name_Mnemonic.sat,name_Mnemonic.enter⟩
def stmt_operands.T(ad:LQ):TF P (LW ad):=⟨128,[],stmt_operands.sp,stmt_operands.sat,stmt_operands.enter⟩
def strings_Join.T(ad:LQ):TF P (LW ad):=⟨82,[],strings_Join.sp,strings_Join.sat,strings_Join.enter⟩
def internal_strconv_underscoreOK.T(ad:LQ):TF P (LW ad):=⟨269,[],internal_strconv_underscoreOK.sp,internal_strconv_underscoreOK.sat,internal_strconv_underscoreOK.enter⟩
def strconv_toError.T(ad:LQ):TF P (LW ad):=⟨246,[],strconv_toError.sp,strconv_toError.sat,strconv_toError.enter⟩
def strings_CutPrefix.T(ad:LQ):TF P (LW ad):=⟨200,[],strings_CutPrefix.sp,strings_CutPrefix.sat,strings_CutPrefix.enter⟩
def strings_Contains.T(ad:LQ):TF P (LW ad):=⟨201,[],strings_Contains.sp,strings_Contains.sat,strings_Contains.enter⟩
def strings_IndexByte.T(ad:LQ):TF P (LW ad):=⟨151,[],strings_IndexByte.sp,strings_IndexByte.sat,strings_IndexByte.enter⟩
def name_Of.T(ad:LQ):TF P (LW ad):=⟨153,[],name_Of.sp,name_Of.sat,name_Of.enter⟩
def strings_Split.T(ad:LQ):TF P (LW ad):=⟨53,[],strings_Split.sp,strings_Split.sat,strings_Split.enter⟩
def strings_Compare.T(ad:LQ):TF P (LW ad):=⟨164,[],strings_Compare.sp,strings_Compare.sat,strings_Compare.enter⟩
def slices_Insert_api_Sym_api_Sym.T(ad:LQ):TF P (LW ad):=⟨165,[],slices_Insert_api_Sym_api_Sym.sp,slices_Insert_api_Sym_api_Sym.sat,slices_Insert_api_Sym_api_Sym.enter⟩
def mkF(ad:LQ):=@mkT P (LW ad) types mixed iF maps jy
def Sz(ad:LQ):=@SA P (LW ad) types mixed iF maps jy
namespace Zbg
def sp:Spec:=af ⟨[(0,.c (.sl (.int .u32))),(1,.c (.sl (.int .i64)))],[]⟩ ⟨[(0,.c (.row 51 (.int .u32))),(1,Si),(2,Si)],[]⟩ g
noncomputable def T(ad:LQ):=mkF ad 59 [] sp [slices_Clone_uint32_uint32.T ad] t0 (fun n=>tl 12 ⟨[(10,.c (.row 51 (.int .u32))),(11,Si),(37,.c (.sl (.int .i64))),(38,Si),(39,Si)],[]⟩ (fun _=>l12 n) <| tl 3 ⟨[(0,.c (.sl (.int .u32))),(1,.c (.sl (.int .i64))),(7,Si),(14,.c (.sl (.int .i64))),(15,Si),(16,Si)],[]⟩ (fun _=>l3 n) <| tn) t0 64 [] f (fun a b=>1000+a.length+b.length) (by kernel_rfl)
end Zbg
namespace Zej
def sp:Spec:=af ⟨[(0,Si),(1,Sp 0 0),(2,Sp 1 0)],[(some 1,c0),(some 2,[ki])]⟩ ⟨[(0,SB)],[(none,c0),(none,[ki])]⟩ g
noncomputable def T(ad:LQ):=mkF ad 65 [] sp [] t0 t0 t0 13 [] f (fun a b c d e=>1000+a.toNat+b.length+c.length+d.length+e.toNat) (by kernel_rfl)
end Zej
namespace Zck
def sp:Spec:=af ⟨[(0,.c (.sl (.int .i64))),(1,.clo 65 [.ptr 0 0,.ptr 1 0])],[(some 1,c0),(some 2,[ki])]⟩ ⟨[(0,Si)],[(none,c0),(none,[ki])]⟩ g
noncomputable def T(ad:LQ):=mkF ad 113 [65] sp [Zej.T ad] t0 (fun n=>tl 2 ⟨[(0,.c (.sl (.int .i64))),(1,.clo 65 [.ptr 0 0,.ptr 1 0]),(7,Si),(8,Si)],[(none,c0),(none,[ki])]⟩ (fun _=>l2 n) <| tn) t0 19 [] f (fun a b c d e=>1000+a.length+b.length+c.length+d.length+e.toNat) (by kernel_rfl)
end Zck
namespace Zdn
def sp:Spec:=af ⟨[(0,.c (.sl (.int .i64))),(1,.clo 65 [.ptr 0 0,.ptr 1 0])],[(some 1,c0),(some 2,[ki])]⟩ ⟨[(0,SB)],[(none,c0),(none,[ki])]⟩ g
noncomputable def T(ad:LQ):=mkF ad 69 [65] sp [Zck.T ad] t0 t0 t0 9 [] f (fun a b c d e=>1000+a.length+b.length+c.length+d.length+e.toNat) (by kernel_rfl)
end Zdn
namespace Zbv
def sp:Spec:=af ⟨[(0,Sb),(1,SB)],[]⟩ ⟨[(0,SB)],[]⟩ g
noncomputable def T(ad:LQ):=mkF ad 111 [] sp [] (fun n=>tj 4 ⟨[(0,Sb),(1,SB)],[]⟩ (fun _=>j4 n) <| tn) t0 t0 32 [] f (fun a _=>1000+a.toNat) (by kernel_rfl)
end Zbv
namespace Zao
def sp:Spec:=af ⟨[(0,Ss)],[]⟩ ⟨[(0,SB)],[]⟩ g
noncomputable def T(ad:LQ):=mkF ad 68 [] sp [Zbv.T ad,strings_Trim.T ad] t0 (fun n=>tl 4 ⟨[(0,Ss),(14,Si),(15,Si)],[]⟩ (fun _=>l4 n) <| tn) t0 47 [] f (fun a=>1000+a.length) (by kernel_rfl)
end Zao
namespace Zbh
def sp:Spec:=af ⟨[(0,Sp 0 0)],[(some 0,c0)]⟩ ⟨[(0,SB)],[(none,c0)]⟩ g
noncomputable def T(ad:LQ):=mkF ad 67 [] sp [Zao.T ad] (fun n=>tj 6 ⟨[(0,Sp 0 0),(5,.c (.sl u0)),(6,Si),(7,Si)],[(none,c0)]⟩ (fun ms=>j6 n (l2 n ms.head!)) <| tn) (fun n=>tl 2 ⟨[(0,Sp 0 0),(5,.c (.sl u0)),(6,Si),(7,Si)],[(none,c0)]⟩ (fun _=>l2 n) <| tn) t0 33 [] f (fun a b c=>1000+a.length+b.length+c.length) (by kernel_rfl)
end Zbh
namespace Zek
def sp:Spec:=af ⟨[(0,.agg [.str,ki]),(1,Sp 0 0)],[(some 2,[ki])]⟩ ⟨[(0,SB)],[(none,[ki])]⟩ g
noncomputable def T(ad:LQ):=mkF ad 66 [] sp [] t0 t0 t0 19 [] f (fun a b c=>1000+a.length+b.toNat+c.toNat) (by kernel_rfl)
end Zek
namespace Zcl
def sp:Spec:=af ⟨[(0,.c (.sl u0)),(1,.clo 66 [.ptr 0 0])],[(some 1,[ki])]⟩ ⟨[(0,Si)],[(none,[ki])]⟩ g
noncomputable def T(ad:LQ):=mkF ad 114 [66] sp [Zek.T ad] t0 (fun n=>tl 2 ⟨[(0,.c (.sl u0)),(1,.clo 66 [.ptr 0 0]),(7,Si),(8,Si)],[(none,[ki])]⟩ (fun _=>l2 n) <| tn) t0 19 [] f (fun a b=>1000+a.length+b.toNat) (by kernel_rfl)
end Zcl
namespace Zdo
def sp:Spec:=af ⟨[(0,.c (.sl u0)),(1,.clo 66 [.ptr 0 0])],[(some 1,[ki])]⟩ ⟨[(0,SB)],[(none,[ki])]⟩ g
noncomputable def T(ad:LQ):=mkF ad 70 [66] sp [Zcl.T ad] t0 t0 t0 9 [] f (fun a b=>1000+a.length+b.toNat) (by kernel_rfl)
end Zdo
namespace Zcc
def sp:Spec:=af ⟨[(0,.agg c0)],[]⟩ ⟨[(0,Si)],[]⟩ g
noncomputable def T(ad:LQ):=mkF ad 29 [] sp [Zbg.T ad,Zdn.T ad,Zbh.T ad,Zdo.T ad] t0 t0 t0 54 [] f (fun a b c=>1000+a.length+b.length+c.length) (by kernel_rfl)
end Zcc
namespace Zcm
def sp:Spec:=af ⟨[(0,.c (.sl (.int .i64))),(1,Si)],[]⟩ ⟨[(0,Si)],[]⟩ g
noncomputable def T(ad:LQ):=mkF ad 84 [] sp [] t0 (fun n=>tl 2 ⟨[(0,.c (.sl (.int .i64))),(1,Si),(7,Si),(8,Si)],[]⟩ (fun _=>l2 n) <| tn) t0 19 [] f (fun a b=>1000+a.length+b.toNat) (by kernel_rfl)
end Zcm
namespace Zct
def sp:Spec:=af ⟨[(0,.c (.sl (.int .i64))),(1,Si)],[]⟩ ⟨[(0,SB)],[]⟩ g
noncomputable def T(ad:LQ):=mkF ad 40 [] sp [Zcm.T ad] t0 t0 t0 9 [] f (fun a b=>1000+a.length+b.toNat) (by kernel_rfl)
end Zct
namespace Zdu
def sp:Spec:=af ⟨[(0,Si),(1,Si),(2,Sp 0 0),(3,Sp 1 0)],[(some 2,[ku]),(some 3,[ku])]⟩ ⟨[],[(none,[ku]),(none,[ku])]⟩ g
noncomputable def T(ad:LQ):=mkF ad 140 [] sp [] t0 t0 t0 14 [] f (fun a b c d=>1000+a.toNat+b.toNat+c.toNat+d.toNat) (by kernel_rfl)
end Zdu
namespace Zcp
def sp:Spec:=af ⟨[(0,Si),(1,Si),(2,.clo 140 [.ptr 0 0,.ptr 1 0])],[(some 2,[ku]),(some 3,[ku])]⟩ ⟨[],[(none,[ku]),(none,[ku])]⟩ g
noncomputable def T(ad:LQ):=mkF ad 139 [140] sp [Zdu.T ad] t0 (fun n=>tl 2 ⟨[(0,Si),(1,Si),(2,.clo 140 [.ptr 0 0,.ptr 1 0]),(6,Si)],[(none,[ku]),(none,[ku])]⟩ (fun _=>l2 n) <| tn) t0 38 [] f (fun a b c d=>1000+a.toNat+b.toNat+c.toNat+d.toNat) (by kernel_rfl)
end Zcp
namespace Zdv
def sp:Spec:=af ⟨[(0,Su),(1,Si),(2,Si)],[]⟩ ⟨[(0,Su)],[]⟩ g
noncomputable def T(ad:LQ):=mkF ad 88 [] sp [Zcp.T ad] t0 t0 t0 13 [] f (fun a b c=>1000+a.toNat+b.toNat+c.toNat) (by kernel_rfl)
end Zdv
namespace Zav
def sp:Spec:=af ⟨[(0,Si),(1,Si),(2,.c (.pp (.int .u32)))],[]⟩ ⟨[(0,Si)],[]⟩ g
noncomputable def T(ad:LQ):=mkF ad 87 [] sp [Zdv.T ad] t0 t0 t0 11 [] f (fun a b c=>1000+a.toNat+b.toNat+c.toNat) (by kernel_rfl)
end Zav
namespace Zen
def sp:Spec:=af ⟨[(0,Si)],[]⟩ ⟨[(0,Si)],[]⟩ g
noncomputable def T(ad:LQ):=mkF ad 141 [] sp [] t0 t0 t0 6 [] f (fun a=>1000+a.toNat) (by kernel_rfl)
end Zen
namespace Zdf
def sp:Spec:=af ⟨[(0,Su),(1,Si)],[]⟩ ⟨[(0,Si)],[]⟩ g
noncomputable def T(ad:LQ):=mkF ad 89 [] sp [Zen.T ad] t0 t0 t0 16 [] f (fun a b=>1000+a.toNat+b.toNat) (by kernel_rfl)
end Zdf
namespace Zbc
def sp:Spec:=af ⟨[(0,Su)],[]⟩ ⟨[(0,.agg c1)],[]⟩ g
noncomputable def T(ad:LQ):=mkF ad 50 [] sp [Zav.T ad,Zdf.T ad] (fun n=>tj 16 ⟨[(2,Sp 0 0),(6,Sp 1 0)],[(some 0,c1),(some 1,c1)]⟩ (fun _=>j16 n) <| tn) t0 t0 80 [] f (fun a=>1000+a.toNat) (by kernel_rfl)
end Zbc
namespace Zcv
def sp:Spec:=af ⟨[(0,Si),(1,Si),(2,Si)],[]⟩ ⟨[(0,SB)],[]⟩ g
noncomputable def T(ad:LQ):=mkF ad 90 [] sp [] t0 t0 t0 15 [] f (fun a b c=>1000+a.toNat+b.toNat+c.toNat) (by kernel_rfl)
end Zcv
namespace Zes
def sp:Spec:=af ⟨[(0,SB)],[]⟩ ⟨[(0,Su)],[]⟩ g
noncomputable def T(ad:LQ):=mkF ad 143 [] sp [] t0 t0 t0 4 [] f (fun _=>(1000:Nat)) (by kernel_rfl)
end Zes
namespace Zbi
def sp:Spec:=af ⟨[(0,Si),(1,SB),(2,SB)],[]⟩ ⟨[(0,.agg [ki,ki,ki])],[]⟩ g
noncomputable def T(ad:LQ):=mkF ad 92 [] sp [Zes.T ad] t0 t0 t0 19 [] f (fun a _ _=>1000+a.toNat) (by kernel_rfl)
end Zbi
namespace Zdw
def sp:Spec:=af ⟨[(0,Si),(1,Si),(2,Sp 0 0),(3,Sp 1 0)],[(some 2,[ku]),(some 3,[ku])]⟩ ⟨[],[(none,[ku]),(none,[ku])]⟩ g
noncomputable def T(ad:LQ):=mkF ad 195 [] sp [] t0 t0 t0 17 [] f (fun a b c d=>1000+a.toNat+b.toNat+c.toNat+d.toNat) (by kernel_rfl)
end Zdw
namespace Zcq
def sp:Spec:=af ⟨[(0,Si),(1,Si),(2,.clo 195 [.ptr 0 0,.ptr 1 0])],[(some 2,[ku]),(some 3,[ku])]⟩ ⟨[],[(none,[ku]),(none,[ku])]⟩ g
noncomputable def T(ad:LQ):=mkF ad 139 [195] sp [Zdw.T ad] t0 (fun n=>tl 2 ⟨[(0,Si),(1,Si),(2,.clo 195 [.ptr 0 0,.ptr 1 0]),(6,Si)],[(none,[ku]),(none,[ku])]⟩ (fun _=>l2 n) <| tn) t0 38 [] f (fun a b c d=>1000+a.toNat+b.toNat+c.toNat+d.toNat) (by kernel_rfl)
end Zcq
namespace Zdx
def sp:Spec:=af ⟨[(0,Su),(1,Si),(2,Si),(3,Su)],[]⟩ ⟨[(0,Su)],[]⟩ g
noncomputable def T(ad:LQ):=mkF ad 142 [] sp [Zcq.T ad] t0 t0 t0 14 [] f (fun a b c d=>1000+a.toNat+b.toNat+c.toNat+d.toNat) (by kernel_rfl)
end Zdx
namespace Zat
def sp:Spec:=af ⟨[(0,.c (.sl u1))],[]⟩ ⟨[(0,Su)],[]⟩ g
noncomputable def T(ad:LQ):=mkF ad 91 [] sp [Zdx.T ad] t0 (fun n=>tl 3 ⟨[(3,Su),(6,.c (.sl u1)),(7,Si),(8,Si)],[]⟩ (fun _=>l3 n) <| tn) t0 23 [] f (fun a=>1000+a.length) (by kernel_rfl)
end Zat
namespace Zbj
def sp:Spec:=af ⟨[(0,.agg c1)],[]⟩ ⟨[(0,Su)],[]⟩ g
noncomputable def T(ad:LQ):=mkF ad 52 [] sp [Zbi.T ad,Zat.T ad] (fun n=>tj 14 ⟨[(1,Sp 0 0),(6,Sp 1 0)],[(some 0,c1),(some 1,[ki,ki,ki])]⟩ (fun _=>j14 n) <| tn) t0 t0 97 [] f (fun a b c d e i _=>1000+a.toNat+b.toNat+c.toNat+d.toNat+e.toNat+i.toNat) (by kernel_rfl)
end Zbj
namespace Zam
def sp:Spec:=af ⟨[(0,.agg c1)],[]⟩ ⟨[(0,SB)],[]⟩ g
noncomputable def T(ad:LQ):=mkF ad 51 [] sp [Zcv.T ad,Zbj.T ad,Zbc.T ad] (fun n=>tj 10 ⟨[(1,Sp 0 0)],[(some 0,c1)]⟩ (fun _=>j10 n) <| tn) t0 t0 64 [] f (fun a b c d e i _=>1000+a.toNat+b.toNat+c.toNat+d.toNat+e.toNat+i.toNat) (by kernel_rfl)
end Zam
namespace Zcg
def sp:Spec:=af ⟨[(0,Su)],[]⟩ ⟨[(0,.agg c1),(1,SB)],[]⟩ g
noncomputable def T(ad:LQ):=mkF ad 20 [] sp [Zbc.T ad,Zam.T ad,Zbj.T ad] t0 t0 t0 18 [] f (fun a=>1000+a.toNat) (by kernel_rfl)
end Zcg
namespace Zcj
def sp:Spec:=af ⟨[(0,.agg c0),(1,Si)],[]⟩ ⟨[(0,Si),(1,SB)],[]⟩ g
noncomputable def T(ad:LQ):=mkF ad 42 [] sp [Zct.T ad,Zcg.T ad] t0 t0 t0 59 [] f (fun a b c d=>1000+a.length+b.length+c.length+d.toNat) (by kernel_rfl)
end Zcj
namespace Zei
def sp:Spec:=af ⟨[(0,.agg c0)],[]⟩ ⟨[(0,.c (.row 3 (.int .i64))),(1,Si)],[]⟩ g
noncomputable def T(ad:LQ):TF P (LW ad):=⟨30,[],sp,QQ QM (show Sat P (LW ad) 29 Zcc.sp from(Zcc.T ad).sat) (show Sat P (LW ad) 42 Zcj.sp from(Zcj.T ad).sat),aL (by kernel_rfl)⟩
end Zei
namespace Zdp
def sp:Spec:=af ⟨[(0,Si)],[]⟩ ⟨[(0,SB)],[]⟩ g
noncomputable def T(ad:LQ):=mkF ad 176 [] sp [] t0 t0 t0 6 [] f (fun a=>1000+a.toNat) (by kernel_rfl)
end Zdp
namespace Zdq
def sp:Spec:=af ⟨[(0,Si),(1,Si)],[]⟩ ⟨[(0,SB)],[]⟩ g
noncomputable def T(ad:LQ):=mkF ad 118 [] sp [Zdp.T ad] t0 t0 t0 17 [] f (fun a b=>1000+a.toNat+b.toNat) (by kernel_rfl)
end Zdq
namespace Zdr
def sp:Spec:=af ⟨[(0,Si)],[]⟩ ⟨[(0,SB)],[]⟩ g
noncomputable def T(ad:LQ):=mkF ad 119 [] sp [] t0 t0 t0 6 [] f (fun a=>1000+a.toNat) (by kernel_rfl)
end Zdr
namespace Zbn
def sp:Spec:=af ⟨[(0,.c (.sl (.int .i64))),(1,Si)],[]⟩ ⟨[(0,Si),(1,SB)],[]⟩ g
noncomputable def T(ad:LQ):=mkF ad 74 [] sp [Zdq.T ad,Zdr.T ad] t0 (fun n=>tl 3 ⟨[(0,.c (.sl (.int .i64))),(1,Si),(6,Si),(7,Si),(8,Si)],[]⟩ (fun _=>l3 n) <| tn) t0 54 [] f (fun a b=>1000+a.length+b.toNat) (by kernel_rfl)
end Zbn
namespace Zbd
def sp:Spec:=af ⟨[(0,Si)],[]⟩ ⟨[(0,Ss)],[]⟩ g
noncomputable def T(ad:LQ):=mkF ad 75 [] sp [] t0 (fun n=>tl 3 ⟨[(0,Si),(3,.c (.row 5 (.int .u8))),(4,Si)],[]⟩ (fun _=>l3 n) <| tn) t0 20 [] f (fun a=>1000+a.toNat) (by kernel_rfl)
end Zbd
def disasm_number.spq(q:Nat):Spec:=af ⟨[(0,Si)],[]⟩ ⟨[(0,.c (.row 53 u2))],[]⟩ (bH q).disasm_number
namespace disasm_number
theorem step(q:Nat)(ih:Sat P (LW ad) 39 (disasm_number.spq q)/\True):Sat P (LW ad) 39 (spq (q+1)):=o5 mixed iF jy 39 (spq (q+1)) [((39,[]),disasm_number.spq q)] (eX ih.1 (aL (by kernel_rfl)) il) t0 t0 t0 15 [] (fun n=>f n (bH q)) (fun a=>1000+a.toNat) (by kernel_rfl) (by kernel_rfl)
end disasm_number
theorem kC:∀q,Sat P (LW ad) 39 (disasm_number.spq q)/\True
 |0=>⟨ko fun _=>rfl,trivial⟩
 |q+1=>⟨disasm_number.step q (kC q),trivial⟩
def disasm_number.sp:Spec:=af ⟨[(0,Si)],[]⟩ ⟨[(0,.c (.row 53 u2))],[]⟩ disasm_number.g
noncomputable def disasm_number.T(ad:LQ):TF P (LW ad):=⟨39,[],disasm_number.sp,ol (F:=fun q=>(bH q).disasm_number) (fun a=>1000+a.toNat) (fun q=>(kC q).1) (fun _=>by kernel_rfl),aL (by kernel_rfl)⟩
namespace Zdd
def sp:Spec:=af ⟨[(0,Si)],[]⟩ ⟨[(0,.c (.row 53 u2))],[]⟩ g
noncomputable def T(ad:LQ):=mkF ad 41 [] sp [Zbd.T ad] t0 t0 t0 7 [] f (fun a=>1000+a.toNat) (by kernel_rfl)
end Zdd
namespace Zax
def sp:Spec:=af ⟨[(0,.agg c0),(1,Si)],[]⟩ ⟨[(0,.agg c2)],[]⟩ g
noncomputable def T(ad:LQ):=mkF ad 16 [] sp [disasm_number.T ad,Zct.T ad,Zdd.T ad,Zcg.T ad,Zcj.T ad] (fun n=>tj 9 ⟨[(4,Sp 0 0),(6,Sp 1 0)],[(some 0,c2),(some 1,c2)]⟩ (fun _=>j9 n) <| tj 23 ⟨[(4,Sp 0 0),(9,Sp 1 0)],[(some 0,c2),(some 1,c2)]⟩ (fun _=>j23 n) <| tn) t0 t0 99 [] f (fun a b c d=>1000+a.length+b.length+c.length+d.toNat) (by kernel_rfl)
end Zax
namespace Zer
def sp:Spec:=af ⟨[(0,.agg c0)],[]⟩ ⟨[(0,.c (.row 78 u3)),(1,Si)],[]⟩ g
noncomputable def T(ad:LQ):TF P (LW ad):=⟨11,[],sp,Qp (show Sat P (LW ad) 29 Zcc.sp from(Zcc.T ad).sat) (show Sat P (LW ad) 30 Zei.sp from(Zei.T ad).sat) (show Sat P (LW ad) 74 Zbn.sp from(Zbn.T ad).sat) (show Sat P (LW ad) 75 Zbd.sp from(Zbd.T ad).sat) (show Sat P (LW ad) 16 Zax.sp from(Zax.T ad).sat),aL (by kernel_rfl)⟩
end Zer
namespace Zac
def sp:Spec:=af ⟨[(0,Ss)],[]⟩ ⟨[(0,SB)],[]⟩ g
noncomputable def T(ad:LQ):=mkF ad 123 [] sp [strings_Trim.T ad] (fun n=>tj 9 ⟨[(0,Ss),(24,Si),(25,Si)],[]⟩ (fun ms=>j9 n (l4 n ms.head!)) <| tj 3 ⟨[(0,Ss)],[]⟩ (fun _=>j3 n) <| tn) (fun n=>tl 4 ⟨[(0,Ss),(24,Si),(25,Si)],[]⟩ (fun _=>l4 n) <| tn) t0 84 [] f (fun a=>1000+a.length) (by kernel_rfl)
end Zac
namespace Zdg
def sp:Spec:=af ⟨[(0,Si)],[]⟩ ⟨[(0,SB)],[]⟩ g
noncomputable def T(ad:LQ):=mkF ad 177 [] sp [] t0 t0 t0 10 [] f (fun a=>1000+a.toNat) (by kernel_rfl)
end Zdg
namespace Zbw
def sp:Spec:=af ⟨[(0,.agg [ki,ku,.str])],[]⟩ ⟨[(0,Si),(1,SB)],[]⟩ g
noncomputable def T(ad:LQ):=mkF ad 206 [] sp [Zac.T ad] (fun n=>tj 2 ⟨[(1,Sp 0 0),(4,SB)],[(some 0,[ki,ku,.str])]⟩ (fun _=>j2 n) <| tn) t0 t0 38 [] f (fun a b c=>1000+a.toNat+b.toNat+c.length) (by kernel_rfl)
end Zbw
namespace Zba
def sp:Spec:=af ⟨[(0,.c (.sl u2))],[]⟩ ⟨[(0,SB)],[]⟩ g
noncomputable def T(ad:LQ):=mkF ad 157 [] sp [Zbw.T ad] t0 (fun n=>tl 3 ⟨[(0,.c (.sl u2)),(3,Si),(8,.c (.sl u2)),(9,Si),(10,Si)],[]⟩ (fun _=>l3 n) <| tn) t0 38 [] f (fun a=>1000+a.length) (by kernel_rfl)
end Zba
namespace Zay
def sp:Spec:=af ⟨[(0,Si)],[]⟩ ⟨[(0,Ss)],[]⟩ g
noncomputable def T(ad:LQ):=mkF ad 178 [] sp [strconv_Itoa.T ad] t0 t0 t0 12 [] f (fun a=>1000+a.toNat) (by kernel_rfl)
end Zay
namespace Zak
def sp:Spec:=af ⟨[(0,.agg c2)],[]⟩ ⟨[(0,SB)],[]⟩ g
noncomputable def T(ad:LQ):=mkF ad 124 [] sp [Zdg.T ad,Zba.T ad,Zao.T ad,Zay.T ad,Zam.T ad] (fun n=>tj 12 ⟨[(3,Sp 0 0)],[(some 0,c1)]⟩ (fun _=>j12 n) <| tj 4 ⟨[(1,Sp 0 0),(3,Sp 1 0)],[(some 0,c2),(some 1,c1)]⟩ (fun _=>j4 n) <| tn) t0 t0 84 [] f (fun a b c d e _ j k=>1000+a.toNat+b.toNat+c.toNat+d.toNat+e.toNat+j.length+k.length) (by kernel_rfl)
end Zak
namespace Zdy
def sp:Spec:=af ⟨[(0,Si)],[]⟩ ⟨[(0,Si)],[]⟩ g
noncomputable def T(ad:LQ):=mkF ad 126 [] sp [] t0 t0 t0 9 [] f (fun a=>1000+a.toNat) (by kernel_rfl)
end Zdy
namespace Zcw
def sp:Spec:=af ⟨[(0,Si)],[]⟩ ⟨[(0,SB)],[]⟩ g
noncomputable def T(ad:LQ):=mkF ad 127 [] sp [] t0 t0 t0 9 [] f (fun a=>1000+a.toNat) (by kernel_rfl)
end Zcw
namespace Zdh
def sp:Spec:=af ⟨[(0,Sp 0 0)],[(some 0,c2)]⟩ ⟨[(0,Sp 0 2)],[(none,c2)]⟩ g
noncomputable def T(ad:LQ):=mkF ad 181 [] sp [] t0 t0 t0 6 [] f (fun a b c d e _ j k=>1000+a.toNat+b.toNat+c.toNat+d.toNat+e.toNat+j.length+k.length) (by kernel_rfl)
end Zdh
namespace Zdi
def sp:Spec:=af ⟨[(0,Sp 0 0)],[(some 0,c2)]⟩ ⟨[(0,Sp 0 3)],[(none,c2)]⟩ g
noncomputable def T(ad:LQ):=mkF ad 182 [] sp [] t0 t0 t0 6 [] f (fun a b c d e _ j k=>1000+a.toNat+b.toNat+c.toNat+d.toNat+e.toNat+j.length+k.length) (by kernel_rfl)
end Zdi
namespace Zdj
def sp:Spec:=af ⟨[(0,Sp 0 0)],[(some 0,c2)]⟩ ⟨[(0,Sp 0 4)],[(none,c2)]⟩ g
noncomputable def T(ad:LQ):=mkF ad 183 [] sp [] t0 t0 t0 6 [] f (fun a b c d e _ j k=>1000+a.toNat+b.toNat+c.toNat+d.toNat+e.toNat+j.length+k.length) (by kernel_rfl)
end Zdj
namespace Zbx
def sp:Spec:=af ⟨[(0,.agg c2),(1,.c (.pp .fn))],[]⟩ ⟨[(0,Ss)],[]⟩ g
noncomputable def T(ad:LQ):=mkF ad 228 [] sp [Zdh.T ad,Zay.T ad,Zdi.T ad,Zdj.T ad] t0 t0 t0 9 [K.atA,K.atB,K.atC] f (fun a b c d e _ j k _=>1000+a.toNat+b.toNat+c.toNat+d.toNat+e.toNat+j.length+k.length) (by kernel_rfl)
end Zbx
namespace Zds
def sp:Spec:=af ⟨[(0,.c kq),(1,Si)],[]⟩ ⟨[(0,Ss)],[]⟩ g
noncomputable def T(ad:LQ):=mkF ad 264 [] sp [internal_strconv_FormatUint.T ad] t0 t0 t0 8 [] f (fun a b=>1000+a.toNat+b.toNat) (by kernel_rfl)
end Zds
namespace Zbb
def sp:Spec:=af ⟨[(0,.agg [.str,ki]),(1,Si)],[]⟩ ⟨[(0,Ss)],[]⟩ g
noncomputable def T(ad:LQ):=mkF ad 265 [] sp [] t0 t0 t0 15 [] f (fun a b c=>1000+a.length+b.toNat+c.toNat) (by kernel_rfl)
end Zbb
namespace Zae
def sp:Spec:=af ⟨[(0,.c (.sl u2))],[]⟩ ⟨[(0,Ss),(1,Si)],[]⟩ g
noncomputable def T(ad:LQ):=mkF ad 232 [] sp [Zba.T ad,Zbw.T ad,Zds.T ad,Zbb.T ad] (fun n=>tj 23 ⟨[(4,.c (.row 289 u0)),(7,Si),(10,Sp 0 0),(14,.c (.sl u2)),(15,Si),(16,Si)],[(some 2,[.str,ki])]⟩ (fun ms=>j23 n (l5 n ms.head!)) <| tn) (fun n=>tl 5 ⟨[(4,.c (.row 289 u0)),(14,.c (.sl u2)),(15,Si),(16,Si)],[]⟩ (fun _=>l5 n) <| tn) t0 106 [] f (fun a=>1000+a.length) (by kernel_rfl)
end Zae
namespace Zch
def sp:Spec:=af ⟨[(0,Ss),(1,Sb)],[]⟩ ⟨[(0,Ss)],[]⟩ g
noncomputable def T(ad:LQ):=mkF ad 166 [] sp [] t0 (fun n=>tl 1 ⟨[(0,Ss),(1,Sb)],[]⟩ (fun _=>l1 n) <| tn) t0 17 [] f (fun a b=>1000+a.length+b.toNat) (by kernel_rfl)
end Zch
namespace Zcx
def sp:Spec:=af ⟨[(0,Ss),(1,Ss)],[]⟩ ⟨[(0,Ss)],[]⟩ g
noncomputable def T(ad:LQ):=mkF ad 233 [] sp [Zch.T ad] (fun n=>tj 5 ⟨[(0,Ss),(1,Ss)],[]⟩ (fun _=>j5 n) <| tn) t0 t0 37 [] f (fun a b=>1000+a.length+b.length) (by kernel_rfl)
end Zcx
namespace Zdk
def sp:Spec:=af ⟨[(0,.agg c2),(1,.c (.pp .str))],[]⟩ ⟨[(0,Ss)],[]⟩ g
noncomputable def T(ad:LQ):=mkF ad 231 [] sp [Zae.T ad,Zcx.T ad] t0 t0 t0 17 [] f (fun a b c d e _ j k l=>1000+a.toNat+b.toNat+c.toNat+d.toNat+e.toNat+j.length+k.length+l.length) (by kernel_rfl)
end Zdk
namespace Zeo
def sp:Spec:=af ⟨[(0,.agg c2)],[]⟩ ⟨[(0,Ss)],[]⟩ g
noncomputable def T(ad:LQ):=mkF ad 186 [] sp [] t0 t0 t0 5 [] f (fun a b c d e _ j k=>1000+a.toNat+b.toNat+c.toNat+d.toNat+e.toNat+j.length+k.length) (by kernel_rfl)
end Zeo
namespace Zad
def sp:Spec:=af ⟨[(0,Ss),(1,.agg c2)],[]⟩ ⟨[(0,Ss),(1,Si)],[]⟩ g
noncomputable def T(ad:LQ):=mkF ad 81 [] sp [Zac.T ad,Zak.T ad,Zdy.T ad,name_Mnemonic.T ad,Zcw.T ad,stmt_operands.T ad,strings_Join.T ad,Zbx.T ad,Zdk.T ad,Zeo.T ad] (fun n=>tj 15 ⟨[(3,Sp 0 0),(6,.c (.row 9 .str)),(7,Ss),(8,.c (.row 9 .str)),(50,.c (.sl u4)),(51,Si),(52,Si)],[(some 0,c2)]⟩ (fun ms=>j15 n (l12 n ms.head!)) <| tj 17 ⟨[(6,.c (.row 9 .str))],[]⟩ (fun _=>j17 n) <| tj 10 ⟨[(3,Sp 0 0),(6,.c (.row 9 .str)),(7,Ss)],[(some 0,c2)]⟩ (fun _=>j10 n) <| tj 6 ⟨[(3,Sp 0 0),(6,.c (.row 9 .str))],[(some 0,c2)]⟩ (fun _=>j6 n) <| tj 3 ⟨[(0,Ss),(3,Sp 0 0)],[(some 1,c2)]⟩ (fun _=>j3 n) <| tn) (fun n=>tl 12 ⟨[(3,Sp 0 0),(6,.c (.row 9 .str)),(7,Ss),(8,.c (.row 9 .str)),(50,.c (.sl u4)),(51,Si),(52,Si)],[(some 0,c2)]⟩ (fun _=>l12 n) <| tn) t0 72 [K.wrA,K.wrB,K.wrC,K.wrE,K.wrQ,K.wrN] f (fun a b c d e i _ k l=>1000+a.length+b.toNat+c.toNat+d.toNat+e.toNat+i.toNat+k.length+l.length) (by kernel_rfl)
end Zad
namespace Zeb
def sp:Spec:=af ⟨[(0,.agg c3)],[]⟩ ⟨[(0,Ss),(1,Si)],[]⟩ g
noncomputable def T(ad:LQ):=mkF ad 80 [] sp [Zad.T ad] t0 t0 t0 11 [] f (fun a b c d e i _ k l=>1000+a.length+b.toNat+c.toNat+d.toNat+e.toNat+i.toNat+k.length+l.length) (by kernel_rfl)
end Zeb
namespace Zcr
def sp:Spec:=af ⟨[(0,.c (.sl u3)),(1,.c (.raw (.func (.func 80) #[] #[])))],[]⟩ ⟨[(0,.c (.row 9 .str)),(1,Si),(2,Si)],[]⟩ g
noncomputable def T(ad:LQ):=mkF ad 79 [] sp [Zeb.T ad] t0 (fun n=>tl 5 ⟨[(1,.c (.raw (.func (.func 80) #[] #[]))),(7,.c (.row 9 .str)),(15,.c (.sl u3)),(16,Si),(17,Si)],[]⟩ (fun _=>l5 n) <| tn) t0 39 [] f (fun a=>1000+a.length) (by kernel_rfl)
end Zcr
namespace Zdl
def sp:Spec:=af ⟨[(0,.c (.sl u3))],[]⟩ ⟨[(0,Ss),(1,Si),(2,Si)],[]⟩ g
noncomputable def T(ad:LQ):=mkF ad 35 [] sp [Zcr.T ad,strings_Join.T ad] t0 t0 t0 20 [] f (fun a=>1000+a.length) (by kernel_rfl)
end Zdl
namespace Zbt
def sp:Spec:=af ⟨[(0,.agg c0)],[]⟩ ⟨[(0,Ss),(1,Si)],[]⟩ g
noncomputable def T(ad:LQ):=mkF ad 13 [] sp [Zer.T ad,Zdl.T ad] t0 t0 t0 24 [] f (fun a b c=>1000+a.length+b.length+c.length) (by kernel_rfl)
end Zbt
namespace Zbu
def sp:Spec:=af ⟨[],[]⟩ ⟨[(0,SB)],[]⟩ g
noncomputable def T(ad:LQ):=mkF ad 9 [] sp [Zbt.T ad] t0 t0 t0 15 [] f (1000:Nat) (by kernel_rfl)
end Zbu
namespace Zcn
def sp:Spec:=af ⟨[(0,Sb)],[]⟩ ⟨[(0,SB)],[]⟩ g
noncomputable def T(ad:LQ):=mkF ad 147 [] sp [] t0 t0 t0 21 [] f (fun a=>1000+a.toNat) (by kernel_rfl)
end Zcn
namespace Zcu
def sp:Spec:=af ⟨[(0,Sb)],[]⟩ ⟨[(0,SB)],[]⟩ g
noncomputable def T(ad:LQ):=mkF ad 149 [] sp [] t0 t0 t0 9 [] f (fun a=>1000+a.toNat) (by kernel_rfl)
end Zcu
namespace Zap
def sp:Spec:=af ⟨[(0,Ss)],[]⟩ ⟨[(0,Ss)],[]⟩ g
noncomputable def T(ad:LQ):=mkF ad 148 [] sp [Zcn.T ad,Zcu.T ad] (fun n=>tj 3 ⟨[(0,Ss),(3,Si)],[]⟩ (fun ms=>j3 n (l2 n ms.head!)) <| tj 4 ⟨[(0,Ss),(3,Si)],[]⟩ (fun _=>j4 n) <| tn) (fun n=>tl 2 ⟨[(0,Ss),(3,Si)],[]⟩ (fun _=>l2 n) <| tn) t0 25 [] f (fun a=>1000+a.length) (by kernel_rfl)
end Zap
namespace Zal
def sp:Spec:=af ⟨[(0,Sb)],[]⟩ ⟨[(0,Sb)],[]⟩ g
noncomputable def T(ad:LQ):=mkF ad 268 [] sp [] t0 t0 t0 5 [] f (fun a=>1000+a.toNat) (by kernel_rfl)
end Zal
namespace Zaa
def sp:Spec:=af ⟨[(0,Ss),(1,Si),(2,Si)],[]⟩ ⟨[(0,.c kq),(1,.c (.ifo 296 .i64))],[]⟩ g
noncomputable def T(ad:LQ):=mkF ad 245 [] sp [Zal.T ad,internal_strconv_underscoreOK.T ad] (fun n=>tj 55 ⟨[(1,Si),(8,SB),(9,Ss),(10,.c kq),(11,.c kq),(12,SB),(13,.c kq),(99,.c (.sl (.int .u8))),(100,Si),(101,Si)],[]⟩ (fun ms=>j55 n (l36 n ms.head!)) <| tj 46 ⟨[(1,Si),(8,SB),(9,Ss),(10,.c kq),(11,.c kq),(12,SB),(13,.c kq),(16,Sb),(99,.c (.sl (.int .u8))),(100,Si),(101,Si)],[]⟩ (fun ms=>j46 n (l36 n ms.head!)) <| tj 32 ⟨[(0,Ss),(1,Si),(2,Si),(8,SB),(9,Ss),(10,.c kq)],[]⟩ (fun _=>j32 n) <| tj 25 ⟨[(0,Ss),(1,Si),(2,Si),(8,SB),(9,Ss)],[]⟩ (fun _=>j25 n) <| tj 21 ⟨[(0,Ss),(1,Si),(2,Si),(8,SB),(9,Ss)],[]⟩ (fun _=>j21 n) <| tj 17 ⟨[(0,Ss),(1,Si),(2,Si),(8,SB),(9,Ss)],[]⟩ (fun _=>j17 n) <| tj 20 ⟨[(0,Ss),(1,Si),(2,Si),(8,SB),(9,Ss)],[]⟩ (fun _=>j20 n) <| tj 11 ⟨[(0,Ss),(1,Si),(2,Si),(8,SB),(9,Ss)],[]⟩ (fun _=>j11 n) <| tj 9 ⟨[(0,Ss),(1,Si),(2,Si),(8,SB),(9,Ss)],[]⟩ (fun _=>j9 n) <| tn) (fun n=>tl 36 ⟨[(1,Si),(8,SB),(9,Ss),(10,.c kq),(11,.c kq),(12,SB),(13,.c kq),(99,.c (.sl (.int .u8))),(100,Si),(101,Si)],[]⟩ (fun _=>l36 n) <| tn) t0 172 [] f (fun a b c=>1000+a.length+b.toNat+c.toNat) (by kernel_rfl)
end Zaa
namespace Zco
def sp:Spec:=af ⟨[(0,Ss),(1,Si),(2,Si)],[]⟩ ⟨[(0,.c kq),(1,Se)],[]⟩ g
noncomputable def T(ad:LQ):=mkF ad 202 [] sp [Zaa.T ad,strconv_toError.T ad] t0 t0 t0 26 [] f (fun a b c=>1000+a.length+b.toNat+c.toNat) (by kernel_rfl)
end Zco
namespace Zbq
def sp:Spec:=af ⟨[(0,Ss)],[]⟩ ⟨[(0,Su),(1,SB)],[]⟩ g
noncomputable def T(ad:LQ):=mkF ad 150 [] sp [strings_CutPrefix.T ad,strings_Contains.T ad,Zco.T ad] (fun n=>tj 5 ⟨[(0,Ss),(4,Si)],[]⟩ (fun _=>j5 n) <| tn) t0 t0 28 [] f (fun a=>1000+a.length) (by kernel_rfl)
end Zbq
namespace Zah
def sp:Spec:=af ⟨[(0,Ss)],[]⟩ ⟨[(0,.c (.row 199 u5)),(1,Si)],[]⟩ g
noncomputable def T(ad:LQ):=mkF ad 94 [] sp [Zcn.T ad,Zap.T ad,Zcu.T ad,Zbq.T ad,strings_IndexByte.T ad] (fun n=>tj 23 ⟨[(0,Ss),(4,.c (.row 199 u5)),(5,Si),(6,Sp 0 0)],[(some 3,[ki,ki,.str,ku])]⟩ (fun ms=>j23 n (g0 n ms.head!)) <| tn) t0 (fun n=>tl 0 ⟨[(0,Ss),(4,.c (.row 199 u5)),(5,Si)],[]⟩ (fun _=>g0 n) <| tn) 108 [] f (fun a=>1000+a.length) (by kernel_rfl)
end Zah
namespace Zaw
def sp:Spec:=af ⟨[(0,Sp 0 0),(1,SB)],[(some 0,[.sl u5,ki,ki])]⟩ ⟨[],[(none,[.sl u5,ki,ki])]⟩ g
noncomputable def T(ad:LQ):=mkF ad 152 [] sp [] t0 t0 t0 16 [] f (fun _ b c d=>1000+b.length+c.toNat+d.toNat) (by kernel_rfl)
end Zaw
namespace Zcy
def sp:Spec:=af ⟨[(0,Sp 0 0),(1,Si)],[(some 0,[.sl u5,ki,ki])]⟩ ⟨[(0,Ss)],[(none,[.sl u5,ki,ki])]⟩ g
noncomputable def T(ad:LQ):=mkF ad 204 [] sp [] t0 t0 t0 48 [] f (fun a b c d=>1000+a.toNat+b.length+c.toNat+d.toNat) (by kernel_rfl)
end Zcy
namespace Zbr
def sp:Spec:=af ⟨[(0,Sp 0 0),(1,Si)],[(some 0,[.sl u5,ki,ki])]⟩ ⟨[(0,Ss)],[(none,[.sl u5,ki,ki])]⟩ g
noncomputable def T(ad:LQ):=mkF ad 154 [] sp [Zcy.T ad] t0 t0 t0 17 [] f (fun a b c d=>1000+a.toNat+b.length+c.toNat+d.toNat) (by kernel_rfl)
end Zbr
namespace Zaj
def sp:Spec:=af ⟨[(0,Ss),(1,Si),(2,Si)],[]⟩ ⟨[(0,Si),(1,.c (.ifo 296 .i64))],[]⟩ g
noncomputable def T(ad:LQ):=mkF ad 289 [] sp [Zaa.T ad] (fun n=>tj 21 ⟨[(8,SB),(9,.c kq)],[]⟩ (fun _=>j21 n) <| tj 19 ⟨[(8,SB),(9,.c kq),(10,.c kq)],[]⟩ (fun _=>j19 n) <| tj 16 ⟨[(2,Si),(8,SB),(9,.c kq)],[]⟩ (fun _=>j16 n) <| tj 14 ⟨[(2,Si),(8,SB),(9,.c kq)],[]⟩ (fun _=>j14 n) <| tj 10 ⟨[(0,Ss),(1,Si),(2,Si),(8,SB)],[]⟩ (fun _=>j10 n) <| tn) t0 t0 73 [] f (fun a b c=>1000+a.length+b.toNat+c.toNat) (by kernel_rfl)
end Zaj
namespace Zaq
def sp:Spec:=af ⟨[(0,Ss)],[]⟩ ⟨[(0,Si),(1,.c (.ifo 296 .i64))],[]⟩ g
noncomputable def T(ad:LQ):=mkF ad 274 [] sp [Zaj.T ad] (fun n=>tj 8 ⟨[(0,Ss),(5,Ss)],[]⟩ (fun _=>j8 n) <| tj 6 ⟨[(0,Ss),(5,Ss)],[]⟩ (fun _=>j6 n) <| tj 20 ⟨[(0,Ss)],[]⟩ (fun _=>j20 n) <| tn) (fun n=>tl 10 ⟨[(5,Ss),(6,Si),(47,.c (.sl (.int .u8))),(48,Si),(49,Si)],[]⟩ (fun _=>l10 n) <| tn) t0 77 [] f (fun a=>1000+a.length) (by kernel_rfl)
end Zaq
namespace Zdt
def sp:Spec:=af ⟨[(0,Ss)],[]⟩ ⟨[(0,Si),(1,Se)],[]⟩ g
noncomputable def T(ad:LQ):=mkF ad 248 [] sp [Zaq.T ad,strconv_toError.T ad] t0 t0 t0 18 [] f (fun a=>1000+a.length) (by kernel_rfl)
end Zdt
namespace Zcd
def sp:Spec:=af ⟨[(0,Ss)],[]⟩ ⟨[(0,Si),(1,SB)],[]⟩ g
noncomputable def T(ad:LQ):=mkF ad 205 [] sp [strings_CutPrefix.T ad,Zdt.T ad,Zay.T ad] t0 t0 t0 31 [] f (fun a=>1000+a.length) (by kernel_rfl)
end Zcd
namespace Zdz
def sp:Spec:=af ⟨[(0,Sp 0 0),(1,Sp 1 0)],[(some 0,[.sl u5,ki,ki]),(some 1,c2)]⟩ ⟨[],[(none,[.sl u5,ki,ki]),(none,c2)]⟩ g
noncomputable def T(ad:LQ):=mkF ad 155 [] sp [Zcy.T ad,Zcd.T ad] t0 t0 t0 50 [] f (fun a b c d e i j k _ o p=>1000+a.length+b.toNat+c.toNat+d.toNat+e.toNat+i.toNat+j.toNat+k.toNat+o.length+p.length) (by kernel_rfl)
end Zdz
namespace Zcz
def sp:Spec:=af ⟨[(0,Sp 0 0),(1,Sp 1 0),(2,.c (.pp .fn))],[(some 0,[.sl u5,ki,ki]),(some 1,c2)]⟩ ⟨[],[(none,[.sl u5,ki,ki]),(none,c2)]⟩ g
noncomputable def T(ad:LQ):=mkF ad 227 [] sp [Zbr.T ad,Zcd.T ad,Zaw.T ad,Zdh.T ad,Zdi.T ad,Zdj.T ad] t0 t0 t0 21 [K.atA,K.atB,K.atC] f (fun _ b c d e i j k l _ p q=>1000+b.length+c.toNat+d.toNat+e.toNat+i.toNat+j.toNat+k.toNat+l.toNat+p.length+q.length) (by kernel_rfl)
end Zcz
namespace Zaz
def sp:Spec:=af ⟨[(0,Sp 0 0),(1,Si)],[(some 0,c6)]⟩ ⟨[],[(none,c6)]⟩ g
noncomputable def T(ad:LQ):=mkF ad 298 [] sp [] t0 t0 t0 13 [] f (fun a b c d e=>1000+a.toNat+b.length+c.toNat+d.length+e.toNat) (by kernel_rfl)
end Zaz
namespace Zbe
def sp:Spec:=af ⟨[(0,Sp 0 0)],[(some 0,c6)]⟩ ⟨[(0,.agg [ki,ki,.str,ku]),(1,SB)],[(none,c6)]⟩ g
noncomputable def T(ad:LQ):=mkF ad 299 [] sp [] t0 t0 t0 39 [] f (fun a b c d=>1000+a.length+b.toNat+c.length+d.toNat) (by kernel_rfl)
end Zbe
namespace Zaf
def sp:Spec:=af ⟨[(0,Sp 0 0),(1,.c (.sl .str))],[(some 0,c6)]⟩ ⟨[(0,Ss),(1,SB)],[(none,c6)]⟩ g
noncomputable def T(ad:LQ):=mkF ad 296 [] sp [Zbe.T ad] (fun n=>tj 8 ⟨[(0,Sp 0 0),(6,Sp 1 0),(7,SB),(15,.c (.sl .str)),(16,Si),(17,Si)],[(none,c6),(some 1,[ki,ki,.str,ku])]⟩ (fun ms=>j8 n (l3 n ms.head!)) <| tn) (fun n=>tl 3 ⟨[(0,Sp 0 0),(6,Sp 1 0),(7,SB),(15,.c (.sl .str)),(16,Si),(17,Si)],[(none,c6),(some 1,[ki,ki,.str,ku])]⟩ (fun _=>l3 n) <| tn) t0 42 [] f (fun a b c d e=>1000+a.length+b.length+c.toNat+d.length+e.toNat) (by kernel_rfl)
end Zaf
namespace Zas
def sp:Spec:=af ⟨[(0,Sp 0 0),(1,.agg [ki,ku,.str])],[(some 0,c6)]⟩ ⟨[],[(none,c6)]⟩ g
noncomputable def T(ad:LQ):=mkF ad 297 [] sp [] t0 t0 t0 14 [] f (fun a b c d e i j=>1000+a.toNat+b.toNat+c.length+d.length+e.toNat+i.length+j.toNat) (by kernel_rfl)
end Zas
def expr_parser_sum.spq(q:Nat):Spec:=af ⟨[(0,Sp 0 0),(1,Si)],[(some 0,c6)]⟩ ⟨[],[(none,c6)]⟩ (ah q).expr_parser_sum
def expr_parser_row_c283.spq(q:Nat):Spec:=af ⟨[(0,Sp 0 0),(1,.clo 283 [.ptr 1 0,.ptr 2 0]),(2,.c (.sl .str))],[(some 0,c6),(some 1,[.ptr 0 0]),(some 2,[ki])]⟩ ⟨[],[(none,c6),(none,[.ptr 0 0]),(none,[ki])]⟩ (ah q).expr_parser_row_c283
def expr_parser_sum_1.spq(q:Nat):Spec:=af ⟨[(0,Sp 0 0),(1,Sp 1 0)],[(some 0,[.ptr 2 0]),(some 1,[ki]),(some 2,c6)]⟩ ⟨[],[(none,[.ptr 2 0]),(none,[ki]),(none,c6)]⟩ (ah q).expr_parser_sum_1
def expr_parser_row_c284.spq(q:Nat):Spec:=af ⟨[(0,Sp 0 0),(1,.clo 284 [.ptr 1 0,.ptr 2 0]),(2,.c (.sl .str))],[(some 0,c6),(some 1,[.ptr 0 0]),(some 2,[ki])]⟩ ⟨[],[(none,c6),(none,[.ptr 0 0]),(none,[ki])]⟩ (ah q).expr_parser_row_c284
def expr_parser_sum_1_1.spq(q:Nat):Spec:=af ⟨[(0,Sp 0 0),(1,Sp 1 0)],[(some 0,[.ptr 2 0]),(some 1,[ki]),(some 2,c6)]⟩ ⟨[],[(none,[.ptr 2 0]),(none,[ki]),(none,c6)]⟩ (ah q).expr_parser_sum_1_1
def expr_parser_factor.spq(q:Nat):Spec:=af ⟨[(0,Sp 0 0),(1,Si)],[(some 0,c6)]⟩ ⟨[],[(none,c6)]⟩ (ah q).expr_parser_factor
namespace expr_parser_sum
theorem step(q:Nat)(ih:Sat P (LW ad) 263 (expr_parser_sum.spq q)/\Sat P (LW ad) 282 (expr_parser_row_c283.spq q)/\Sat P (LW ad) 283 (expr_parser_sum_1.spq q)/\Sat P (LW ad) 282 (expr_parser_row_c284.spq q)/\Sat P (LW ad) 284 (expr_parser_sum_1_1.spq q)/\Sat P (LW ad) 285 (expr_parser_factor.spq q)/\True):Sat P (LW ad) 263 (spq (q+1)):=o5 mixed iF jy 263 (spq (q+1)) [((282,[283]),expr_parser_row_c283.spq q)] (eX ih.2.1 (aL (by kernel_rfl)) il) t0 t0 t0 8 [] (fun n=>f n (ah q)) (fun a b c d e=>1000+a.toNat+b.length+c.toNat+d.length+e.toNat) (by kernel_rfl) (by kernel_rfl)
end expr_parser_sum
namespace expr_parser_row_c283
theorem step(q:Nat)(ih:Sat P (LW ad) 263 (expr_parser_sum.spq q)/\Sat P (LW ad) 282 (expr_parser_row_c283.spq q)/\Sat P (LW ad) 283 (expr_parser_sum_1.spq q)/\Sat P (LW ad) 282 (expr_parser_row_c284.spq q)/\Sat P (LW ad) 284 (expr_parser_sum_1_1.spq q)/\Sat P (LW ad) 285 (expr_parser_factor.spq q)/\True):Sat P (LW ad) 282 (spq (q+1)):=o5 mixed iF jy 282 (spq (q+1)) [((283,[]),expr_parser_sum_1.spq q),(Zaf.T ad).kv,(Zas.T ad).kv] (eX ih.2.2.1 (aL (by kernel_rfl)) (iR (Zaf.T ad) (iR (Zas.T ad) il))) t0 (fun n=>tl 1 ⟨[(0,Sp 0 0),(1,.clo 283 [.ptr 1 0,.ptr 2 0]),(2,.c (.sl .str))],[(none,c6),(none,[.ptr 0 0]),(none,[ki])]⟩ (fun _=>l1 n (ah q)) <| tn) t0 26 [] (fun n=>f n (ah q)) (fun a b c d e i=>1000+a.length+b.length+c.toNat+d.length+e.toNat+i.toNat) (by kernel_rfl) (by kernel_rfl)
end expr_parser_row_c283
namespace expr_parser_sum_1
theorem step(q:Nat)(ih:Sat P (LW ad) 263 (expr_parser_sum.spq q)/\Sat P (LW ad) 282 (expr_parser_row_c283.spq q)/\Sat P (LW ad) 283 (expr_parser_sum_1.spq q)/\Sat P (LW ad) 282 (expr_parser_row_c284.spq q)/\Sat P (LW ad) 284 (expr_parser_sum_1_1.spq q)/\Sat P (LW ad) 285 (expr_parser_factor.spq q)/\True):Sat P (LW ad) 283 (spq (q+1)):=o5 mixed iF jy 283 (spq (q+1)) [((282,[284]),expr_parser_row_c284.spq q)] (eX ih.2.2.2.1 (aL (by kernel_rfl)) il) t0 t0 t0 6 [] (fun n=>f n (ah q)) (fun a b c d e=>1000+a.toNat+b.length+c.toNat+d.length+e.toNat) (by kernel_rfl) (by kernel_rfl)
end expr_parser_sum_1
namespace expr_parser_row_c284
theorem step(q:Nat)(ih:Sat P (LW ad) 263 (expr_parser_sum.spq q)/\Sat P (LW ad) 282 (expr_parser_row_c283.spq q)/\Sat P (LW ad) 283 (expr_parser_sum_1.spq q)/\Sat P (LW ad) 282 (expr_parser_row_c284.spq q)/\Sat P (LW ad) 284 (expr_parser_sum_1_1.spq q)/\Sat P (LW ad) 285 (expr_parser_factor.spq q)/\True):Sat P (LW ad) 282 (spq (q+1)):=o5 mixed iF jy 282 (spq (q+1)) [((284,[]),expr_parser_sum_1_1.spq q),(Zaf.T ad).kv,(Zas.T ad).kv] (eX ih.2.2.2.2.1 (aL (by kernel_rfl)) (iR (Zaf.T ad) (iR (Zas.T ad) il))) t0 (fun n=>tl 1 ⟨[(0,Sp 0 0),(1,.clo 284 [.ptr 1 0,.ptr 2 0]),(2,.c (.sl .str))],[(none,c6),(none,[.ptr 0 0]),(none,[ki])]⟩ (fun _=>l1 n (ah q)) <| tn) t0 26 [] (fun n=>f n (ah q)) (fun a b c d e i=>1000+a.length+b.length+c.toNat+d.length+e.toNat+i.toNat) (by kernel_rfl) (by kernel_rfl)
end expr_parser_row_c284
namespace expr_parser_sum_1_1
theorem step(q:Nat)(ih:Sat P (LW ad) 263 (expr_parser_sum.spq q)/\Sat P (LW ad) 282 (expr_parser_row_c283.spq q)/\Sat P (LW ad) 283 (expr_parser_sum_1.spq q)/\Sat P (LW ad) 282 (expr_parser_row_c284.spq q)/\Sat P (LW ad) 284 (expr_parser_sum_1_1.spq q)/\Sat P (LW ad) 285 (expr_parser_factor.spq q)/\True):Sat P (LW ad) 284 (spq (q+1)):=o5 mixed iF jy 284 (spq (q+1)) [((285,[]),expr_parser_factor.spq q)] (eX ih.2.2.2.2.2.1 (aL (by kernel_rfl)) il) t0 t0 t0 5 [] (fun n=>f n (ah q)) (fun a b c d e=>1000+a.toNat+b.length+c.toNat+d.length+e.toNat) (by kernel_rfl) (by kernel_rfl)
end expr_parser_sum_1_1
namespace expr_parser_factor
theorem step(q:Nat)(ih:Sat P (LW ad) 263 (expr_parser_sum.spq q)/\Sat P (LW ad) 282 (expr_parser_row_c283.spq q)/\Sat P (LW ad) 283 (expr_parser_sum_1.spq q)/\Sat P (LW ad) 282 (expr_parser_row_c284.spq q)/\Sat P (LW ad) 284 (expr_parser_sum_1_1.spq q)/\Sat P (LW ad) 285 (expr_parser_factor.spq q)/\True):Sat P (LW ad) 285 (spq (q+1)):=o5 mixed iF jy 285 (spq (q+1)) [(Zaz.T ad).kv,(Zaf.T ad).kv,((285,[]),expr_parser_factor.spq q),(Zas.T ad).kv,((263,[]),expr_parser_sum.spq q),(Zbe.T ad).kv,(Zac.T ad).kv] (iR (Zaz.T ad) (iR (Zaf.T ad) (eX ih.2.2.2.2.2.1 (aL (by kernel_rfl)) (iR (Zas.T ad) (eX ih.1 (aL (by kernel_rfl)) (iR (Zbe.T ad) (iR (Zac.T ad) il))))))) (fun n=>tj 19 ⟨[(0,Sp 0 0)],[(none,c6)]⟩ (fun _=>j19 n (ah q)) <| tn) t0 t0 94 [] (fun n=>f n (ah q)) (fun a b c d e=>1000+a.toNat+b.length+c.toNat+d.length+e.toNat) (by kernel_rfl) (by kernel_rfl)
end expr_parser_factor
theorem aG:∀q,Sat P (LW ad) 263 (expr_parser_sum.spq q)/\Sat P (LW ad) 282 (expr_parser_row_c283.spq q)/\Sat P (LW ad) 283 (expr_parser_sum_1.spq q)/\Sat P (LW ad) 282 (expr_parser_row_c284.spq q)/\Sat P (LW ad) 284 (expr_parser_sum_1_1.spq q)/\Sat P (LW ad) 285 (expr_parser_factor.spq q)/\True
 |0=>⟨ko fun _=>rfl,ko fun _=>rfl,ko fun _=>rfl,ko fun _=>rfl,ko fun _=>rfl,ko fun _=>rfl,trivial⟩
 |q+1=>⟨expr_parser_sum.step q (aG q),expr_parser_row_c283.step q (aG q),expr_parser_sum_1.step q (aG q),expr_parser_row_c284.step q (aG q),expr_parser_sum_1_1.step q (aG q),expr_parser_factor.step q (aG q),trivial⟩
def expr_parser_sum.sp:Spec:=af ⟨[(0,Sp 0 0),(1,Si)],[(some 0,c6)]⟩ ⟨[],[(none,c6)]⟩ expr_parser_sum.g
noncomputable def expr_parser_sum.T(ad:LQ):TF P (LW ad):=⟨263,[],expr_parser_sum.sp,ol (F:=fun q=>(ah q).expr_parser_sum) (fun a b c d e=>1000+a.toNat+b.length+c.toNat+d.length+e.toNat) (fun q=>(aG q).1) (fun _=>by kernel_rfl),aL (by kernel_rfl)⟩
def expr_parser_row_c283.sp:Spec:=af ⟨[(0,Sp 0 0),(1,.clo 283 [.ptr 1 0,.ptr 2 0]),(2,.c (.sl .str))],[(some 0,c6),(some 1,[.ptr 0 0]),(some 2,[ki])]⟩ ⟨[],[(none,c6),(none,[.ptr 0 0]),(none,[ki])]⟩ expr_parser_row_c283.g
noncomputable def expr_parser_row_c283.T(ad:LQ):TF P (LW ad):=⟨282,[283],expr_parser_row_c283.sp,ol (F:=fun q=>(ah q).expr_parser_row_c283) (fun a b c d e i=>1000+a.length+b.length+c.toNat+d.length+e.toNat+i.toNat) (fun q=>(aG q).2.1) (fun _=>by kernel_rfl),aL (by kernel_rfl)⟩
def expr_parser_sum_1.sp:Spec:=af ⟨[(0,Sp 0 0),(1,Sp 1 0)],[(some 0,[.ptr 2 0]),(some 1,[ki]),(some 2,c6)]⟩ ⟨[],[(none,[.ptr 2 0]),(none,[ki]),(none,c6)]⟩ expr_parser_sum_1.g
noncomputable def expr_parser_sum_1.T(ad:LQ):TF P (LW ad):=⟨283,[],expr_parser_sum_1.sp,ol (F:=fun q=>(ah q).expr_parser_sum_1) (fun a b c d e=>1000+a.toNat+b.length+c.toNat+d.length+e.toNat) (fun q=>(aG q).2.2.1) (fun _=>by kernel_rfl),aL (by kernel_rfl)⟩
def expr_parser_row_c284.sp:Spec:=af ⟨[(0,Sp 0 0),(1,.clo 284 [.ptr 1 0,.ptr 2 0]),(2,.c (.sl .str))],[(some 0,c6),(some 1,[.ptr 0 0]),(some 2,[ki])]⟩ ⟨[],[(none,c6),(none,[.ptr 0 0]),(none,[ki])]⟩ expr_parser_row_c284.g
noncomputable def expr_parser_row_c284.T(ad:LQ):TF P (LW ad):=⟨282,[284],expr_parser_row_c284.sp,ol (F:=fun q=>(ah q).expr_parser_row_c284) (fun a b c d e i=>1000+a.length+b.length+c.toNat+d.length+e.toNat+i.toNat) (fun q=>(aG q).2.2.2.1) (fun _=>by kernel_rfl),aL (by kernel_rfl)⟩
def expr_parser_sum_1_1.sp:Spec:=af ⟨[(0,Sp 0 0),(1,Sp 1 0)],[(some 0,[.ptr 2 0]),(some 1,[ki]),(some 2,c6)]⟩ ⟨[],[(none,[.ptr 2 0]),(none,[ki]),(none,c6)]⟩ expr_parser_sum_1_1.g
noncomputable def expr_parser_sum_1_1.T(ad:LQ):TF P (LW ad):=⟨284,[],expr_parser_sum_1_1.sp,ol (F:=fun q=>(ah q).expr_parser_sum_1_1) (fun a b c d e=>1000+a.toNat+b.length+c.toNat+d.length+e.toNat) (fun q=>(aG q).2.2.2.2.1) (fun _=>by kernel_rfl),aL (by kernel_rfl)⟩
def expr_parser_factor.sp:Spec:=af ⟨[(0,Sp 0 0),(1,Si)],[(some 0,c6)]⟩ ⟨[],[(none,c6)]⟩ expr_parser_factor.g
noncomputable def expr_parser_factor.T(ad:LQ):TF P (LW ad):=⟨285,[],expr_parser_factor.sp,ol (F:=fun q=>(ah q).expr_parser_factor) (fun a b c d e=>1000+a.toNat+b.length+c.toNat+d.length+e.toNat) (fun q=>(aG q).2.2.2.2.2.1) (fun _=>by kernel_rfl),aL (by kernel_rfl)⟩
namespace Zau
def sp:Spec:=af ⟨[(0,.c (.sl u5)),(1,Si)],[]⟩ ⟨[(0,.c (.row 53 u2)),(1,Si),(2,Si)],[]⟩ g
noncomputable def T(ad:LQ):=mkF ad 230 [] sp [expr_parser_sum.T ad] (fun n=>tj 5 ⟨[(7,Sp 0 0)],[(some 0,c6)]⟩ (fun _=>j5 n) <| tn) t0 t0 47 [] f (fun a b=>1000+a.length+b.toNat) (by kernel_rfl)
end Zau
namespace Zbk
def sp:Spec:=af ⟨[(0,Sp 0 0),(1,Sp 1 0),(2,.c (.pp .str))],[(some 0,[.sl u5,ki,ki]),(some 1,c2)]⟩ ⟨[],[(none,[.sl u5,ki,ki]),(none,c2)]⟩ g
noncomputable def T(ad:LQ):=mkF ad 229 [] sp [Zbr.T ad,Zaw.T ad,Zau.T ad] (fun n=>tj 2 ⟨[(0,Sp 0 0),(1,Sp 1 0)],[(none,[.sl u5,ki,ki]),(none,c2)]⟩ (fun _=>j2 n) <| tn) t0 t0 40 [] f (fun a b c d e i j k l _ p q=>1000+a.length+b.length+c.toNat+d.toNat+e.toNat+i.toNat+j.toNat+k.toNat+l.toNat+p.length+q.length) (by kernel_rfl)
end Zbk
namespace Zea
def sp:Spec:=af ⟨[(0,Sp 0 0),(1,Sp 1 0)],[(some 0,[.sl u5,ki,ki]),(some 1,c2)]⟩ ⟨[],[(none,[.sl u5,ki,ki]),(none,c2)]⟩ g
noncomputable def T(ad:LQ):=mkF ad 185 [] sp [Zbr.T ad,Zao.T ad,Zaw.T ad] t0 t0 t0 16 [] f (fun a b c d e i j k _ o p=>1000+a.length+b.toNat+c.toNat+d.toNat+e.toNat+i.toNat+j.toNat+k.toNat+o.length+p.length) (by kernel_rfl)
end Zea
namespace Zab
def sp:Spec:=af ⟨[(0,.c (.sl u5))],[]⟩ ⟨[(0,Ss),(1,.agg c2),(2,Si)],[]⟩ g
noncomputable def T(ad:LQ):=mkF ad 95 [] sp [Zac.T ad,Zaw.T ad,name_Of.T ad,Zcw.T ad,stmt_operands.T ad,Zbr.T ad,Zdz.T ad,Zcz.T ad,Zbk.T ad,Zea.T ad] (fun n=>tj 20 ⟨[(0,.c (.sl u5)),(2,Ss),(3,Sp 0 0),(5,Sp 1 0),(8,Si),(11,Si),(116,Si),(117,Si)],[(some 2,c2),(some 3,[.sl u5,ki,ki])]⟩ (fun ms=>j20 n (l13 n ms.head!)) <| tj 19 ⟨[(0,.c (.sl u5)),(2,Ss),(3,Sp 0 0),(5,Sp 1 0),(8,Si),(11,Si),(12,Si),(116,Si),(117,Si)],[(some 2,c2),(some 3,[.sl u5,ki,ki])]⟩ (fun ms=>j19 n (l13 n ms.head!)) <| tj 17 ⟨[(0,.c (.sl u5)),(2,Ss),(3,Sp 0 0),(5,Sp 1 0),(8,Si),(11,Si),(12,Si),(116,Si),(117,Si)],[(some 2,c2),(some 3,[.sl u5,ki,ki])]⟩ (fun ms=>j17 n (l13 n ms.head!)) <| tj 22 ⟨[(2,Ss),(3,Sp 0 0),(5,Sp 1 0)],[(some 1,c2),(some 2,[.sl u5,ki,ki])]⟩ (fun _=>j22 n) <| tj 9 ⟨[(0,.c (.sl u5)),(2,Ss),(3,Sp 0 0),(5,Sp 1 0),(7,Si),(8,Si),(9,SB)],[(some 2,c2),(some 3,[.sl u5,ki,ki])]⟩ (fun _=>j9 n) <| tj 5 ⟨[(0,.c (.sl u5)),(2,Ss),(3,Sp 0 0),(5,Sp 1 0)],[(some 2,c2),(some 3,[.sl u5,ki,ki])]⟩ (fun _=>j5 n) <| tn) (fun n=>tl 13 ⟨[(0,.c (.sl u5)),(2,Ss),(3,Sp 0 0),(5,Sp 1 0),(8,Si),(11,Si),(116,Si),(117,Si)],[(some 2,c2),(some 3,[.sl u5,ki,ki])]⟩ (fun _=>l13 n) <| tn) t0 165 [K.rdA,K.rdB,K.rdC,K.rdE,K.rdQ,K.rdN] f (fun a=>1000+a.length) (by kernel_rfl)
end Zab
namespace Zec
def sp:Spec:=af ⟨[(0,Ss)],[]⟩ ⟨[(0,.agg c3),(1,Si)],[]⟩ g
noncomputable def T(ad:LQ):=mkF ad 55 [] sp [Zah.T ad,Zab.T ad] t0 t0 t0 27 [] f (fun a=>1000+a.length) (by kernel_rfl)
end Zec
namespace Zci
def sp:Spec:=af ⟨[(0,.c (.sl .str)),(1,.c (.raw (.func (.func 55) #[] #[])))],[]⟩ ⟨[(0,.c (.row 78 u3)),(1,Si),(2,Si)],[]⟩ g
noncomputable def T(ad:LQ):=mkF ad 54 [] sp [Zec.T ad] t0 (fun n=>tl 5 ⟨[(1,.c (.raw (.func (.func 55) #[] #[]))),(7,.c (.row 78 u3)),(15,.c (.sl .str)),(16,Si),(17,Si)],[]⟩ (fun _=>l5 n) <| tn) t0 39 [] f (fun a=>1000+a.length) (by kernel_rfl)
end Zci
namespace Zbz
def sp:Spec:=af ⟨[(0,Ss)],[]⟩ ⟨[(0,.c (.row 78 u3)),(1,Si),(2,Si)],[]⟩ g
noncomputable def T(ad:LQ):=mkF ad 21 [] sp [strings_Split.T ad,Zci.T ad] (fun n=>tj 7 ⟨[(5,.c (.sl .str))],[]⟩ (fun _=>j7 n) <| tn) t0 t0 28 [] f (fun a=>1000+a.length) (by kernel_rfl)
end Zbz
namespace Zel
def sp:Spec:=af ⟨[(0,.agg [.str,ki]),(1,Sp 0 0)],[(some 2,[.str])]⟩ ⟨[(0,SB)],[(none,[.str])]⟩ g
noncomputable def T(ad:LQ):=mkF ad 156 [] sp [] t0 t0 t0 8 [] f (fun a b c=>1000+a.length+b.toNat+c.length) (by kernel_rfl)
end Zel
namespace Zce
def sp:Spec:=af ⟨[(0,.c (.sl u0)),(1,.clo 156 [.ptr 0 0])],[(some 1,[.str])]⟩ ⟨[(0,Si)],[(none,[.str])]⟩ g
noncomputable def T(ad:LQ):=mkF ad 114 [156] sp [Zel.T ad] t0 (fun n=>tl 2 ⟨[(0,.c (.sl u0)),(1,.clo 156 [.ptr 0 0]),(7,Si),(8,Si)],[(none,[.str])]⟩ (fun _=>l2 n) <| tn) t0 19 [] f (fun a b=>1000+a.length+b.length) (by kernel_rfl)
end Zce
namespace Zcf
def sp:Spec:=af ⟨[(0,.c (.sl u0)),(1,Ss)],[]⟩ ⟨[(0,Si),(1,SB)],[]⟩ g
noncomputable def T(ad:LQ):=mkF ad 97 [] sp [Zce.T ad] t0 t0 t0 17 [] f (fun a b=>1000+a.length+b.length) (by kernel_rfl)
end Zcf
namespace Zed
def sp:Spec:=af ⟨[(0,.agg c2)],[]⟩ ⟨[(0,Si)],[]⟩ g
noncomputable def T(ad:LQ):=mkF ad 98 [] sp [] t0 t0 t0 8 [] f (fun a b c d e _ j k=>1000+a.toNat+b.toNat+c.toNat+d.toNat+e.toNat+j.length+k.length) (by kernel_rfl)
end Zed
namespace Zcs
def sp:Spec:=af ⟨[(0,.agg c3),(1,Sp 0 0)],[(some 9,c7)]⟩ ⟨[(0,Si)],[(none,c7)]⟩ g
noncomputable def T(ad:LQ):=mkF ad 96 [] sp [Zcf.T ad,Zed.T ad] (fun n=>tj 7 ⟨[(1,Sp 0 0),(2,Sp 1 0)],[(none,c7),(some 1,c3)]⟩ (fun _=>j7 n) <| tn) t0 t0 43 [] f (fun a b c d e i _ k l o p q r s=>1000+a.length+b.toNat+c.toNat+d.toNat+e.toNat+i.toNat+k.length+l.length+o.length+p.length+q.length+r.toNat+s.toNat) (by kernel_rfl)
end Zcs
namespace Zda
def sp:Spec:=af ⟨[(0,.c (.sl u3)),(1,.clo 96 [.ptr 0 0])],[(some 1,c7)]⟩ ⟨[(0,Si),(1,Si)],[(none,c7)]⟩ g
noncomputable def T(ad:LQ):=mkF ad 102 [96] sp [Zcs.T ad] t0 (fun n=>tl 2 ⟨[(1,.clo 96 [.ptr 0 0]),(9,.c (.sl u3)),(10,Si),(11,Si)],[(none,c7)]⟩ (fun _=>l2 n) <| tn) t0 25 [] f (fun a b c d e i=>1000+a.length+b.length+c.length+d.length+e.toNat+i.toNat) (by kernel_rfl)
end Zda
namespace Zbo
def sp:Spec:=af ⟨[(0,Sp 0 0)],[(some 0,[.row 106 u6])]⟩ ⟨[(0,.agg [ku,ki])],[(none,[.row 106 u6])]⟩ g
noncomputable def T(ad:LQ):=mkF ad 159 [] sp [] t0 t0 t0 24 [] f (fun a=>1000+a.length) (by kernel_rfl)
end Zbo
namespace Zde
def sp:Spec:=af ⟨[(0,.agg [ku,ki]),(1,Si)],[]⟩ ⟨[(0,.agg [ku,ki])],[]⟩ g
noncomputable def T(ad:LQ):=mkF ad 158 [] sp [] t0 t0 t0 15 [] f (fun a b c=>1000+a.toNat+b.toNat+c.toNat) (by kernel_rfl)
end Zde
namespace Zem
def sp:Spec:=af ⟨[(0,.agg [ku,ki]),(1,.agg [ku,ki])],[]⟩ ⟨[(0,.agg [ku,ki])],[]⟩ g
noncomputable def T(ad:LQ):=mkF ad 160 [] sp [] t0 t0 t0 16 [] f (fun a b c d=>1000+a.toNat+b.toNat+c.toNat+d.toNat) (by kernel_rfl)
end Zem
namespace Zai
def sp:Spec:=af ⟨[(0,.c (.sl u2)),(1,.c (.sl u0))],[]⟩ ⟨[(0,.agg [ku,ki]),(1,Si)],[]⟩ g
noncomputable def T(ad:LQ):=mkF ad 100 [] sp [Zba.T ad,Zcf.T ad,Zbo.T ad,Zde.T ad,Zem.T ad] (fun n=>tj 27 ⟨[(1,.c (.sl u0)),(4,Sp 0 0),(6,Sp 1 0),(9,Sp 2 0),(20,.c (.sl u2)),(21,Si),(22,Si)],[(some 1,[ku,ki]),(some 2,[.row 106 u6]),(some 3,[ku,ki])]⟩ (fun ms=>j27 n (l5 n ms.head!)) <| tn) (fun n=>tl 5 ⟨[(1,.c (.sl u0)),(4,Sp 0 0),(6,Sp 1 0),(20,.c (.sl u2)),(21,Si),(22,Si)],[(some 1,[ku,ki]),(some 2,[.row 106 u6])]⟩ (fun _=>l5 n) <| tn) t0 92 [] f (fun a b=>1000+a.length+b.length) (by kernel_rfl)
end Zai
namespace Zep
def sp:Spec:=af ⟨[(0,.c (.sl u6))],[]⟩ ⟨[(0,.c (.slc u6))],[]⟩ g
noncomputable def T(ad:LQ):=mkF ad 161 [] sp [] t0 t0 t0 9 [] f (fun a=>1000+a.length) (by kernel_rfl)
end Zep
namespace Zbs
def sp:Spec:=af ⟨[(0,.c (.sl u6)),(1,.agg [ku,ki])],[]⟩ ⟨[(0,.c (.sl u6)),(1,Si)],[]⟩ g
noncomputable def T(ad:LQ):=mkF ad 101 [] sp [Zep.T ad] t0 (fun n=>tl 2 ⟨[(0,.c (.sl u6)),(3,Sp 0 0),(8,.c (.sl u6)),(9,Si),(10,Si)],[(some 1,[ku,ki])]⟩ (fun _=>l2 n) <| tn) t0 28 [] f (fun a b c=>1000+a.length+b.toNat+c.toNat) (by kernel_rfl)
end Zbs
namespace Zee
def sp:Spec:=af ⟨[(0,.agg c3),(1,Sp 0 0)],[(some 9,c7)]⟩ ⟨[(0,Si)],[(none,c7)]⟩ g
noncomputable def T(ad:LQ):=mkF ad 99 [] sp [Zai.T ad,Zbs.T ad] t0 t0 t0 40 [] f (fun a b c d e i _ k l o p q r s=>1000+a.length+b.toNat+c.toNat+d.toNat+e.toNat+i.toNat+k.length+l.length+o.length+p.length+q.length+r.toNat+s.toNat) (by kernel_rfl)
end Zee
namespace Zdb
def sp:Spec:=af ⟨[(0,.c (.sl u3)),(1,.clo 99 [.ptr 0 0])],[(some 1,c7)]⟩ ⟨[(0,Si),(1,Si)],[(none,c7)]⟩ g
noncomputable def T(ad:LQ):=mkF ad 102 [99] sp [Zee.T ad] t0 (fun n=>tl 2 ⟨[(1,.clo 99 [.ptr 0 0]),(9,.c (.sl u3)),(10,Si),(11,Si)],[(none,c7)]⟩ (fun _=>l2 n) <| tn) t0 25 [] f (fun a b c d e i=>1000+a.length+b.length+c.length+d.length+e.toNat+i.toNat) (by kernel_rfl)
end Zdb
namespace Zbf
def sp:Spec:=af ⟨[(0,.c (.sl u3))],[]⟩ ⟨[(0,.agg c7),(1,Si),(2,Si)],[]⟩ g
noncomputable def T(ad:LQ):=mkF ad 56 [] sp [Zda.T ad,Zdb.T ad] (fun n=>tj 7 ⟨[(0,.c (.sl u3)),(2,Sp 0 0),(3,Si),(4,Si),(13,.c (.clr 0 [96,99])),(14,Si),(15,Si)],[(some 1,c7)]⟩ (fun ms=>j7 n (l4 n ms.head!)) <| tn) (fun n=>tl 4 ⟨[(0,.c (.sl u3)),(2,Sp 0 0),(13,.c (.clr 0 [96,99])),(14,Si),(15,Si)],[(some 1,c7)]⟩ (fun _=>l4 n) <| tn) t0 44 [] f (fun a=>1000+a.length) (by kernel_rfl)
end Zbf
namespace Zeq
def sp:Spec:=af ⟨[(0,.agg [.str,ki]),(1,Ss)],[]⟩ ⟨[(0,Si)],[]⟩ g
noncomputable def T(ad:LQ):=mkF ad 163 [] sp [strings_Compare.T ad] t0 t0 t0 9 [] f (fun a b c=>1000+a.length+b.toNat+c.length) (by kernel_rfl)
end Zeq
namespace Zca
def sp:Spec:=af ⟨[(0,.c (.sl u0)),(1,Ss),(2,.c (.raw (.func (.func 163) #[] #[])))],[]⟩ ⟨[(0,Si),(1,SB)],[]⟩ g
noncomputable def T(ad:LQ):=mkF ad 162 [] sp [Zeq.T ad] t0 (fun n=>tl 3 ⟨[(0,.c (.sl u0)),(1,Ss),(2,.c (.raw (.func (.func 163) #[] #[]))),(8,Si),(9,Si),(10,Si)],[]⟩ (fun _=>l3 n) <| tn) t0 49 [] f (fun a b=>1000+a.length+b.length) (by kernel_rfl)
end Zca
namespace Zef
def sp:Spec:=af ⟨[(0,Sp 0 0),(1,Ss)],[(some 0,c8)]⟩ ⟨[(0,Si)],[(none,c8)]⟩ g
noncomputable def T(ad:LQ):=mkF ad 104 [] sp [Zcf.T ad,Zca.T ad,Zao.T ad,slices_Insert_api_Sym_api_Sym.T ad] t0 t0 t0 53 [] f (fun a b c d e i j k l=>1000+a.length+b.length+c.length+d.length+e.toNat+i.toNat+j.length+k.length+l.length) (by kernel_rfl)
end Zef
namespace Zar
def sp:Spec:=af ⟨[(0,.c (.sl u2)),(1,.c (.sl u0)),(2,Si),(3,Si)],[]⟩ ⟨[(0,Si),(1,Si)],[]⟩ g
noncomputable def T(ad:LQ):=mkF ad 105 [] sp [Zai.T ad] (fun n=>tj 11 ⟨[(2,Si),(3,Si),(35,.agg [ki,ki]),(36,Si)],[]⟩ (fun ms=>j11 n (l7 n ms.head!)) <| tn) (fun n=>tl 7 ⟨[(2,Si),(3,Si),(35,.agg [ki,ki]),(36,Si)],[]⟩ (fun _=>l7 n) <| tn) t0 49 [] f (fun a b c d=>1000+a.length+b.length+c.toNat+d.toNat) (by kernel_rfl)
end Zar
namespace Zby
def sp:Spec:=af ⟨[(0,.agg c1)],[]⟩ ⟨[(0,Su),(1,Si)],[]⟩ g
noncomputable def T(ad:LQ):=mkF ad 23 [] sp [Zam.T ad,Zbj.T ad] t0 t0 t0 9 [] f (fun a b c d e i _=>1000+a.toNat+b.toNat+c.toNat+d.toNat+e.toNat+i.toNat) (by kernel_rfl)
end Zby
namespace Zbp
def sp:Spec:=af ⟨[(0,Sp 0 0),(1,.agg [ku,ki])],[(some 0,c8)]⟩ ⟨[],[(none,c8)]⟩ g
noncomputable def T(ad:LQ):=mkF ad 58 [] sp [] (fun n=>tj 3 ⟨[(0,Sp 0 0),(3,Sp 1 0)],[(none,c8),(some 1,[ku,ki])]⟩ (fun _=>j3 n) <| tn) t0 t0 37 [] f (fun a b c d e i j k l o=>1000+a.toNat+b.toNat+c.length+d.length+e.length+i.toNat+j.toNat+k.length+l.length+o.length) (by kernel_rfl)
end Zbp
namespace Zeg
def sp:Spec:=af ⟨[(0,Sp 0 0),(1,.agg c1)],[(some 0,c8)]⟩ ⟨[(0,Si)],[(none,c8)]⟩ g
noncomputable def T(ad:LQ):=mkF ad 108 [] sp [Zby.T ad,Zbp.T ad] t0 t0 t0 19 [] f (fun a b c d e i _ k l o p q r s t=>1000+a.toNat+b.toNat+c.toNat+d.toNat+e.toNat+i.toNat+k.length+l.length+o.length+p.toNat+q.toNat+r.length+s.length+t.length) (by kernel_rfl)
end Zeg
namespace Zdc
def sp:Spec:=af ⟨[(0,Sp 0 0),(1,Sp 1 0),(2,Sp 2 0)],[(some 0,c2),(some 1,[.ptr 3 0]),(some 2,[ki]),(some 11,c8)]⟩ ⟨[(0,.agg [ku,ki])],[(none,c2),(none,[.ptr 3 0]),(none,[ki]),(none,c8)]⟩ g
noncomputable def T(ad:LQ):=mkF ad 103 [] sp [Zai.T ad] t0 t0 t0 16 [] f (fun a b c d e _ j k l o p q r s t u v=>1000+a.toNat+b.toNat+c.toNat+d.toNat+e.toNat+j.length+k.length+l.toNat+o.length+p.length+q.length+r.toNat+s.toNat+t.length+u.length+v.length) (by kernel_rfl)
end Zdc
namespace Zeh
def sp:Spec:=af ⟨[(0,.agg [ku,ki]),(1,Si)],[]⟩ ⟨[(0,Si),(1,Si)],[]⟩ g
noncomputable def T(ad:LQ):=mkF ad 106 [] sp [] t0 t0 t0 35 [] f (fun a b c=>1000+a.toNat+b.toNat+c.toNat) (by kernel_rfl)
end Zeh
namespace Zdm
def sp:Spec:=af ⟨[(0,Sp 0 0),(1,.agg [ku,ki])],[(some 0,c8)]⟩ ⟨[(0,Si)],[(none,c8)]⟩ g
noncomputable def T(ad:LQ):=mkF ad 107 [] sp [] t0 t0 t0 30 [] f (fun a b c d e i j k l o=>1000+a.toNat+b.toNat+c.length+d.length+e.length+i.toNat+j.toNat+k.length+l.length+o.length) (by kernel_rfl)
end Zdm
namespace Zan
def sp:Spec:=af ⟨[(0,Sp 0 0),(1,.agg c2),(2,Si)],[(some 0,c8)]⟩ ⟨[(0,Si)],[(none,c8)]⟩ g
noncomputable def T(ad:LQ):=mkF ad 57 [] sp [Zef.T ad,Zar.T ad,Zeg.T ad,Zdc.T ad,Zeh.T ad,Zbs.T ad,Zdm.T ad,Zbp.T ad] (fun n=>tj 32 ⟨[(3,Sp 1 0),(6,Sp 2 0),(7,Sp 3 0)],[(none,c8),(some 0,[.ptr 0 0]),(some 1,[ki]),(some 2,c1)]⟩ (fun _=>j32 n) <| tj 12 ⟨[(3,Sp 1 0),(4,Sp 2 0),(6,Sp 3 0),(7,Sp 4 0),(9,Si)],[(none,c8),(some 0,[.ptr 0 0]),(some 1,c2),(some 2,[ki]),(some 3,c1)]⟩ (fun _=>j12 n) <| tj 31 ⟨[(6,Sp 1 0)],[(none,c8),(some 0,[ki])]⟩ (fun _=>j31 n) <| tj 29 ⟨[(3,Sp 1 0),(6,Sp 2 0),(14,Sp 3 0)],[(none,c8),(some 0,[.ptr 0 0]),(some 1,[ki]),(some 2,[ku,ki])]⟩ (fun _=>j29 n) <| tn) t0 t0 139 [] f (fun a b c d e _ j k l o p q r s t u v=>1000+a.toNat+b.toNat+c.toNat+d.toNat+e.toNat+j.length+k.length+l.toNat+o.length+p.length+q.length+r.toNat+s.toNat+t.length+u.length+v.length) (by kernel_rfl)
end Zan
namespace Zbl
def sp:Spec:=af ⟨[(0,.c (.sl u3))],[]⟩ ⟨[(0,.agg c4),(1,Si),(2,Si)],[]⟩ g
noncomputable def T(ad:LQ):=mkF ad 22 [] sp [Zbf.T ad,Zan.T ad,Zbp.T ad] t0 (fun n=>tl 14 ⟨[(2,Sp 0 0),(6,Sp 1 0),(53,.c (.sl u6)),(54,Si),(55,Si)],[(some 0,c4),(some 1,c8)]⟩ (fun _=>l14 n) <| tl 7 ⟨[(2,Sp 0 0),(5,Sp 1 0),(6,Sp 2 0),(7,.clo 1000057 [.ptr 2 0]),(29,.c (.sl u3)),(30,Si),(31,Si)],[(some 0,c4),(some 1,c9),(some 2,c8)]⟩ (fun _=>l7 n) <| tn) t0 75 [] f (fun a=>1000+a.length) (by kernel_rfl)
end Zbl
namespace Zcb
def sp:Spec:=af ⟨[(0,Ss)],[]⟩ ⟨[(0,.agg c4),(1,Si),(2,Si)],[]⟩ g
noncomputable def T(ad:LQ):=mkF ad 25 [] sp [Zbz.T ad,Zbl.T ad] t0 t0 t0 22 [] f (fun a=>1000+a.length) (by kernel_rfl)
end Zcb
namespace Zag
def sp:Spec:=af ⟨[(0,.agg c1)],[]⟩ ⟨[(0,.agg c1)],[]⟩ g
noncomputable def T(ad:LQ):=mkF ad 24 [] sp [] (fun n=>tj 25 ⟨[(2,Sp 0 0),(3,Sp 1 0)],[(some 0,c1),(some 1,c1)]⟩ (fun _=>j25 n) <| tj 10 ⟨[(1,Sp 0 0),(2,Sp 1 0),(3,Sp 2 0),(4,Si)],[(some 0,c1),(some 1,c1),(some 2,c1)]⟩ (fun _=>j10 n) <| tj 9 ⟨[(1,Sp 0 0),(2,Sp 1 0),(3,Sp 2 0),(4,Si)],[(some 0,c1),(some 1,c1),(some 2,c1)]⟩ (fun _=>j9 n) <| tj 7 ⟨[(1,Sp 0 0),(2,Sp 1 0),(3,Sp 2 0),(4,Si)],[(some 0,c1),(some 1,c1),(some 2,c1)]⟩ (fun _=>j7 n) <| tj 19 ⟨[(1,Sp 0 0),(2,Sp 1 0),(3,Sp 2 0)],[(some 0,c1),(some 1,c1),(some 2,c1)]⟩ (fun _=>j19 n) <| tn) t0 t0 111 [] f (fun a b c d e i _=>1000+a.toNat+b.toNat+c.toNat+d.toNat+e.toNat+i.toNat) (by kernel_rfl)
end Zag
namespace Zbm
def sp:Spec:=af ⟨[(0,.c (.sl (.int .u32))),(1,.c (.sl (.int .u32)))],[]⟩ ⟨[(0,SB)],[]⟩ g
noncomputable def T(ad:LQ):=mkF ad 26 [] sp [] t0 (fun n=>tl 4 ⟨[(0,.c (.sl (.int .u32))),(1,.c (.sl (.int .u32))),(5,Si)],[]⟩ (fun _=>l4 n) <| tn) t0 26 [] f (fun a b=>1000+a.length+b.length) (by kernel_rfl)
end Zbm
namespace rivetlaw23_DisasmInstr
def sp:Spec:=af ⟨[(0,Su),(1,.agg c1)],[]⟩ ⟨[(0,SB)],[]⟩ g
def Q(ad:LQ)(a_rivetlaw23_shown:Option (Bool×Unit)):Nat->Env sp.r.T:=mF types maps [((9,[]),af ⟨[],[]⟩ ⟨[(0,SB)],[]⟩ a_rivetlaw23_shown),(Zag.T ad).kv,(Zby.T ad).kv,(Zbt.T ad).kv,(Zcb.T ad).kv,(Zbm.T ad).kv] t0 (fun n=>tl 4 ⟨[(0,Su),(5,SB),(6,Su),(7,Si),(8,Si)],[]⟩ (fun _=>l4 a_rivetlaw23_shown n) <| tn) t0 74 0 []
theorem q2(ad:LQ)(a_rivetlaw23_shown:Option (Bool×Unit)):(fun(n:Nat)=>sL P 6 sp (Q ad a_rivetlaw23_shown n),fun n=>EZ P 6 sp 74 (Q ad a_rivetlaw23_shown n))=(fun n=>sR P 6 sp (Q ad a_rivetlaw23_shown n),fun n=>ap sp.a.all (f a_rivetlaw23_shown n)):=by kernel_rfl
noncomputable def T(ad:LQ):=Sz ad 6 [] sp [Zbu.T ad,Zag.T ad,Zby.T ad,Zbt.T ad,Zcb.T ad,Zbm.T ad] t0 (fun n=>tl 4 ⟨[(0,Su),(5,SB),(6,Su),(7,Si),(8,Si)],[]⟩ (fun _=>l4 Zbu.g n) <| tn) t0 74 [] (fun n=>f Zbu.g n) (fun a b c d e i j _=>1000+a.toNat+b.toNat+c.toNat+d.toNat+e.toNat+i.toNat+j.toNat) (by kernel_rfl) (q2 ad Zbu.g)
end rivetlaw23_DisasmInstr
namespace rivetlaw23_DisasmSites
def sp:Spec:=af ⟨[(0,Sb),(1,Sb),(2,Sb)],[]⟩ ⟨[(0,SB)],[]⟩ g
def Q(ad:LQ)(a_rivetlaw23_shown:Option (Bool×Unit)):Nat->Env sp.r.T:=mF types maps [((9,[]),af ⟨[],[]⟩ ⟨[(0,SB)],[]⟩ a_rivetlaw23_shown),(Zax.T ad).kv,(Zbt.T ad).kv,(Zcb.T ad).kv,(Zbm.T ad).kv] (fun n=>tj 13 ⟨[(7,SB),(9,Si),(11,Sp 0 0),(12,Sp 1 0),(14,Si),(15,Sp 2 0),(16,Si),(17,Si),(18,Si)],[(some 2,c10),(some 3,c2),(some 5,c4)]⟩ (fun _=>j13 a_rivetlaw23_shown n) <| tn) t0 t0 108 0 []
theorem q2(ad:LQ)(a_rivetlaw23_shown:Option (Bool×Unit)):(fun(n:Nat)=>sL P 7 sp (Q ad a_rivetlaw23_shown n),fun n=>EZ P 7 sp 108 (Q ad a_rivetlaw23_shown n))=(fun n=>sR P 7 sp (Q ad a_rivetlaw23_shown n),fun n=>ap sp.a.all (f a_rivetlaw23_shown n)):=by kernel_rfl
noncomputable def T(ad:LQ):=Sz ad 7 [] sp [Zbu.T ad,Zax.T ad,Zbt.T ad,Zcb.T ad,Zbm.T ad] (fun n=>tj 13 ⟨[(7,SB),(9,Si),(11,Sp 0 0),(12,Sp 1 0),(14,Si),(15,Sp 2 0),(16,Si),(17,Si),(18,Si)],[(some 2,c10),(some 3,c2),(some 5,c4)]⟩ (fun _=>j13 Zbu.g n) <| tn) t0 t0 108 [] (fun n=>f Zbu.g n) (fun a b c=>1000+a.toNat+b.toNat+c.toNat) (by kernel_rfl) (q2 ad Zbu.g)
end rivetlaw23_DisasmSites
theorem rivetlaw23_DisasmInstr.sat:Sat P (LW ad) 6 rivetlaw23_DisasmInstr.sp:=(rivetlaw23_DisasmInstr.T ad).sat
theorem rivetlaw23_DisasmSites.sat:Sat P (LW ad) 7 rivetlaw23_DisasmSites.sp:=(rivetlaw23_DisasmSites.T ad).sat
end
end Rv
namespace Rv
open Go
theorem w64{x:Int}(h:-9223372036854775808<=x/\x<=9223372036854775807):IntKind.i64.wrap x=x:=IntWalk.i64_in _ h
theorem Uu{x:Int}(h:0<=x/\x<=4294967295):IntKind.u32.wrap x=x:=IntWalk.u32_in _ h
theorem w8u{x:Int}(h:0<=x/\x<=255):IntKind.u8.wrap x=x:=IntWalk.u8_in _ h
theorem yA{x:Int}(h:0<=x/\x<=18446744073709551615):IntKind.u64.wrap x=x:=IntWalk.u64_in _ h
theorem dt{p:Prop}[Decidable p]:(decide p=true)=p:=by simp
theorem df{p:Prop}[Decidable p]:(decide p=false)=¬p:=by simp
theorem uh(s:Str)(k:Nat):bt s (k:Int)=((s.getD k 0).toNat:Int):=rfl
theorem Qe(b:UInt8):(b.toNat:Int)<256:=by have:=b.toNat_lt;omega
theorem eY{s:Str}{k:Nat}(h:k<s.length):s.drop k=s.getD k 0::s.drop (k+1):=by
 rw[UX h];congr 1;simp[List.getD,h]
theorem kV(b:UInt8)(n:Nat)(hn:n<256):((b.toNat:Int)=(n:Int))=(b=UInt8.ofNat n):=by
 apply propext;constructor;·intro h;apply UInt8.toNat_inj.1;rw[UInt8.toNat_ofNat',Nat.mod_eq_of_lt hn];omega
 ·intro h;rw[h,UInt8.toNat_ofNat',Nat.mod_eq_of_lt hn]
theorem PE{n:Int}(h:(Lit.int .u8 n).wf=true):0<=n/\n<=255:=by
 simp[Lit.wf,IntKind.min,IntKind.max,IntKind.signed,IntKind.bits] at h;omega
theorem TY{n:Int}(h:(Lit.int .u32 n).wf=true):0<=n/\n<=4294967295:=by
 simp[Lit.wf,IntKind.min,IntKind.max,IntKind.signed,IntKind.bits] at h;omega
end Rv
namespace Rv
open Go
abbrev W32:=BitVec 32
theorem ofI(W:W32):BitVec.ofInt 32 (W.toNat:Int)=W:=by simp
theorem Tp(x:Int):IntKind.u32.wrap x=((BitVec.ofInt 32 x).toNat:Int):=by
 rw[IntKind.wrap_u32,BitVec.toNat_ofInt];omega
theorem Py(W:W32):IntKind.u32.wrap (W.toNat:Int)=(W.toNat:Int):=by rw[Tp,ofI]
theorem OG(A B:W32):aC .or .u32 (A.toNat:Int) (B.toNat:Int)=((A ||| B).toNat:Int):=by
 show IntKind.u32.wrap (((BitVec.ofInt 32 (A.toNat:Int) ||| BitVec.ofInt 32 (B.toNat:Int)).toNat:Nat):Int)=_;rw[ofI,ofI,Py]
theorem PI(A B:W32):aC .and .u32 (A.toNat:Int) (B.toNat:Int)=((A &&& B).toNat:Int):=by
 show IntKind.u32.wrap (((BitVec.ofInt 32 (A.toNat:Int) &&& BitVec.ofInt 32 (B.toNat:Int)).toNat:Nat):Int)=_;rw[ofI,ofI,Py]
theorem MZ(A B:W32):aC .andNot .u32 (A.toNat:Int) (B.toNat:Int)=((A &&& ~~~B).toNat:Int):=by
 show IntKind.u32.wrap (((BitVec.ofInt 32 (A.toNat:Int) &&& ~~~BitVec.ofInt 32 (B.toNat:Int)).toNat:Nat):Int)=_;rw[ofI,ofI,Py]
theorem Dn(A:W32)(b:Nat)(hb:b<=32):IntKind.u32.wrap ((A.toNat:Int)*2 ^ (min ((b:Int)).toNat IntKind.u32.bits))=((A <<< b).toNat:Int):=by
 have e:min ((b:Int)).toNat IntKind.u32.bits=b:=by show min ((b:Int)).toNat 32=b;omega
 grind [IntKind.wrap_u32,Nat.shiftLeft_eq]
theorem PT(A:W32)(b:Nat)(hb:b<=32):(A.toNat:Int).fdiv (2 ^ (min ((b:Int)).toNat IntKind.u32.bits))=((A >>> b).toNat:Int):=by
 have e:min ((b:Int)).toNat IntKind.u32.bits=b:=by show min ((b:Int)).toNat 32=b;omega
 grind [Nat.shiftRight_eq_div_pow]
def wF(W X:W32)(b p:Nat):W32:=(W &&& ~~~(1#32 <<< b)) ||| (((X >>> p) &&& 1#32) <<< b)
def gD(W X:W32)(a:Nat):Nat->W32
 |0=>W
 |k+1=>wF (gD W X a k) X (a+k) k
def gq(W:W32)(a:Nat):Nat->W32
 |0=>0
 |k+1=>gq W a k ||| (((W >>> (a+k)) &&& 1#32) <<< k)
theorem Rf(j:Nat):(1#32).getLsbD j=decide (j=0):=by
 grind
theorem Gq(W X:W32){b p:Nat}(hb:b<32){j:Nat}(hj:j<32):(wF W X b p).getLsbD j=if j=b then X.getLsbD p else W.getLsbD j:=by
 unfold wF
 grind
theorem yz(W X:W32){a:Nat}:∀{n:Nat},a+n<=32->∀{j:Nat},j<32->(gD W X a n).getLsbD j=if a<=j/\j<a+n then X.getLsbD (j-a) else W.getLsbD j
 |0,_,j,_=>by rw[if_neg (by omega)];rfl
 |n+1,h,j,hj=>by
  rw[gD,Gq _ _ (by omega) hj];by_cases e:j=a+n;·grind
  ·rw[if_neg e,yz W X (by omega) hj]
   grind
theorem gu(W:W32){a:Nat}:∀{n:Nat},n<=32->∀{j:Nat},j<32->(gq W a n).getLsbD j=(decide (j<n)&&W.getLsbD (a+j))
 |0,_,j,_=>by simp[gq]
 |n+1,h,j,hj=>by
  rw[gq,BitVec.getLsbD_or,gu W (by omega) hj,BitVec.getLsbD_shiftLeft,BitVec.getLsbD_and,BitVec.getLsbD_ushiftRight,Rf]
  grind
theorem qb{A B:W32}(h:∀j,j<32->A.getLsbD j=B.getLsbD j):A=B:=BitVec.eq_of_getLsbD_eq fun j hj=>h j hj
theorem Eb(W X:W32){a n b m:Nat}(h:a+n<=32)(h1:a<=b)(h2:b+m<=a+n):gq (gD W X a n) b m=gq X (b-a) m:=qb fun j hj=>by
 rw[gu _ (by omega) hj,gu _ (by omega) hj];by_cases e:j<m;·rw[yz _ _ h (by omega),if_pos (by omega),show b+j-a=b-a+j by omega]
 ·simp[e]
theorem QB(W X:W32){a n b m:Nat}(h:a+n<=32)(hb:b+m<=32)(h1:b+m<=a\/a+n<=b):gq (gD W X a n) b m=gq W b m:=qb fun j hj=>by
 rw[gu _ (by omega) hj,gu _ (by omega) hj];by_cases e:j<m;·rw[yz _ _ h (by omega),if_neg (by omega)]
 ·simp[e]
theorem NG(b m:Nat)(hm:m<=32):gq 0 b m=0:=qb fun j hj=>by
 grind [gu]
theorem QA{X:W32}{n:Nat}(hn:n<=32)(hx:X.toNat<2 ^ n):gq X 0 n=X:=qb fun j hj=>by
 rw[gu _ hn hj,Nat.zero_add];by_cases e:j<n;·simp[e]
 ·have:X.getLsbD j=false:=by
   show X.toNat.testBit j=false
   grind [Nat.testBit_lt_two_pow,Nat.lt_of_lt_of_le,Nat.pow_le_pow_right]
  simp[e,this]
theorem R9(W:W32)(a:Nat){n:Nat}(hn:n<=32):(gq W a n).toNat<2 ^ n:=by
 refine Nat.lt_pow_two_of_testBit _ fun j hj=>?_
 by_cases h:j<32
 ·have:=gu W (a:=a) hn h
  grind
 ·exact BitVec.getLsbD_of_ge _ _ (by omega)
theorem Rx(W X:W32){b p:Nat}(hb:b<32)(hp:p<32):Zdw.g (b:Int) (p:Int) (W.toNat:Int) (X.toNat:Int)=some (((wF W X b p).toNat:Int),(X.toNat:Int),()):=by
 unfold Zdw.g Zdw.f;have e1:(1:Int)=((1#32).toNat:Int):=rfl;rw[if_neg (by omega),if_neg (by omega),if_neg (by omega),PT X p (by omega),e1,Dn (1#32) b (by omega),PI,Dn _ b (by omega),MZ,OG];rfl
theorem Nw(n:Nat)(X W:W32){a c:Nat}(hc:1<=c)(h:a+c<=32):∀(m k:Nat),k<=c->c-k<m->Zcq.l2 n m (a:Int) (c:Int) ((a+k:Nat):Int) ((gD W X a k).toNat:Int) (X.toNat:Int)=some (((gD W X a c).toNat:Int),(X.toNat:Int),()):=by
 intro m
 induction m with
 |zero=>grind
 |succ m ih=>
  intro k hk hm;rw[Zcq.l2];simp only[dt];by_cases e:k=c
  ·subst e;by_cases e2:a+k<32
   ·rw[if_pos (by omega),if_neg (by rw[w64 (by omega)];omega)]
   grind
  ·rw[if_pos (by omega),w64 (by omega),if_pos (by omega),show((a+k:Nat):Int)-(a:Int)=(k:Int) by omega,Rx _ X (by omega) (by omega),Uv];dsimp only;rw[w64 (by omega),show((a+k:Nat):Int)+1=((a+(k+1):Nat):Int) by omega];exact ih (k+1) (by omega) (by omega)
theorem Ta(W X:W32){a c:Nat}(hc:1<=c)(h:a+c<=32):Zdx.g (W.toNat:Int) (a:Int) (c:Int) (X.toNat:Int)=some (((gD W X a c).toNat:Int),()):=by
 unfold Zdx.g Zdx.f Zcq.g Zcq.f;simp only[dt,df];rw[if_pos (by omega),if_pos (by omega),w64 (by omega),if_neg (by omega)];have hmx:mx (a:Int) 0=((a+0:Nat):Int):=by grind [mx]
 rw[hmx];have:=Nw (1000+((a:Int)).toNat+((c:Int)).toNat+((W.toNat:Int)).toNat+((X.toNat:Int)).toNat) X W hc h (1000+((a:Int)).toNat+((c:Int)).toNat+((W.toNat:Int)).toNat+((X.toNat:Int)).toNat) 0 (by omega) (by omega);simp_all [gD]
theorem Qz(O W:W32){b p:Nat}(hb:b<32)(hp:p<32):Zdu.g (b:Int) (p:Int) (O.toNat:Int) (W.toNat:Int)=some (((O ||| (((W >>> b) &&& 1#32) <<< p)).toNat:Int),(W.toNat:Int),()):=by
 unfold Zdu.g Zdu.f;have e1:(1:Int)=((1#32).toNat:Int):=rfl;rw[if_neg (by omega),if_neg (by omega),PT W b (by omega),e1,PI,Dn _ p (by omega),OG]
theorem Nv(n:Nat)(W:W32){a c:Nat}(hc:1<=c)(h:a+c<=32):∀(m k:Nat),k<=c->c-k<m->Zcp.l2 n m (a:Int) (c:Int) ((a+k:Nat):Int) ((gq W a k).toNat:Int) (W.toNat:Int)=some (((gq W a c).toNat:Int),(W.toNat:Int),()):=by
 intro m
 induction m with
 |zero=>grind
 |succ m ih=>
  intro k hk hm;rw[Zcp.l2];simp only[dt];by_cases e:k=c
  ·subst e;by_cases e2:a+k<32
   ·rw[if_pos (by omega),if_neg (by rw[w64 (by omega)];omega)]
   grind
  ·rw[if_pos (by omega),w64 (by omega),if_pos (by omega),show((a+k:Nat):Int)-(a:Int)=(k:Int) by omega,Qz _ W (by omega) (by omega),Uv];dsimp only;rw[w64 (by omega),show((a+k:Nat):Int)+1=((a+(k+1):Nat):Int) by omega];exact ih (k+1) (by omega) (by omega)
theorem R8(W:W32){a c:Nat}(hc:1<=c)(h:a+c<=32):Zdv.g (W.toNat:Int) (a:Int) (c:Int)=some (((gq W a c).toNat:Int),()):=by
 unfold Zdv.g Zdv.f Zcp.g Zcp.f;simp only[dt,df];rw[if_pos (by omega),if_pos (by omega),w64 (by omega),if_neg (by omega)];have hmx:mx (a:Int) 0=((a+0:Nat):Int):=by grind [mx]
 rw[hmx];have:=Nv (1000+((a:Int)).toNat+((c:Int)).toNat+((0:Int)).toNat+((W.toNat:Int)).toNat) W hc h (1000+((a:Int)).toNat+((c:Int)).toNat+((0:Int)).toNat+((W.toNat:Int)).toNat) 0 (by omega) (by omega);simp_all [gq]
end Rv
namespace Rv
open Go
def lC:W32->List (Nat×Nat×Int)->W32
 |W,[]=>W
 |W,(a,n,x)::r=>lC (gD W (BitVec.ofInt 32 x) a n) r
abbrev fld(f:Nat×Nat×Int):Int×Int×Int×Unit:=((f.1:Int),(f.2.1:Int),f.2.2,())
abbrev Ug:Int×Int×Int×Unit:=((0:Int),((0:Int),((0:Int),())))
theorem NW(n:Nat)(fs:List (Nat×Nat×Int))(hf:∀f∈fs,1<=f.2.1/\f.1+f.2.1<=32)(hl:fs.length<=1000):∀(m i:Nat) (W:W32),i<=fs.length->fs.length-i<m ->
  Zat.l3 n m (W.toNat:Int) (fs.map fld) ((fs.map fld).length:Int) (i:Int)=some (((lC W (fs.drop i)).toNat:Int),()):=by
 intro m
 induction m with
 |zero=>grind
 |succ m ih=>
  intro i W hi hm;rw[Zat.l3];simp only[dt,Vb];by_cases h:i<fs.length
  ·have hd:fs.drop i=fs[i]::fs.drop (i+1):=UX h;have hg:(fs.map fld).getD ((i:Int)).toNat Ug=fld fs[i]:=by
    grind
   obtain⟨h1,h2⟩:=hf fs[i] (Vg h);rw[if_pos (by omega),if_pos (by omega),if_pos (by decide),if_pos (by decide),if_pos (by decide),hg];have q1:∀x y z:Int,([x,y,z]:List Int).getD ((0:Int)).toNat 0=x:=fun _ _ _=>rfl
   have q2:∀x y z:Int,([x,y,z]:List Int).getD ((1:Int)).toNat 0=y:=fun _ _ _=>rfl
   have q3:∀x y z:Int,([x,y,z]:List Int).getD ((2:Int)).toNat 0=z:=fun _ _ _=>rfl
   rw[q1,q2,q3];dsimp only[fld];rw[Tp,Ta _ _ h1 h2,Uv];dsimp only;rw[w64 (by omega),show(i:Int)+1=((i+1:Nat):Int) by omega,hd];have:=ih (i+1) (gD W (BitVec.ofInt 32 fs[i].2.2) fs[i].1 fs[i].2.1) (by omega) (by omega);rw[Vb] at this;exact this
  ·rw[if_neg (by omega),List.drop_eq_nil_of_le (by omega)];rfl
theorem Sk(fs:List (Nat×Nat×Int))(hf:∀f∈fs,1<=f.2.1/\f.1+f.2.1<=32)(hl:fs.length<=1000)(l:List (Int×Int×Int×Unit))(e:l=fs.map fld):Zat.g l=some (((lC 0 fs).toNat:Int),()):=by
 subst e;unfold Zat.g Zat.f;have:=NW (1000+(fs.map fld).length) fs hf hl (1000+(fs.map fld).length) 0 0 (by omega) (by grind)
 grind
def hdN(f:Nat)(u v:Bool):Nat:=f*4+(if u then 2 else 0)+(if v then 1 else 0)
theorem lq(f:Nat)(hf:f<4)(u v:Bool):Zbi.g (f:Int) u v=some (28,4,(hdN f u v:Int),()):=by
 have:∀f:Nat,f<4->∀u v:Bool,Zbi.g (f:Int) u v=some (28,4,(hdN f u v:Int),()):=by decide +kernel
 grind
def gp(k o a b c i:Int)(u:Bool):List (Nat×Nat×Int):=
 if k=1 then[(28,4,(hdN 0 u false:Int)),(24,4,a),(20,4,b),(16,4,o),(0,4,c)] else
 if k=3\/k=4 then[(28,4,(hdN 0 true (decide (k=4)):Int)),(24,4,a)] else
 if k=2 then[(28,4,(hdN 1 u (decide (i<0)):Int)),(24,4,a),(20,4,b),(16,4,o),(0,16,i)] else
 if k=5 then[(28,4,(hdN 2 (decide (2<=o)) (decide (Int.tmod o 2=1)):Int)),(24,4,a),(20,4,b),(0,20,i)] else
 if k=6 then[(28,4,(hdN 3 false u:Int)),(24,4,o),(0,4,c)] else
 [(28,4,(hdN 3 true u:Int)),(24,4,o),(0,24,i)]
theorem GH(k o a b c i:Int)(u:Bool):(∀f∈gp k o a b c i u,1<=f.2.1/\f.1+f.2.1<=32)/\(gp k o a b c i u).length<=1000:=by
 unfold gp
 grind
def aQ(k o a b c i:Int)(u:Bool):W32:=lC 0 (gp k o a b c i u)
theorem nP(k o a b c i:Int)(u:Bool)(l:List (Int×Int×Int×Unit))(e:l=(gp k o a b c i u).map fld):Zat.g l=some (((aQ k o a b c i u).toNat:Int),()):=
 Sk _ (GH k o a b c i u).1 (GH k o a b c i u).2 l e
theorem lu(k o a b c i:Int)(u:Bool):Zbj.g k o a b c i u=some (((aQ k o a b c i u).toNat:Int),()):=by
 have J:∀n,k≠1->k≠2->k≠3->k≠4->k≠5->k≠6->Zbj.j14 n k o a b c i u 24 4 o=some (((aQ k o a b c i u).toNat:Int),()):=fun n h1 h2 h3 h4 h5 h6=>by
  unfold Zbj.j14;rw[show(3:Int)=((3:Nat):Int) from rfl,lq 3 (by decide),Uv,nP k o a b c i u _ (by grind [gp]),Uv]
 unfold Zbj.g;generalize 1000+k.toNat+o.toNat+a.toNat+b.toNat+c.toNat+i.toNat=n;unfold Zbj.f;simp only[dt];have e0:(0:Int)=((0:Nat):Int):=rfl;by_cases h1:k=1;·rw[if_pos h1];have:=lq 0 (by decide) u false;rw[show((0:Nat):Int)=0 from rfl] at this;rw[this,Uv,nP k o a b c i u _ (by unfold gp;simp[h1]),Uv]
 ·rw[if_neg h1];have h0:=lq 0 (by decide) true (decide (k=4));rw[show((0:Nat):Int)=0 from rfl] at h0;have g2:=lq 1 (by decide) u (decide (i<0));rw[show((1:Nat):Int)=1 from rfl] at g2;have g5:=lq 2 (by decide) (decide (2<=o)) (decide (Int.tmod o 2=1));rw[show((2:Nat):Int)=2 from rfl] at g5;have g6:=lq 3 (by decide) false u;rw[show((3:Nat):Int)=3 from rfl] at g6;rw[h0,g2,g5,g6];simp only[Uv];by_cases h3:k=3
  ·rw[if_pos h3,if_pos h3,nP k o a b c i u _ (by unfold gp;simp[h3]),Uv]
  ·rw[if_neg h3];by_cases h4:k=4
   ·rw[if_pos h4,nP k o a b c i u _ (by unfold gp;simp[h4]),Uv]
   ·rw[if_neg h4];by_cases h2:k=2
    ·rw[if_pos h2,nP k o a b c i u _ (by unfold gp;simp[h2]),Uv]
    ·rw[if_neg h2];by_cases h5:k=5
     ·rw[if_pos h5,nP k o a b c i u _ (by unfold gp;simp[h5]),Uv]
     ·rw[if_neg h5];by_cases h6:k=6
      ·rw[if_pos h6,nP k o a b c i u _ (by unfold gp;simp[h6]),Uv]
      grind
abbrev Gn(W:W32)(a n:Nat):Int:=((gq W a n).toNat:Int)
theorem gy(W:W32)(a:Nat){n:Nat}(hn:n<=32):0<=Gn W a n/\Gn W a n<2 ^ n:=by
 have:=R9 W a hn
 grind
theorem jk(W:W32)(a n:Nat)(hn:1<=n)(h:a+n<=32):Zav.g (a:Int) (n:Int) (W.toNat:Int)=some (Gn W a n,()):=by
 unfold Zav.g Zav.f;rw[R8 W hn h,Uv];dsimp only;have:=gy W a (n:=n) (by omega);have h32:(gq W a n).toNat<2 ^ 32:=(gq W a n).isLt;rw[w64 (by omega)]
def sgV(W:W32)(n:Nat):Int:=IntKind.i64.wrap ((IntKind.i32.wrap ((W <<< (32-n)).toNat:Int)).fdiv (2 ^ (32-n)))
theorem Cx(W:W32)(n:Nat)(h:1<=n)(h2:n<=32):Zdf.g (W.toNat:Int) (n:Int)=some (sgV W n,()):=by
 unfold Zdf.g Zdf.f Zen.g Zen.f;have hk:mn (mx (n:Int) 1) 32=(n:Int):=by grind [mn,mx]
 rw[hk,Uv];dsimp only;rw[w64 (by omega),show(32:Int)-(n:Int)=((32-n:Nat):Int) by omega,if_neg (by omega),if_neg (by omega),Dn W (32-n) (by omega)];have e:min (((32-n:Nat):Int)).toNat IntKind.i32.bits=32-n:=by show min (((32-n:Nat):Int)).toNat 32=_;omega
 rw[e];rfl
theorem H8{W:W32}{n:Nat}(h:n<=32)(h0:gq W 0 n=0):sgV W n=0:=by
 have:W <<< (32-n)=0:=qb fun j hj=>by
  rw[BitVec.getLsbD_shiftLeft];by_cases e:j<32-n;·simp[e]
  ·have:=congrArg (fun V:W32=>V.getLsbD (j-(32-n))) h0;simp only[gu W h (show j-(32-n)<32 by omega)] at this
   grind
 unfold sgV;rw[this];show IntKind.i64.wrap ((IntKind.i32.wrap 0).fdiv (2 ^ (32-n)))=0;rw[show IntKind.i32.wrap 0=0 from rfl,Int.zero_fdiv];rfl
def bL(W:W32):Int×Int×Int×Int×Int×Int×Bool×Unit:=
 if Gn W 30 2=0 then
  (if Gn W 29 1=1/\Gn W 16 4=0 then(3+Gn W 28 1,0,Gn W 24 4,0,0,0,false,()) else(1,Gn W 16 4,Gn W 24 4,Gn W 20 4,Gn W 0 4,0,decide (Gn W 29 1=1),()))
 else if Gn W 30 2=1 then(2,Gn W 16 4,Gn W 24 4,Gn W 20 4,0,Gn W 0 16-Gn W 28 1*65536,decide (Gn W 29 1=1),())
 else if Gn W 30 2=2 then(5,Gn W 29 1*2+Gn W 28 1,Gn W 24 4,Gn W 20 4,0,sgV W 20,false,())
 else if Gn W 29 1=1 then(7,Gn W 24 4,0,0,0,sgV W 24,decide (Gn W 28 1=1),())
 else(6,Gn W 24 4,0,0,Gn W 0 4,0,decide (Gn W 28 1=1),())
theorem nL(W:W32):Zbc.g (W.toNat:Int)=some (bL W):=by
 unfold Zbc.g Zbc.f;have r1:=jk W 29 1 (by decide) (by decide);have r2:=jk W 28 1 (by decide) (by decide);have r3:=jk W 24 4 (by decide) (by decide);have r4:=jk W 20 4 (by decide) (by decide);have r5:=jk W 16 4 (by decide) (by decide);have r6:=jk W 30 2 (by decide) (by decide);have r7:=jk W 0 4 (by decide) (by decide);have r8:=jk W 0 16 (by decide) (by decide);have s1:=Cx W 20 (by decide) (by decide);have s2:=Cx W 24 (by decide) (by decide);have b1:=gy W 29 (n:=1) (by decide);have b2:=gy W 28 (n:=1) (by decide);have b8:=gy W 0 (n:=16) (by decide);have p16:IntKind.i64.wrap (Gn W 28 1*2 ^ (min (16:Int).toNat IntKind.i64.bits))=Gn W 28 1*65536:=by
  show IntKind.i64.wrap (Gn W 28 1*65536)=_;rw[w64 (by omega)]
 simp only[Int.cast_ofNat_Int] at r1 r2 r3 r4 r5 r6 r7 r8 s1 s2;simp only[r1,r2,r3,r4,r5,r6,r7,r8,s1,s2,Uv,dt,Zbc.j16,p16];unfold bL;by_cases h1:Gn W 30 2=0
 ·rw[if_pos h1,if_pos h1];by_cases h2:Gn W 29 1=1
  ·rw[if_pos h2];by_cases h3:Gn W 16 4=0
   ·rw[if_pos h3,if_pos ⟨h2,h3⟩,w64 (by omega)]
   grind
  grind
 ·rw[if_neg h1,if_neg h1];by_cases h2:Gn W 30 2=1
  ·rw[if_pos h2,if_pos h2,w64 (by omega)]
  ·rw[if_neg h2,if_neg h2];by_cases h3:Gn W 30 2=2
   ·rw[if_pos h3,if_pos h3,w64 (x:=Gn W 29 1*2) (by omega),w64 (by omega)]
   grind
theorem aD(W X:W32){a n b m:Nat}(h:a+n<=32)(hb:b+m<=32)(h1:b+m<=a\/a+n<=b):Gn (gD W X a n) b m=Gn W b m:=by simp_all [Gn,QB]
theorem Df(W:W32){x:Int}{a n:Nat}(h:a+n<=32)(hx:0<=x/\x<2 ^ n):Gn (gD W (BitVec.ofInt 32 x) a n) a n=x:=by
 have h1:(2:Int) ^ n=((2 ^ n:Nat):Int):=by grind
 have h2:2 ^ n<=2 ^ 32:=Nat.pow_le_pow_right (by decide) (by omega);have h3:(BitVec.ofInt 32 x).toNat=x.toNat:=by
  grind
 unfold Gn;rw[Eb W _ h (Uz _) (Uz _),Nat.sub_self,QA (by omega) (by grind),h3];omega
theorem iy(W:W32){x:Int}{a:Nat}(h:a+4<=32)(hx:0<=x/\x<16):Gn (gD W (BitVec.ofInt 32 x) a 4) a 4=x:=Df W h hx
theorem bE(W X:W32){a n b m:Nat}(h:a+n<=32)(h1:a<=b)(h2:b+m<=a+n):Gn (gD W X a n) b m=Gn X (b-a) m:=by simp_all [Gn,Eb]
theorem QC(b m:Nat)(hm:m<=32):Gn 0 b m=0:=by unfold Gn;rw[NG b m hm];rfl
theorem mO:∀f:Nat,f<4->∀u v:Bool,Gn (BitVec.ofInt 32 (hdN f u v:Int)) 2 2=f/\Gn (BitVec.ofInt 32 (hdN f u v:Int)) 1 1=(if u then 1 else 0)/\Gn (BitVec.ofInt 32 (hdN f u v:Int)) 0 1=(if v then 1 else 0):=by decide +kernel
def rg(x:Int):Prop:=0<=x/\x<16
inductive bB:Int->Int->Int->Int->Int->Bool->Prop
 |reg {o a b c:Int} {u:Bool}:0<o->o<12->rg a->rg b->rg c->(u=true->8<=o/\o<=10)->bB 1 o a b c u
 |mov {a c:Int}:rg a->rg c->bB 1 0 a 0 c false
 |imm {o a b:Int} {u:Bool}:0<o->o<12->rg a->rg b->(u=true->8<=o/\o<=10)->bB 2 o a b 0 u
 |movi {a:Int} {u:Bool}:rg a->bB 2 0 a 0 0 u
 |hi {a:Int}:rg a->bB 3 0 a 0 0 false
 |fl {a:Int}:rg a->bB 4 0 a 0 0 false
 |mem {o a b:Int}:0<=o->o<4->rg a->rg b->bB 5 o a b 0 false
 |br {o c:Int} {u:Bool}:rg o->rg c->bB 6 o 0 0 c u
 |jmp {o:Int} {u:Bool}:rg o->bB 7 o 0 0 0 u
theorem EP{o a b c:Int}{u:Bool}(ho:rg o)(ha:rg a)(hb:rg b)(hc:rg c)(hu:u=true->o≠0):bL (aQ 1 o a b c 0 u)=(1,o,a,b,c,0,u,()):=by
 obtain⟨h1,h2,h3⟩:=mO 0 (by decide) u false;generalize hW:aQ 1 o a b c 0 u=W;unfold aQ gp at hW;rw[if_pos rfl] at hW;simp only[lC] at hW;have w1:Gn W 30 2=0:=by grind [aD,bE]
 have w2:Gn W 29 1=if u then 1 else 0:=by grind [aD,bE]
 have w3:Gn W 24 4=a:=by rw[<- hW,aD _ _ (by decide) (by decide) (by decide),aD _ _ (by decide) (by decide) (by decide),aD _ _ (by decide) (by decide) (by decide),iy _ (by decide) ha]
 have w4:Gn W 20 4=b:=by rw[<- hW,aD _ _ (by decide) (by decide) (by decide),aD _ _ (by decide) (by decide) (by decide),iy _ (by decide) hb]
 have w5:Gn W 16 4=o:=by rw[<- hW,aD _ _ (by decide) (by decide) (by decide),iy _ (by decide) ho]
 have w6:Gn W 0 4=c:=by rw[<- hW,iy _ (by decide) hc]
 simp_all [bL]
theorem EO{o a b:Int}{u:Bool}(ho:rg o)(ha:rg a)(hb:rg b):bL (aQ 2 o a b 0 0 u)=(2,o,a,b,0,0,u,()):=by
 obtain⟨h1,h2,h3⟩:=mO 1 (by decide) u false;generalize hW:aQ 2 o a b 0 0 u=W;unfold aQ gp at hW;rw[if_neg (by decide),if_neg (by decide),if_pos rfl] at hW;simp only[lC] at hW;rw[show decide ((0:Int)<0)=false from rfl] at hW;have w1:Gn W 30 2=1:=by grind [aD,bE]
 have w2:Gn W 29 1=if u then 1 else 0:=by grind [aD,bE]
 have w7:Gn W 28 1=0:=by grind [aD,bE]
 have w3:Gn W 24 4=a:=by rw[<- hW,aD _ _ (by decide) (by decide) (by decide),aD _ _ (by decide) (by decide) (by decide),aD _ _ (by decide) (by decide) (by decide),iy _ (by decide) ha]
 have w4:Gn W 20 4=b:=by rw[<- hW,aD _ _ (by decide) (by decide) (by decide),aD _ _ (by decide) (by decide) (by decide),iy _ (by decide) hb]
 have w5:Gn W 16 4=o:=by rw[<- hW,aD _ _ (by decide) (by decide) (by decide),iy _ (by decide) ho]
 have w6:Gn W 0 16=0:=by rw[<- hW,Df _ (by decide) (by decide)]
 unfold bL
 grind
theorem H6{k a:Int}(hk:k=3\/k=4)(ha:rg a):bL (aQ k 0 a 0 0 0 false)=(k,0,a,0,0,0,false,()):=by
 obtain⟨h1,h2,h3⟩:=mO 0 (by decide) true (decide (k=4));generalize hW:aQ k 0 a 0 0 0 false=W;unfold aQ gp at hW;rw[if_neg (by omega),if_pos hk] at hW;simp only[lC] at hW;have w1:Gn W 30 2=0:=by grind [aD,bE]
 have w2:Gn W 29 1=1:=by grind [aD,bE]
 have w7:Gn W 28 1=if decide (k=4) then 1 else 0:=by grind [aD,bE]
 have w3:Gn W 24 4=a:=by rw[<- hW,iy _ (by decide) ha]
 have w5:Gn W 16 4=0:=by grind [aD,QC]
 unfold bL
 grind
theorem O0{o a b:Int}(ho:0<=o/\o<4)(ha:rg a)(hb:rg b):bL (aQ 5 o a b 0 0 false)=(5,o,a,b,0,0,false,()):=by
 obtain⟨h1,h2,h3⟩:=mO 2 (by decide) (decide (2<=o)) (decide (Int.tmod o 2=1));generalize hW:aQ 5 o a b 0 0 false=W;unfold aQ gp at hW;rw[if_neg (by decide),if_neg (by decide),if_neg (by decide),if_pos rfl] at hW;simp only[lC] at hW;have w1:Gn W 30 2=2:=by grind [aD,bE]
 have w2:Gn W 29 1=if decide (2<=o) then 1 else 0:=by grind [aD,bE]
 have w7:Gn W 28 1=if decide (Int.tmod o 2=1) then 1 else 0:=by grind [aD,bE]
 have w3:Gn W 24 4=a:=by rw[<- hW,aD _ _ (by decide) (by decide) (by decide),aD _ _ (by decide) (by decide) (by decide),iy _ (by decide) ha]
 have w4:Gn W 20 4=b:=by rw[<- hW,aD _ _ (by decide) (by decide) (by decide),iy _ (by decide) hb]
 have w6:sgV W 20=0:=H8 (by decide) (by
  rw[<- hW];have:=Df (x:=0) (a:=0) (n:=20) (gD (gD (gD 0 (BitVec.ofInt 32 ((hdN 2 (decide (2<=o)) (decide (Int.tmod o 2=1)):Nat):Int)) 28 4) (BitVec.ofInt 32 a) 24 4) (BitVec.ofInt 32 b) 20 4) (by decide) (by decide);exact BitVec.eq_of_toNat_eq (by grind))
 have:o=0\/o=1\/o=2\/o=3:=by omega
 unfold bL
 grind
theorem Ru{o c:Int}{u:Bool}(ho:rg o)(hc:rg c):bL (aQ 6 o 0 0 c 0 u)=(6,o,0,0,c,0,u,()):=by
 obtain⟨h1,h2,h3⟩:=mO 3 (by decide) false u;generalize hW:aQ 6 o 0 0 c 0 u=W;unfold aQ gp at hW;rw[if_neg (by decide),if_neg (by decide),if_neg (by decide),if_neg (by decide),if_pos rfl] at hW;simp only[lC] at hW;have w1:Gn W 30 2=3:=by grind [aD,bE]
 have w2:Gn W 29 1=0:=by grind [aD,bE]
 have w7:Gn W 28 1=if u then 1 else 0:=by grind [aD,bE]
 have w3:Gn W 24 4=o:=by rw[<- hW,aD _ _ (by decide) (by decide) (by decide),iy _ (by decide) ho]
 have w6:Gn W 0 4=c:=by rw[<- hW,iy _ (by decide) hc]
 unfold bL
 grind
theorem OZ{o:Int}{u:Bool}(ho:rg o):bL (aQ 7 o 0 0 0 0 u)=(7,o,0,0,0,0,u,()):=by
 obtain⟨h1,h2,h3⟩:=mO 3 (by decide) true u;generalize hW:aQ 7 o 0 0 0 0 u=W;unfold aQ gp at hW;rw[if_neg (by decide),if_neg (by decide),if_neg (by decide),if_neg (by decide),if_neg (by decide)] at hW;simp only[lC] at hW;have w1:Gn W 30 2=3:=by grind [aD,bE]
 have w2:Gn W 29 1=1:=by grind [aD,bE]
 have w7:Gn W 28 1=if u then 1 else 0:=by grind [aD,bE]
 have w3:Gn W 24 4=o:=by rw[<- hW,aD _ _ (by decide) (by decide) (by decide),iy _ (by decide) ho]
 have w6:sgV W 24=0:=H8 (by decide) (by
  rw[<- hW];have:=Df (x:=0) (a:=0) (n:=24) (gD (gD 0 (BitVec.ofInt 32 ((hdN 3 true u:Nat):Int)) 28 4) (BitVec.ofInt 32 o) 24 4) (by decide) (by decide);exact BitVec.eq_of_toNat_eq (by grind))
 simp_all [bL]
theorem kz{k o a b c:Int}{u:Bool}(h:bB k o a b c u):bL (aQ k o a b c 0 u)=(k,o,a,b,c,0,u,()):=by
 have z:rg 0:=⟨by decide,by decide⟩
 cases h with
 |reg h1 h2 ha hb hc hu=>exact EP ⟨by omega,by omega⟩ ha hb hc (fun _=>by omega)
 |mov ha hc=>grind [EP]
 |imm h1 h2 ha hb hu=>exact EO ⟨by omega,by omega⟩ ha hb
 |movi ha=>exact EO z ha z
 |hi ha=>exact H6 (.inl rfl) ha
 |fl ha=>exact H6 (.inr rfl) ha
 |mem h1 h2 ha hb=>grind [O0]
 |br ho hc=>exact Ru ho hc
 |jmp ho=>exact OZ ho
theorem cZ(n l h:Int):Zcv.g n l h=some (decide (l<=n)&&decide (n<=h),()):=by
 unfold Zcv.g Zcv.f
 grind
theorem jf{k o a b c:Int}{u:Bool}(h:bB k o a b c u):1<=k/\k<=7/\0<=o/\o<=15:=by
 cases h<;>refine⟨by decide,by decide,?_,?_⟩<;>first|decide|omega|(rename_i h _;exact h.1)|(rename_i h _;have:=h.2;omega)|(rename_i h;exact h.1)|(rename_i h;have:=h.2;omega)
theorem Ei{k o a b c:Int}{u:Bool}(h:bB k o a b c u):Zam.g k o a b c 0 u=some (true,()):=by
 have hr:=kz h;have hk:=jf h;unfold Zam.g;generalize 1000+k.toNat+o.toNat+a.toNat+b.toNat+c.toNat+(0:Int).toNat=n;unfold Zam.f;rw[cZ,Uv];dsimp only;rw[decide_eq_true hk.1,decide_eq_true hk.2.1,if_pos (by decide),cZ,Uv];dsimp only;rw[decide_eq_true hk.2.2.1,decide_eq_true hk.2.2.2,if_pos (by decide),lu,Uv];dsimp only;rw[nL,Uv,hr];dsimp only;rw[if_neg (by simp)];simp only[dt,df,Zam.j10,cZ,Uv];cases h with
 |reg h1 h2 ha hb hc hu=>
  grind
 |mov ha hc=>rfl
 |imm h1 h2 ha hb hu=>
  grind
 |movi ha=>cases u<;>rfl
 |hi ha=>rfl
 |fl ha=>rfl
 |mem h1 h2 ha hb=>rfl
 |br ho hc=>rfl
 |jmp ho=>rfl
theorem Gl(W:W32):rg (bL W).2.2.1/\rg (bL W).2.2.2.1/\rg (bL W).2.2.2.2.1:=by
 have z:rg 0:=⟨by decide,by decide⟩
 have a:∀p,rg (Gn W p 4):=fun p=>gy W p (n:=4) (by decide)
 grind [bL]
theorem BN(k o a b c i:Int)(u:Bool):∃r,Zam.g k o a b c i u=some (r,())/\(r=true->(1<=k/\k<=7)/\rg a/\rg b/\rg c):=by
 unfold Zam.g;generalize 1000+k.toNat+o.toNat+a.toNat+b.toNat+c.toNat+i.toNat=n;unfold Zam.f;rw[cZ,Uv];dsimp only;by_cases hk:1<=k/\k<=7
 case neg=>rw[if_neg (by simp;omega)];grind
 rw[if_pos (by simp[hk]),cZ,Uv];dsimp only;by_cases ho:0<=o/\o<=15
 case neg=>rw[if_neg (by simp;omega)];grind
 rw[if_pos (by simp[ho]),lu,Uv];dsimp only;rw[nL,Uv];obtain⟨r1,r2,r3⟩:=Gl (aQ k o a b c i u);generalize bL (aQ k o a b c i u)=y at *;split;·grind
 ·rename_i he;simp only[Bool.not_eq_true',Bool.not_eq_false,UB,UE] at he;have hg:(1<=k/\k<=7)/\rg a/\rg b/\rg c:=⟨hk,he.2.2.1 ▸ r1,he.2.2.2.1 ▸ r2,he.2.2.2.2.1 ▸ r3⟩
  simp only[dt,df,Zam.j10,cZ,Uv]
  grind
end Rv
namespace Rv
open Go
theorem I6{k o a b c:Int}{u:Bool}(h:bB k o a b c u):rg a/\rg b/\rg c:=by
 have z:rg 0:=⟨by decide,by decide⟩
 cases h<;>refine⟨?_,?_,?_⟩<;>assumption
def I0P(k o a b c:Int)(u:Bool):Prop:=
 (k=1/\0<o/\o<12/\(u=true->8<=o/\o<=10))\/(k=1/\o=0/\b=0/\u=false)\/(k=2/\0<o/\o<12/\c=0/\(u=true->8<=o/\o<=10))\/(k=2/\o=0/\b=0/\c=0) \/
 (k=3/\o=0/\b=0/\c=0/\u=false)\/(k=4/\o=0/\b=0/\c=0/\u=false)\/(k=5/\0<=o/\o<4/\c=0/\u=false)\/(k=6/\0<=o/\o<16/\a=0/\b=0)\/(k=7/\0<=o/\o<16/\a=0/\b=0/\c=0)
instance (k o a b c:Int) (u:Bool):Decidable (I0P k o a b c u):=by unfold I0P;infer_instance
theorem GN{k o a b c:Int}{u:Bool}(ha:rg a)(hb:rg b)(hc:rg c):bB k o a b c u↔I0P k o a b c u:=by
 constructor
 ·intro h;unfold I0P;cases h with
  |reg h1 h2 _ _ _ h3=>exact .inl ⟨rfl,h1,h2,h3⟩
  |mov _ _=>exact .inr (.inl ⟨rfl,rfl,rfl,rfl⟩)
  |imm h1 h2 _ _ h3=>exact .inr (.inr (.inl ⟨rfl,h1,h2,rfl,h3⟩))
  |movi _=>exact .inr (.inr (.inr (.inl ⟨rfl,rfl,rfl,rfl⟩)))
  |hi _=>exact .inr (.inr (.inr (.inr (.inl ⟨rfl,rfl,rfl,rfl,rfl⟩))))
  |fl _=>exact .inr (.inr (.inr (.inr (.inr (.inl ⟨rfl,rfl,rfl,rfl,rfl⟩)))))
  |mem h1 h2 _ _=>exact .inr (.inr (.inr (.inr (.inr (.inr (.inl ⟨rfl,h1,h2,rfl,rfl⟩))))))
  |br h _=>exact .inr (.inr (.inr (.inr (.inr (.inr (.inr (.inl ⟨rfl,h.1,h.2,rfl,rfl⟩)))))))
  |jmp h=>exact .inr (.inr (.inr (.inr (.inr (.inr (.inr (.inr ⟨rfl,h.1,h.2,rfl,rfl,rfl⟩)))))))
 ·intro h;unfold I0P at h;rcases h with⟨rfl,h1,h2,h3⟩|⟨rfl,rfl,rfl,rfl⟩|⟨rfl,h1,h2,rfl,h3⟩|⟨rfl,rfl,rfl,rfl⟩|⟨rfl,rfl,rfl,rfl,rfl⟩|⟨rfl,rfl,rfl,rfl,rfl⟩|⟨rfl,h1,h2,rfl,rfl⟩|⟨rfl,h1,h2,rfl,rfl⟩|⟨rfl,h1,h2,rfl,rfl,rfl⟩
  ·exact .reg h1 h2 ha hb hc h3
  ·exact .mov ha hc
  ·exact .imm h1 h2 ha hb h3
  ·exact .movi ha
  ·exact .hi ha
  ·exact .fl ha
  ·exact .mem h1 h2 ha hb
  ·exact .br ⟨h1,h2⟩ hc
  ·exact .jmp ⟨h1,h2⟩
end Rv
namespace Rv
open Go
def gG(k o i:Int)(u:Bool):Prop:=
 (k=2/\-65536<=i/\i<=65535/\(o=0->u=true->0<=i))\/(k=5/\-524288<=i/\i<=524287)\/(k=7/\-8388608<=i/\i<=8388607)\/(k≠2/\k≠5/\k≠7/\i=0)
instance (k o i:Int) (u:Bool):Decidable (gG k o i u):=by unfold gG;infer_instance
theorem Am(W:W32){n:Nat}(hn:n<=32):(gq W 0 n).toNat=W.toNat % 2 ^ n:=by
 refine Nat.eq_of_testBit_eq fun j=>?_
 rw[Nat.testBit_mod_two_pow];by_cases hj:j<32
 ·have:=gu W (a:=0) hn hj
  grind
 ·have h1:(gq W 0 n).toNat.testBit j=false:=BitVec.getLsbD_of_ge _ _ (by omega)
  grind
theorem Ec(W:W32)(i:Int){n:Nat}(hn:n<=32):Gn (gD W (BitVec.ofInt 32 i) 0 n) 0 n=i % 2 ^ n:=by
 unfold Gn;rw[Eb W _ (by omega) (Uz _) (Uz _),Nat.sub_self,Am _ hn,BitVec.toNat_ofInt];have e:((2 ^ n:Nat):Int)=2 ^ n:=by grind
 have e2:((2 ^ 32:Nat):Int)=2 ^ 32:=rfl;rw[Int.natCast_emod,Int.toNat_of_nonneg (Int.emod_nonneg _ (by decide)),e];refine Int.emod_emod_of_dvd i ?_;obtain⟨d,hd⟩:=Nat.exists_eq_add_of_le hn;simp_all [Int.pow_add]
theorem Tc(W:W32):sgV W 20=if Gn W 0 20<524288 then Gn W 0 20 else Gn W 0 20-1048576:=by
 unfold sgV Gn
 grind [Am,Nat.shiftLeft_eq,IntKind.wrap_i32,IntKind.wrap_i64]
theorem Td(W:W32):sgV W 24=if Gn W 0 24<8388608 then Gn W 0 24 else Gn W 0 24-16777216:=by
 unfold sgV Gn
 grind [Am,Nat.shiftLeft_eq,IntKind.wrap_i32,IntKind.wrap_i64]
theorem Ck{o a b i:Int}{u:Bool}(ho:rg o)(ha:rg a)(hb:rg b)(hi:-65536<=i/\i<=65535):bL (aQ 2 o a b 0 i u)=(2,o,a,b,0,i,u,()):=by
 obtain⟨h1,h2,h3⟩:=mO 1 (by decide) u (decide (i<0));generalize hW:aQ 2 o a b 0 i u=W;unfold aQ gp at hW;rw[if_neg (by decide),if_neg (by decide),if_pos rfl] at hW;simp only[lC] at hW;have w1:Gn W 30 2=1:=by grind [aD,bE]
 have w2:Gn W 29 1=if u then 1 else 0:=by grind [aD,bE]
 have w7:Gn W 28 1=if decide (i<0) then 1 else 0:=by grind [aD,bE]
 have w3:Gn W 24 4=a:=by rw[<- hW,aD _ _ (by decide) (by decide) (by decide),aD _ _ (by decide) (by decide) (by decide),aD _ _ (by decide) (by decide) (by decide),iy _ (by decide) ha]
 have w4:Gn W 20 4=b:=by rw[<- hW,aD _ _ (by decide) (by decide) (by decide),aD _ _ (by decide) (by decide) (by decide),iy _ (by decide) hb]
 have w5:Gn W 16 4=o:=by rw[<- hW,aD _ _ (by decide) (by decide) (by decide),iy _ (by decide) ho]
 have w6:Gn W 0 16=i % 65536:=by grind [Ec]
 unfold bL
 grind
theorem LY{o a b i:Int}(ho:0<=o/\o<4)(ha:rg a)(hb:rg b)(hi:-524288<=i/\i<=524287):bL (aQ 5 o a b 0 i false)=(5,o,a,b,0,i,false,()):=by
 obtain⟨h1,h2,h3⟩:=mO 2 (by decide) (decide (2<=o)) (decide (Int.tmod o 2=1));generalize hW:aQ 5 o a b 0 i false=W;unfold aQ gp at hW;rw[if_neg (by decide),if_neg (by decide),if_neg (by decide),if_pos rfl] at hW;simp only[lC] at hW;have w1:Gn W 30 2=2:=by grind [aD,bE]
 have w2:Gn W 29 1=if decide (2<=o) then 1 else 0:=by grind [aD,bE]
 have w7:Gn W 28 1=if decide (Int.tmod o 2=1) then 1 else 0:=by grind [aD,bE]
 have w3:Gn W 24 4=a:=by rw[<- hW,aD _ _ (by decide) (by decide) (by decide),aD _ _ (by decide) (by decide) (by decide),iy _ (by decide) ha]
 have w4:Gn W 20 4=b:=by rw[<- hW,aD _ _ (by decide) (by decide) (by decide),iy _ (by decide) hb]
 have w6:sgV W 20=i:=by
  have e:Gn W 0 20=i % 1048576:=by grind [Ec]
  grind [Tc]
 have:o=0\/o=1\/o=2\/o=3:=by omega
 unfold bL
 grind
theorem LX{o i:Int}{u:Bool}(ho:rg o)(hi:-8388608<=i/\i<=8388607):bL (aQ 7 o 0 0 0 i u)=(7,o,0,0,0,i,u,()):=by
 obtain⟨h1,h2,h3⟩:=mO 3 (by decide) true u;generalize hW:aQ 7 o 0 0 0 i u=W;unfold aQ gp at hW;rw[if_neg (by decide),if_neg (by decide),if_neg (by decide),if_neg (by decide),if_neg (by decide)] at hW;simp only[lC] at hW;have w1:Gn W 30 2=3:=by grind [aD,bE]
 have w2:Gn W 29 1=1:=by grind [aD,bE]
 have w7:Gn W 28 1=if u then 1 else 0:=by grind [aD,bE]
 have w3:Gn W 24 4=o:=by rw[<- hW,aD _ _ (by decide) (by decide) (by decide),iy _ (by decide) ho]
 have w6:sgV W 24=i:=by
  have e:Gn W 0 24=i % 16777216:=by grind [Ec]
  grind [Td]
 simp_all [bL]
theorem JC{k o a b c i:Int}{u:Bool}(h:bB k o a b c u)(hi:gG k o i u):bL (aQ k o a b c i u)=(k,o,a,b,c,i,u,()):=by
 have z:rg 0:=⟨by decide,by decide⟩
 unfold gG at hi;have i0:k≠2->k≠5->k≠7->i=0:=fun h2 h5 h7=>by
  grind
 have hg:=h;cases h with
 |imm h1 h2 ha hb hu=>exact Ck ⟨by omega,by omega⟩ ha hb (by omega)
 |movi ha=>grind [Ck]
 |mem h1 h2 ha hb=>grind [LY]
 |jmp ho=>grind [LX]
 |reg h1 h2 ha hb hc hu=>grind [kz]
 |mov ha hc=>grind [kz]
 |hi ha=>grind [kz]
 |fl ha=>grind [kz]
 |br ho hc=>grind [kz]
theorem KW{k o a b c i:Int}{u:Bool}(h:bB k o a b c u)(hi:gG k o i u):Zam.g k o a b c i u=some (true,()):=by
 have hr:=JC h hi;have hk:=jf h;unfold Zam.g;generalize 1000+k.toNat+o.toNat+a.toNat+b.toNat+c.toNat+i.toNat=n;unfold Zam.f;rw[cZ,Uv];dsimp only;rw[decide_eq_true hk.1,decide_eq_true hk.2.1,if_pos (by decide),cZ,Uv];dsimp only;rw[decide_eq_true hk.2.2.1,decide_eq_true hk.2.2.2,if_pos (by decide),lu,Uv];dsimp only;rw[nL,Uv,hr];dsimp only;rw[if_neg (by simp)];simp only[dt,df,Zam.j10,cZ,Uv];have i0:k=1->i=0:=fun h1=>by grind [gG]
 cases h with
 |reg h1 h2 ha hb hc hu=>
  grind
 |mov ha hc=>grind
 |imm h1 h2 ha hb hu=>
  grind
 |movi ha=>
  grind [gG]
 |hi ha=>rfl
 |fl ha=>rfl
 |mem h1 h2 ha hb=>rfl
 |br ho hc=>rfl
 |jmp ho=>rfl
theorem BM{k o a b c i:Int}{u:Bool}(h:Zam.g k o a b c i u=some (true,())):bB k o a b c u/\gG k o i u:=by
 unfold Zam.g at h;generalize 1000+k.toNat+o.toNat+a.toNat+b.toNat+c.toNat+i.toNat=n at h;unfold Zam.f at h;rw[cZ,Uv] at h;dsimp only at h;by_cases hk:1<=k/\k<=7
 case neg=>grind
 rw[if_pos (by simp[hk]),cZ,Uv] at h;dsimp only at h;by_cases ho:0<=o/\o<=15
 case neg=>grind
 rw[if_pos (by simp[ho]),lu,Uv] at h;dsimp only at h;rw[nL,Uv] at h;have s20:=Tc (aQ k o a b c i u);have s24:=Td (aQ k o a b c i u);have r20:=gy (aQ k o a b c i u) 0 (n:=20) (by decide);have r24:=gy (aQ k o a b c i u) 0 (n:=24) (by decide);have r16:=gy (aQ k o a b c i u) 0 (n:=16) (by decide);generalize hW:aQ k o a b c i u=W at h s20 s24 r20 r24 r16;have g4:∀p,rg (Gn W p 4):=fun p=>gy W p (n:=4) (by decide)
 have g1:∀p,0<=Gn W p 1/\Gn W p 1<2:=fun p=>gy W p (n:=1) (by decide)
 split at h;·cases h
 ·rename_i he;simp only[Bool.not_eq_true',Bool.not_eq_false,UB,UE,beq_iff_eq,and_true] at he;obtain⟨e1,e2,e3,e4,e5,e6,e7⟩:=he;simp only[dt,df,Zam.j10,cZ,Uv] at h;unfold bL at e1 e2 e3 e4 e5 e6 e7;split at e1
  ·rename_i f0;rw[if_pos f0] at e2 e3 e4 e5 e6 e7;split at e1
   ·rename_i f1;rw[if_pos f1] at e2 e3 e4 e5 e6 e7;dsimp only at e1 e2 e3 e4 e5 e6 e7;have:=g1 28;subst e2 e4 e5 e7;have hk3:k=3\/k=4:=by omega
    rcases hk3 with rfl|rfl;·exact⟨.hi (e3 ▸ g4 _),.inr (.inr (.inr ⟨by decide,by decide,by decide,e6⟩))⟩
    ·exact⟨.fl (e3 ▸ g4 _),.inr (.inr (.inr ⟨by decide,by decide,by decide,e6⟩))⟩
   ·rename_i f1;rw[if_neg f1] at e2 e3 e4 e5 e6 e7;dsimp only at e1 e2 e3 e4 e5 e6 e7;subst e1;rw[if_pos rfl,if_pos rfl] at h;by_cases ho0:o=0
    ·subst ho0;rw[if_pos rfl] at h;by_cases hb0:b=0
     ·subst hb0;rw[if_pos rfl,if_pos (by decide)] at h;cases u with
      |false=>exact⟨.mov (e3 ▸ g4 _) (e5 ▸ g4 _),.inr (.inr (.inr ⟨by decide,by decide,by decide,e6⟩))⟩
      |true=>grind
     grind
    ·rw[if_neg ho0] at h;by_cases h11:11<o
     ·grind
     ·rw[if_neg h11] at h;refine⟨.reg (by omega) (by omega) (e3 ▸ g4 _) (e4 ▸ g4 _) (e5 ▸ g4 _) fun hu=>?_,.inr (.inr (.inr ⟨by decide,by decide,by decide,e6⟩))⟩
      grind
  ·rename_i f0;rw[if_neg f0] at e2 e3 e4 e5 e6 e7;split at e1
   ·rename_i f1;rw[if_pos f1] at e2 e3 e4 e5 e6 e7;dsimp only at e1 e2 e3 e4 e5 e6 e7;subst e1 e5;rw[if_neg (by decide),if_pos rfl] at h;by_cases ho0:o=0
    ·subst ho0;rw[if_pos rfl] at h;by_cases hb0:b=0
     ·subst hb0;exact⟨.movi (e3 ▸ g4 _),.inl ⟨rfl,by grind,by grind,fun _ hu=>by grind⟩⟩
     grind
    ·rw[if_neg ho0] at h;by_cases h11:11<o
     ·grind
     ·rw[if_neg h11] at h;refine⟨.imm (by omega) (by omega) (e3 ▸ g4 _) (e4 ▸ g4 _) fun hu=>?_,.inl ⟨rfl,by grind,by grind,fun h0=>absurd h0 ho0⟩⟩
      grind
   ·rename_i f1;rw[if_neg f1] at e2 e3 e4 e5 e6 e7;split at e1
    ·rename_i f2;rw[if_pos f2] at e2 e3 e4 e5 e6 e7;dsimp only at e1 e2 e3 e4 e5 e6 e7;have q1:=g1 29;have q2:=g1 28;subst e1 e5 e7;exact⟨.mem (by omega) (by omega) (e3 ▸ g4 _) (e4 ▸ g4 _),.inr (.inl ⟨rfl,by grind,by grind⟩)⟩
    ·rename_i f2;rw[if_neg f2] at e2 e3 e4 e5 e6 e7;split at e1
     ·rename_i f3;rw[if_pos f3] at e2 e3 e4 e5 e6 e7;dsimp only at e1 e2 e3 e4 e5 e6 e7;subst e1 e3 e4 e5;exact⟨.jmp (e2 ▸ g4 _),.inr (.inr (.inl ⟨rfl,by grind,by grind⟩))⟩
     ·rename_i f3;rw[if_neg f3] at e2 e3 e4 e5 e6 e7;dsimp only at e1 e2 e3 e4 e5 e6 e7;subst e1 e3 e4;exact⟨.br (e2 ▸ g4 _) (e5 ▸ g4 _),.inr (.inr (.inr ⟨by decide,by decide,by decide,e6⟩))⟩
end Rv
namespace Rv
open Go
theorem R5(x:Int):aC .and .i64 x 15=x % 16:=by
 have e:aC .and .i64 x 15=IntKind.i64.wrap ((BitVec.ofInt 64 x &&& BitVec.ofInt 64 15).toNat:Int):=rfl;have e2:(BitVec.ofInt 64 15).toNat=2 ^ 4-1:=by decide
 rw[e,BitVec.toNat_and,e2,Nat.and_two_pow_sub_one_eq_mod,BitVec.toNat_ofInt,w64 (by omega)];omega
def Uk:Str:=[48,49,50,51,52,53,54,55,56,57,65,66,67,68,69,70]
def nmD(a:Int)(k:Nat):Int:=bt Uk (a.fdiv (2 ^ k) % 16)
def nmR(a:Int):Str:=bytesOf [95,nmD a 12,nmD a 8,nmD a 4,nmD a 0]
theorem rq(n m:Nat)(a:Int)(b:List Int)(k:Nat)(hk:k<=12)(hb:b.length<=100):Zbd.l3 n (m+1) a b (k:Int)=Zbd.l3 n m a (b++[nmD a k]) ((k:Int)-4):=by
 rw[Zbd.l3];have e:min ((k:Int)).toNat IntKind.i64.bits=k:=by
  rw[UL];exact Nat.min_eq_left (UW hk (by decide))
 have h16:0<=a.fdiv (2 ^ k) % 16/\a.fdiv (2 ^ k) % 16<16:=⟨Int.emod_nonneg _ (by decide),Int.emod_lt_of_pos _ (by decide)⟩
 rw[if_pos (by simp),if_neg (by omega),e,R5,if_pos ⟨h16.1,h16.2⟩,if_pos (by simp;omega),w64 (by omega)];rfl
theorem Kz(a:Int):Zbd.g a=some (nmR a,()):=by
 unfold Zbd.g Zbd.f;obtain⟨m,hm⟩:∃m,1000+a.toNat=m+5:=⟨995+a.toNat,by omega⟩
 rw[hm];rw[show(12:Int)=((12:Nat):Int) from rfl,rq _ (m+4) a _ 12 (by decide) (by decide)];rw[show((12:Nat):Int)-4=((8:Nat):Int) from rfl,rq _ (m+3) a _ 8 (by decide) (by simp)];rw[show((8:Nat):Int)-4=((4:Nat):Int) from rfl,rq _ (m+2) a _ 4 (by decide) (by simp)];rw[show((4:Nat):Int)-4=((0:Nat):Int) from rfl,rq _ (m+1) a _ 0 (by decide) (by simp)];rw[Zbd.l3,if_neg (by decide)];rfl
theorem uo(a:Int):Zdd.g a=some ([((2:Int),0,nmR a,())],()):=by
 unfold Zdd.g Zdd.f;rw[Kz,Uv]
def eU(a:Int):List It:=if a<0 then[((1:Int),IntKind.u32.wrap (-a),[],()),((3:Int),0,[],())] else[((1:Int),IntKind.u32.wrap a,[],())]
theorem EA(a:Int):0<(eU a).length/\(eU a).length<=2:=by grind [eU]
theorem Ac{v:Int}(h:0<=v/\v<=4294967295):eU v=[((1:Int),v,[],())]:=by
 unfold eU;rw[if_neg (by omega),IntKind.wrap_u32,show v % 4294967296=v by omega]
theorem Ad{a:Int}(h:-9223372036854775808<a/\a<=9223372036854775807):disasm_number.g a=some (eU a,()):=by
 unfold disasm_number.g eU;obtain⟨m,hm⟩:∃m,1000+a.toNat=m+2:=⟨998+a.toNat,by omega⟩
 rw[hm];show disasm_number.f (1000+a.toNat) (bH (m+1)) a=_;unfold disasm_number.f;by_cases hn:a<0
 ·rw[if_pos (by simpa using hn),if_pos hn,w64 (by omega)];have e:(bH (m+1)).disasm_number (0-a)=some ([((1:Int),IntKind.u32.wrap (0-a),[],())],()):=by
   show disasm_number.f (1000+(0-a).toNat) (bH m) (0-a)=_;unfold disasm_number.f
   grind
  grind
 grind
theorem Ef(n:Nat)(a:List Int)(b:Int)(hl:a.length<=9223372036854775806):∀(m i:Nat),i<=a.length->a.length-i<m->∃y,Zcm.l2 n m a b (a.length:Int) (i:Int)=some (y,())/\(0<=y↔b∈a.drop i)
 |0,i,_,h=>by omega
 |m+1,i,hi,h=>by
  rw[Zcm.l2];by_cases hlt:i<a.length
  ·rw[if_pos (by simp;omega),if_pos ⟨by omega,by omega⟩];have hd:a.drop i=a.getD i 0::a.drop (i+1):=by
    simp_all
   rw[UL];by_cases he:b=a.getD i 0
   ·rw[if_pos (by simpa using he)]
    grind
   ·rw[if_neg (by simpa using he),w64 (by omega)];obtain⟨y,h1,h2⟩:=Ef n a b hl m (i+1) (by omega) (by omega)
    grind
  simp_all [if_neg,List.drop_eq_nil_of_le]
theorem DT{a:List Int}(hl:a.length<=9223372036854775806)(b:Int):Zct.g a b=some (decide (b∈a),()):=by
 unfold Zct.g Zct.f Zcm.g Zcm.f;obtain⟨y,h1,h2⟩:=Ef (1000+a.length+b.toNat) a b hl (1000+a.length+b.toNat) 0 (Nat.zero_le _) (by omega)
 grind
abbrev T9:=Int×Int×Int×Int×Int×Int×Bool×Bool×Unit
def jX(v:Int):T9:=(Zcg.g v).getD (0,0,0,0,0,0,false,false,())
theorem kw{v:Int}(h:0<=v/\v<=4294967295):Zcg.g v=some (jX v)/\(jX v=(0,0,0,0,0,0,false,false,())\/∃k o a b c i u,jX v=(k,o,a,b,c,i,u,true,())/\bB k o a b c u/\gG k o i u/\v=((aQ k o a b c i u).toNat:Int)):=by
 have key:∃r,Zcg.g v=some r/\(r=(0,0,0,0,0,0,false,false,())\/∃k o a b c i u,r=(k,o,a,b,c,i,u,true,())/\bB k o a b c u/\gG k o i u/\v=((aQ k o a b c i u).toNat:Int)):=by
  obtain⟨W,rfl⟩:∃W:W32,v=(W.toNat:Int):=⟨BitVec.ofInt 32 v,by rw[BitVec.toNat_ofInt];omega⟩
  unfold Zcg.g Zcg.f;rw[nL,Uv];obtain⟨k,o,a,b,c,i,u,z⟩:=bL W;dsimp only;obtain⟨r,hr,_⟩:=BN k o a b c i u;rw[hr,Uv];cases r with
  |false=>grind
  |true=>
   dsimp only;rw[if_pos (by decide),lu,Uv];obtain⟨g1,g2⟩:=BM hr
   grind
 grind [jX]
def eF(ws ss:List Int)(i:Nat):Int×Bool×Unit:=
 if i<ws.length/\(i:Int) ∉ ss/\(jX (ws.getD i 0)).2.2.2.2.2.2.2.1=true/\(jX (ws.getD i 0)).1=7/\0<=(i:Int)+1+(jX (ws.getD i 0)).2.2.2.2.2.1/\(i:Int)+1+(jX (ws.getD i 0)).2.2.2.2.2.1<=ws.length then(4*((i:Int)+1+(jX (ws.getD i 0)).2.2.2.2.2.1),true,()) else(0,false,())
structure zU (ws ss:List Int):Prop where
 w:ws.length<=100000
 s:ss.length<=100000
 u:∀x∈ws,0<=x/\x<=4294967295
theorem zU.at{ws ss:List Int}(h:zU ws ss){i:Nat}(hi:i<ws.length):0<=ws.getD i 0/\ws.getD i 0<=4294967295:=by
 rw[UH,UF hi];exact h.u _ (Vg hi)
theorem Bp{v:Int}(h:0<=v/\v<=4294967295):-9000000<=(jX v).2.2.2.2.2.1/\(jX v).2.2.2.2.2.1<=9000000:=by
 rcases(kw h).2 with e|⟨k,o,a,b,c,i,u,e,_,hi,_⟩;·rw[e];decide
 grind [gG]
theorem DW{ws ss:List Int}(h:zU ws ss)(ys:List (Str×Int×Unit))(i:Nat)(hi:i<=9223372036854775800):Zcj.g ws ss ys (i:Int)=some (eF ws ss i):=by
 unfold Zcj.g Zcj.f eF;have hss:=h.s;have hws:=h.w;rw[if_pos (by simp)];by_cases hlt:i<ws.length
 ·rw[if_pos (by simp;omega),DT (by omega),Uv];dsimp only;by_cases hm:(i:Int)∈ss
  ·grind
  ·rw[if_neg (by simpa using hm),if_pos ⟨by omega,by omega⟩,UL,(kw (h.at hlt)).1,Uv];have hsm:=Bp (h.at hlt);generalize jX (ws.getD i 0)=r at hsm⊢;obtain⟨k,o,a,b,c,j,u,okk,z⟩:=r;dsimp only at hsm⊢;rw[w64 (x:=(i:Int)+1) (by omega),w64 (x:=(i:Int)+1+j) (by omega),w64 (x:=4*((i:Int)+1+j)) (by omega),w64 (x:=4*(ws.length:Int)) (by omega)]
   grind
 grind
def stN(k:Int)(e:List It):Sn:=(k,0,0,0,0,false,e,[],())
def nmE(a:Int):List It:=[((2:Int),0,nmR a,())]
def jJ(ws ss:List Int)(i:Nat):Sn:=
 if ws.length<=i then stN 0 [] else
 if(i:Int)∈ss then stN 9 (if ws.getD i 0 % 4=0 then nmE (ws.getD i 0) else nmE 0++eU (ws.getD i 0)++[((4:Int),0,[],())]) else
 let x:=jX (ws.getD i 0)
 if x.2.2.2.2.2.2.2.1=false then stN 9 (eU (ws.getD i 0)) else
 if x.1=7 then(if(eF ws ss i).2.1=true then(x.1,x.2.1,x.2.2.1,x.2.2.2.1,x.2.2.2.2.1,x.2.2.2.2.2.2.1,nmE (eF ws ss i).1,[],()) else stN 9 (eU (ws.getD i 0))) else
 (x.1,x.2.1,x.2.2.1,x.2.2.2.1,x.2.2.2.2.1,x.2.2.2.2.2.2.1,(if x.1=2\/x.1=5 then eU x.2.2.2.2.2.1 else[]),[],())
theorem DX{ws ss:List Int}(h:zU ws ss)(ys:List (Str×Int×Unit))(i:Nat)(hi:i<=9223372036854775800):Zax.g ws ss ys (i:Int)=some (jJ ws ss i):=by
 unfold Zax.g Zax.f jJ;have hss:=h.s;have hws:=h.w;rw[if_pos (by simp)];by_cases hge:ws.length<=i;·rw[if_pos (by simp;omega),if_pos hge];rfl
 ·have hlt:i<ws.length:=by omega
  have hat:=h.at hlt;rw[if_neg (by simp;omega),if_neg hge,if_pos ⟨by omega,by omega⟩,UL,w64 (by omega),Ad (by omega),Uv,DT (by omega),Uv];dsimp only;by_cases hm:(i:Int)∈ss
  ·rw[if_pos (by simpa using hm),if_pos hm,uo,Uv];by_cases h4:ws.getD i 0 % 4=0
   ·have ht:Int.tmod (ws.getD i 0) 4=0:=by grind
    rw[if_neg (by simpa using ht),if_pos h4];rfl
   ·have ht:¬Int.tmod (ws.getD i 0) 4=0:=by grind
    have hn:=EA (ws.getD i 0);rw[if_pos (by simpa using ht),if_neg h4,uo,Uv,Uv];dsimp only;generalize eU (ws.getD i 0)=z at hn⊢;rw[if_pos (by simp;omega),if_pos (by simp;omega)];rfl
  ·rw[if_neg (by simpa using hm),if_neg hm,if_pos ⟨by omega,by omega⟩,(kw hat).1,Uv,DW h ys i hi];have hsm:=Bp hat
   generalize jX (ws.getD i 0)=r at hsm⊢;obtain⟨k,o,a,b,c,j,u,okk,z⟩:=r;dsimp only at hsm⊢;cases okk with
   |false=>rw[if_pos (by decide),if_pos rfl];rfl
   |true=>
    rw[if_neg (show ¬((!true)=true) by decide),if_neg (show ¬(true=false) by decide)];by_cases hk:k=7
    ·rw[if_pos (by simpa using hk),if_pos hk,Uv];generalize eF ws ss i=q;obtain⟨dst,iz,zz⟩:=q;dsimp only;cases iz with
     |false=>rw[if_pos (by decide),if_neg (by decide)];rfl
     |true=>rw[if_neg (by decide),if_pos rfl,uo,Uv];rfl
    ·rw[if_neg (by simpa using hk),if_neg hk];by_cases h2:k=2
     ·rw[if_pos (by simpa using h2),if_pos (by simpa using h2),Ad (by omega),Uv,if_pos (.inl h2)];rfl
     ·rw[if_neg (by simpa using h2)];by_cases h5:k=5
      ·rw[if_pos (by simpa using h5),Ad (by omega),Uv,if_pos (.inr h5)];rfl
      ·rw[if_neg (by simpa using h5),if_neg (by omega)];rfl
end Rv
namespace Rv
open Go
def isL(b:UInt8):Bool:=decide (65<=b.toNat/\b.toNat<=90\/97<=b.toNat/\b.toNat<=122\/b.toNat=95)
def isD(b:UInt8):Bool:=decide (48<=b.toNat/\b.toNat<=57)
def isW(b:UInt8):Bool:=isL b||isD b
def bf(s:Str):Str:=s.takeWhile isW
theorem Ib{p q:Prop}[Decidable p][Decidable q](h:p↔q):some (decide p,())=some (decide q,()):=by simp[h]
theorem letter_eq(b:UInt8):Zcn.g (b.toNat:Int)=some (isL b,()):=by
 unfold Zcn.g Zcn.f isL;simp only[dt,df]
 grind [Ib]
theorem digit_eq(b:UInt8):Zcu.g (b.toNat:Int)=some (isD b,()):=by
 unfold Zcu.g Zcu.f isD;simp only[dt,df]
 grind [Ib]
theorem MQ(s:Str)(hs:s.length<=9223372036854775807)(n:Nat):∀(m k:Nat),k<=s.length->s.length-k<m->Zap.l2 n m s (k:Int)=some (s.take (k+(bf (s.drop k)).length),()):=by
 intro m
 induction m with
 |zero=>grind
 |succ m ih=>
  intro k hk hm;have hend:Zap.j4 n s (k:Int)=some (s.take k,()):=by
   simp_all [Zap.j4]
  simp only[Zap.l2,dt,df];by_cases hlt:k<s.length
  ·have hd:=eY hlt;have step:Zap.j3 n (Zap.l2 n m) s (k:Int)=some (s.take (k+1+(bf (s.drop (k+1))).length),()):=by
    unfold Zap.j3;rw[w64 (by omega)]
    grind
   rw[if_pos (by omega),if_pos (by omega),uh,letter_eq,Uv];cases hl:isL (s.getD k 0) with
   |true=>
    rw[if_neg (by simp),step,hd];simp only[bf,List.takeWhile_cons,isW,hl,Bool.true_or,if_true,UN]
    grind
   |false=>
    rw[if_pos rfl,if_pos (by omega),digit_eq,Uv];cases hdg:isD (s.getD k 0) with
    |true=>
     rw[if_pos rfl,step,hd];simp only[bf,List.takeWhile_cons,isW,hl,hdg,Bool.or_true,if_true,UN]
     grind
    |false=>
     rw[if_neg (by simp),hend,hd];simp only[bf,List.takeWhile_cons,isW,hl,hdg,Bool.or_self,Bool.false_eq_true,if_false,U2,Nat.add_zero]
  grind
theorem Io(s:Str)(hs:s.length<=9223372036854775807):Zap.g s=some (bf s,()):=by
 unfold Zap.g Zap.f;have:=MQ s hs (1000+s.length) (1000+s.length) 0 (by omega) (by omega);rw[show((0:Nat):Int)=0 from rfl] at this;rw[this];congr 2;simp only[U3,Nat.zero_add];exact(List.prefix_iff_eq_take.1 (List.takeWhile_prefix isW)).symm
def pM(c:Int):Int:=if c / 32 % 2=1 then c else c+32
theorem Le:((List.range 256).all fun n=>decide (aC .or .u8 (n:Int) 32=pM n))=true:=by decide +kernel
theorem lower_eq(b:UInt8):Zal.g (b.toNat:Int)=some (pM b.toNat,()):=by
 unfold Zal.g Zal.f;have:=UT.1 Le b.toNat (by have:=b.toNat_lt;grind)
 grind
def iX(b:UInt8):Option Nat:=
 if 48<=b.toNat/\b.toNat<=57 then some (b.toNat-48) else if 97<=b.toNat/\b.toNat<=122 then some (b.toNat-87) else if 65<=b.toNat/\b.toNat<=90 then some (b.toNat-55) else none
def aT(base:Nat):Nat->Str->Option Nat
 |n,[]=>some n
 |n,c::r=>match iX c with
  |some d=>if d<base then(if n*base+d<4294967296 then aT base (n*base+d) r else none) else none
  |none=>none
def PuR(o:Option Nat)(r:Option (Int×Option Int×Unit)):Prop:=
 (∀v,o=some v->r=some ((v:Int),none,()))/\(o=none->∃x e,r=some (x,some e,())/\(e=1\/e=2))
theorem PuR.bad{x e:Int}(h:e=1\/e=2):PuR none (some (x,some e,())):=⟨fun _ e=>(by cases e),fun _=>⟨x,e,rfl,h⟩⟩
theorem Oe(s:Str)(k:Nat)(h:k<s.length):(s.map fun b=>(b.toNat:Int)).getD ((k:Int)).toNat 0=((s.getD k 0).toNat:Int):=by
 grind
theorem OU{n:Nat}{rl:Int->Bool->Str->Int->Int->Bool->Int->(List Int)->Int->Int->Option (Int×(Option Int)×Unit)}{base d v k:Nat}{s9:Str}{cutoff:Int}{t:List Int}{l:Int}{o:Nat->Option Nat}(hb:base=10\/base=16)(hd:d<36)(hv:v<4294967296)(hc:4294967296<=cutoff)(hk:k<9223372036854775807)
  (hr:∀v,v<4294967296->PuR (o v) (rl base false s9 cutoff 4294967295 false v t l ((k+1:Nat):Int))) :
  PuR (if d<base then(if v*base+d<4294967296 then o (v*base+d) else none) else none) (Zaa.j46 n rl base false s9 cutoff 4294967295 false v d t l k):=by
 unfold Zaa.j46 Zaa.j55;have hm:v*base<68719476736:=by
  grind
 rw[w8u (by omega),w64 (x:=(k:Int)+1) (by omega),yA (x:=(base:Int)) (by omega),yA (x:=(d:Int)) (by omega)];have e1:((v:Int)*(base:Int))=((v*base:Nat):Int):=by simp
 rw[e1];have hr':=fun h=>hr (v*base+d) h
 generalize v*base=M at *;rw[yA (x:=(M:Int)) (by omega),yA (x:=(M:Int)+d) (by omega)];simp only[dt,df];by_cases h1:d<base
 ·by_cases h2:M+d<4294967296
  ·grind
  ·rw[if_pos h1,if_neg h2,if_neg (by omega),if_neg (by omega),if_pos (by omega),if_pos (by omega)];exact PuR.bad (.inl rfl)
 simp_all [if_neg,PuR.bad]
theorem Rn(s s9:Str)(base:Nat)(cutoff:Int)(hb:base=10\/base=16)(hc:4294967296<=cutoff)(hs:s.length<9223372036854775807)(n:Nat):∀(m k v:Nat),k<=s.length->s.length-k<m->v<4294967296 ->
  PuR (aT base v (s.drop k)) (Zaa.l36 n m base false s9 cutoff 4294967295 false v (s.map fun b=>(b.toNat:Int)) ((s.map fun b=>(b.toNat:Int)).length:Int) k):=by
 intro m
 induction m with
 |zero=>grind
 |succ m ih=>
  intro k v hk hm hv;simp only[Zaa.l36,dt,df];by_cases hlt:k<s.length
  ·have hl:k<(s.map fun b=>(b.toNat:Int)).length:=by simpa using hlt
   rw[if_pos (by omega),if_pos (by omega),eY hlt];simp only[Oe s k hlt,lower_eq,Uv,Bool.false_eq_true,if_false];have step:∀d,iX (s.getD k 0)=some d->d<36->PuR (aT base v (s.getD k 0::s.drop (k+1))) (Zaa.j46 n (Zaa.l36 n m) base false s9 cutoff 4294967295 false v d (s.map fun b=>(b.toNat:Int)) ((s.map fun b=>(b.toNat:Int)).length:Int) k):=by
    intro d hd hd36;simp only[aT,hd];exact OU (o:=fun v=>aT base v (s.drop (k+1))) hb hd36 hv hc (by omega) fun v hv=>ih (k+1) v (by omega) (by omega) hv
   have bad:iX (s.getD k 0)=none->PuR (aT base v (s.getD k 0::s.drop (k+1))) (some ((0:Int),some (2:Int),())):=by
    simp_all [aT,PuR.bad]
   generalize hbb:s.getD k 0=b at *;have hb1:=Qe b;have dig1:(48:Int)<=b.toNat->(b.toNat:Int)<=57->iX b=some (b.toNat-48):=fun h1 h2=>by unfold iX;grind
   have dig2:¬((48:Int)<=b.toNat/\(b.toNat:Int)<=57)->(97:Int)<=pM b.toNat->pM b.toNat<=(122:Int)->∃d,iX b=some d/\d<36/\IntKind.u8.wrap (IntKind.u8.wrap (pM b.toNat-97)+10)=(d:Int):=fun h1 h2 h3=>by
    rw[w8u (x:=pM b.toNat-97) (by omega),w8u (by omega)];unfold pM at h2 h3⊢;unfold iX
    grind
   have dig3:¬((48:Int)<=b.toNat/\(b.toNat:Int)<=57)->¬((97:Int)<=pM b.toNat/\pM b.toNat<=(122:Int))->iX b=none:=fun h1 h2=>by
    unfold pM at h2;unfold iX
    grind
   have wr:(48:Int)<=b.toNat->(b.toNat:Int)<=57->IntKind.u8.wrap ((b.toNat:Int)-48)=((b.toNat-48:Nat):Int):=fun h1 h2=>by grind [w8u]
   grind
  ·have:k=s.length:=by omega
   subst this;rw[if_neg (by simp),Vf];simp only[Bool.false_eq_true,if_false];exact⟨fun v' e=>by grind [aT],fun e=>by simp[aT] at e⟩
theorem Gd(s:Str)(base:Nat)(hb:base=10\/base=16)(hs:s.length<9223372036854775807):PuR (if s=[] then none else aT base 0 s) (Zaa.g s base 32):=by
 unfold Zaa.g Zaa.f;simp only[dt,df];by_cases h0:s=[]
 ·simp_all [PuR.bad]
 ·rw[if_neg h0,if_neg h0,if_pos (by omega),if_pos (by omega)];have hb0:decide ((base:Int)=0)=false:=by simp;omega
  rw[hb0];unfold Zaa.j21;simp only[dt,df];rw[if_neg (by omega),if_pos (by omega),if_neg (by omega)];unfold Zaa.j25;simp only[dt,df];have fin:∀cutoff:Int,4294967296<=cutoff->PuR (aT base 0 s) (Zaa.j32 (1000+s.length+(base:Int).toNat+(32:Int).toNat) s base 32 false s cutoff):=by
   intro cutoff hc;unfold Zaa.j32;have e1:IntKind.u64.wrap 32=32:=yA (by omega);rw[e1,if_neg (by omega)];have e2:IntKind.u64.wrap (IntKind.u64.wrap (1*2 ^ min (32:Int).toNat IntKind.u64.bits)-1)=4294967295:=by decide
   rw[e2];have:=Rn s s base cutoff hb hc hs (1000+s.length+(base:Int).toNat+(32:Int).toNat) (1000+s.length+(base:Int).toNat+(32:Int).toNat) 0 0 (by omega) (by omega) (by omega)
   grind
  grind
theorem OL(s:Str)(base:Nat)(hb:base=10\/base=16)(hs:s.length<=281474976710656):(∀v,(if s=[] then none else aT base 0 s)=some v->Zco.g s base 32=some ((v:Int),true,())) /\
  ((if s=[] then none else aT base 0 s)=none->∃x,Zco.g s base 32=some (x,false,())):=by
 obtain⟨h1,h2⟩:=Gd s base hb (by omega);refine⟨fun v hv=>?_,fun hn=>?_⟩;·grind [Zco.g,Zco.f]
 ·obtain⟨x,e,he,hc⟩:=h2 hn;simp_all [Zco.g,Zco.f,L.toErrorO]
theorem ul:∀{s:Str}{c:UInt8},Lib.contains s [c]=true->c∈s
 |[],c,h=>by simp[Lib.contains,Lib.index] at h
 |b::l,c,h=>by
  by_cases hb:c=b;·simp[hb]
  ·have:Lib.contains l [c]=true:=by
    simp only[Lib.contains,Lib.index,List.isPrefixOf,Bool.and_true,beq_iff_eq,UE] at h⊢
    grind
   exact UA _ (ul this)
theorem wZ{base:Nat}:∀{s:Str}{v:Nat},(95:UInt8)∈s->aT base v s=none
 |[],_,h=>by cases h
 |c::r,v,h=>by
  simp only[aT];rcases UG.1 h with h|h
  ·rw[<- h]
   grind [iX]
  ·(repeat' split)<;>first|rfl|exact wZ h
theorem rW{base:Nat}:∀{s:Str}{v w:Nat},v<4294967296->aT base v s=some w->w<4294967296
 |[],_,_,hv,h=>by grind [aT]
 |c::r,v,w,hv,h=>by
  simp only[aT] at h;split at h
  ·split at h
   ·split at h
    ·exact rW (by assumption) h
    ·cases h
   ·cases h
  ·cases h
def num(s:Str):Option Nat:=
 if([48,120]:Str).isPrefixOf s then(if s.drop 2=[] then none else aT 16 0 (s.drop 2)) else if s=[] then none else aT 10 0 s
theorem SF{s:Str}{v:Nat}(h:num s=some v):v<4294967296:=by
 unfold num at h;split at h<;>split at h<;>first|(cases h;done)|exact rW (by omega) h
theorem w9(s:Str)(base:Nat)(n:Nat)(hb:base=10\/base=16)(hs:s.length<=1000000) :
  (∀v,(if s=[] then none else aT base 0 s)=some v->Zbq.j5 n s base=some ((v:Int),true,()))/\((if s=[] then none else aT base 0 s)=none->∃x,Zbq.j5 n s base=some (x,false,())):=by
 have hcO:L.containsO s [95]=some (Lib.contains s [95],()):=by unfold L.containsO;grind
 unfold Zbq.j5;rw[hcO,Uv];obtain⟨h1,h2⟩:=OL s base hb (by omega);by_cases hc:Lib.contains s [95]=true;·simp_all [ul,wZ]
 ·simp only[hc,Bool.false_eq_true,if_false];refine⟨fun v hv=>?_,fun hn=>?_⟩
  ·have hlt:v<4294967296:=by
    split at hv;·cases hv
    ·exact rW (by omega) hv
   grind [Uu]
  grind
theorem number_eq(s:Str)(hs:s.length<=1000000):(∀v,num s=some v->Zbq.g s=some ((v:Int),true,()))/\(num s=none->∃x,Zbq.g s=some (x,false,())):=by
 unfold Zbq.g Zbq.f num L.cutIs L.cutRest Lib.trimPrefix Lib.hasPrefix;by_cases hp:([48,120]:Str).isPrefixOf s=true;·simp only[hp,if_true];exact w9 (s.drop 2) 16 _ (.inr rfl) (by simp;omega)
 ·have hp':([48,120]:Str).isPrefixOf s=false:=Bool.eq_false_iff.2 hp;simp only[hp',Bool.false_eq_true,if_false];exact w9 s 10 _ (.inl rfl) hs
abbrev Tok:=Int×Int×Str×Int×Unit
def isS(c:UInt8):Bool:=([44,58,43,45,42,40,41,61]:Str).contains c
def jb(c:UInt8)(r:Str):Except Int (Nat×Int×Str×Int):=
 if isL c then .ok (0,1,bf (c::r),0)
 else if isD c then match num (bf (c::r)) with
  |some v=>.ok (0,2,bf (c::r),v)
  |none=>.error 21
 else if c=46/\(∃d∈r.head?,isL d) then .ok (1,4,bf r,0)
 else if isS c then .ok (0,3,[c],0)
 else .error 20
def aI(k:Int):Str->Except Int (List Tok)
 |[]=>.ok []
 |c::r=>
  if c=59 then .ok []
  else if c=32\/c=9 then aI (k+1) r
  else match jb c r with
   | .error e=>.error e
   | .ok (d,q,t,v)=>match aI (k+d+t.length) (r.drop (d+t.length-1)) with
    | .error e=>.error e
    | .ok l=>.ok ((q,k,t,v,())::l)
termination_by s=>s.length
decreasing_by
 all_goals simp
 all_goals omega
theorem mi(k:Int):aI k []=.ok []:=by rw[aI]
theorem eT(k:Int)(c:UInt8)(r:Str):aI k (c::r)=if c=59 then .ok [] else if c=32\/c=9 then aI (k+1) r else match jb c r with
   | .error e=>.error e
   | .ok (d,q,t,v)=>match aI (k+d+t.length) (r.drop (d+t.length-1)) with
    | .error e=>.error e
    | .ok l=>.ok ((q,k,t,v,())::l):=by rw[aI]
theorem Pg:((List.range 256).all fun n=>decide ((0<=L.indexByte ([44,58,43,45,42,40,41,61]:Str) (n:Int))=(isS (UInt8.ofNat n)=true)))=true:=by decide +kernel
theorem Rz(b:UInt8):(0<=L.indexByte ([44,58,43,45,42,40,41,61]:Str) (b.toNat:Int))=(isS b=true):=by
 have:=UT.1 Pg b.toNat (by have:=b.toNat_lt;grind)
 simp_all [of_decide_eq_true]
def bi(out:List Tok):Except Int (List Tok)->List Tok×Int×Unit
 | .ok l=>(out++l,0,())
 | .error e=>([],e,())
theorem Es(out:List Tok)(t:Tok)(x:Except Int (List Tok)):bi (out++[t]) x=bi out (match x with | .error e=>.error e | .ok l=>.ok (t::l)):=by
 grind [bi]
theorem vT(s:Str):(bf s).length<=s.length:=(List.takeWhile_prefix isW).length_le
theorem zO{c:UInt8}{r:Str}(h:isW c=true):1<=(bf (c::r)).length:=by
 simp[bf,List.takeWhile_cons,h]
theorem Lb(s:Str)(hs:s.length<=1000000)(n:Nat):∀(m k:Nat) (out:List Tok),k<=s.length->s.length-k<m->out.length<=k->Zah.g0 n m s out (k:Int)=some (bi out (aI k (s.drop k))):=by
 intro m
 induction m with
 |zero=>grind
 |succ m ih=>
  intro k out hk hm hout;have e1:IntKind.i64.wrap ((k:Int)+1)=((k+1:Nat):Int):=by grind [w64]
  by_cases hlt:k<s.length
  ·have tok:∀(d:Nat) (q:Int) (t:Str) (v:Int),1<=d+t.length->k+d+t.length<=s.length->Zah.j23 n (Zah.g0 n m) s out ((k+d:Nat):Int) q (k:Int) t v=some (bi out (match aI ((k:Int)+d+t.length) ((s.drop (k+1)).drop (d+t.length-1)) with
     | .error e=>.error e
     | .ok l=>.ok ((q,k,t,v,())::l))):=by
    intro d q t v h1 h2;unfold Zah.j23;rw[if_pos (by simp;omega),w64 (by omega)];have:=ih (k+d+t.length) (out++[(q,(k:Int),t,v,())]) h2 (by omega) (by simp;omega)
    grind [Es,List.drop_drop]
   have tok0:=fun q t v h1 h2=>tok 0 q t v h1 h2
   simp only[Nat.add_zero,Nat.zero_add] at tok0;have tok1:=fun q t v h1 h2=>tok 1 q t v h1 h2
   have skip:Zah.g0 n m s out ((k+1:Nat):Int)=some (bi out (aI ((k:Int)+1) (s.drop (k+1)))):=by
    grind
   rw[eY hlt,eT];simp only[Zah.g0,dt,df];simp only[e1,uh,letter_eq,digit_eq,Uv,UL,List.take_length,Rz];rw[if_pos (by omega),if_pos (by omega)];have hw0:=Io (s.drop k) (by simp;omega);have hw1:=Io (s.drop (k+1)) (by simp;omega);rw[hw0,hw1,eY hlt];have hl0:=vT (s.drop k);have hl1:=vT (s.drop (k+1));rw[eY hlt] at hl0;have hd0:(s.drop (k+1)).length=s.length-(k+1):=by simp
   have hd1:(s.getD k 0::s.drop (k+1)).length=s.length-k:=by simp;omega
   have hsign:(s.take (k+1)).drop k=[s.getD k 0]:=by
    grind [eY]
   have hhead:(∃d∈(s.drop (k+1)).head?,isL d=true)↔k+1<s.length/\isL (s.getD (k+1) 0)=true:=by
    by_cases h:k+1<s.length;·simp_all
    ·rw[List.drop_eq_nil_of_le (by omega)];simp[h]
   have hwp:=@zO (s.getD k 0) (s.drop (k+1));have hwq:k+1<s.length->isL (s.getD (k+1) 0)=true->1<=(bf (s.drop (k+1))).length:=fun h h'=>by
    grind [eY,zO,isW]
   rw[hsign];have b59:(((s.getD k 0).toNat:Int)=59)=(s.getD k 0=59):=kV _ 59 (by decide);have b32:(((s.getD k 0).toNat:Int)=32)=(s.getD k 0=32):=kV _ 32 (by decide);have b9:(((s.getD k 0).toNat:Int)=9)=(s.getD k 0=9):=kV _ 9 (by decide);have b46:(((s.getD k 0).toNat:Int)=46)=(s.getD k 0=46):=kV _ 46 (by decide);generalize s.getD k 0=b at *;by_cases h59:b=59;·simp_all [bi]
   ·rw[if_neg (fun h=>h59 (b59.mp h)),if_neg h59,if_pos (by omega)];by_cases h32:b=32
    ·grind
    ·rw[if_pos (fun h=>h32 (b32.mp h))];by_cases h9:b=9
     ·grind
     ·rw[if_neg (fun h=>h9 (b9.mp h)),if_neg (show ¬(b=32\/b=9) from fun h=>h.elim h32 h9)];unfold jb;by_cases hL:isL b=true
      ·rw[if_pos hL,if_pos hL,if_pos (by omega)]
       grind [isW]
      ·rw[if_neg hL,if_neg hL];by_cases hD:isD b=true
       ·rw[if_pos hD,if_pos hD,if_pos (by omega)];simp only[Uv];obtain⟨h1,h2⟩:=number_eq (bf (b::s.drop (k+1))) (by omega);cases hn:num (bf (b::s.drop (k+1))) with
        |none=>
         grind [bi]
        |some v=>
         rw[h1 v hn];simp only[Uv,Bool.not_true,Bool.false_eq_true,if_false]
         grind [isW]
       ·rw[if_neg hD,if_neg hD];have sgn:(if isS b=true then(if 0<=((k+1:Nat):Int)/\((k+1:Nat):Int)<=(s.length:Int) then(if 0<=(k:Int)/\(k:Int)<=((k+1:Nat):Int) then Zah.j23 n (Zah.g0 n m) s out k 3 k [b] 0 else none) else none) else some ([],20,())) =
          some (bi out (match (if isS b=true then Except.ok (0,3,[b],0) else Except.error 20:Except Int (Nat×Int×Str×Int)) with
           | .error e=>.error e
           | .ok (d,q,t,v)=>match aI (k+d+t.length) ((s.drop (k+1)).drop (d+t.length-1)) with
            | .error e=>.error e
            | .ok l=>.ok ((q,k,t,v,())::l))):=by
         by_cases hS:isS b=true;·rw[if_pos hS,if_pos hS,if_pos (by omega),if_pos (by omega),tok0 _ _ _ (by simp) (by simp;omega)];simp
         simp_all [bi]
        by_cases h46:b=46;·grind
        grind
  ·have:k=s.length:=by omega
   simp_all [Zah.g0,mi,bi]
theorem wo(s:Str)(hs:s.length<=1000000):Zah.g s=some (bi [] (aI 0 s)):=by
 unfold Zah.g Zah.f;have:=Lb s hs (1000+s.length) (1000+s.length) 0 [] (by omega) (by omega) (by simp)
 grind
end Rv
namespace Rv
open Go
def shift(j:Int)(t:Tok):Tok:=(t.1,t.2.1+j,t.2.2)
theorem CJ{s:Str}:(59:UInt8) ∉ s.takeWhile isW:=by
 intro h;have h1:(s.takeWhile isW).all isW=true:=List.all_takeWhile;have:=UT.1 h1 59 h;exact absurd this (by decide)
theorem PX(s:Str):s.take (s.takeWhile isW).length=s.takeWhile isW:=(List.prefix_iff_eq_take.1 (List.takeWhile_prefix isW)).symm
theorem Pt{c:UInt8}{r:Str}{d:Nat}{q:Int}{t:Str}{v:Int}(h:jb c r=.ok (d,q,t,v)):1<=d+t.length/\d+t.length-1<=r.length/\(59:UInt8) ∉ r.take (d+t.length-1):=by
 have wc:isW c=true->1<=0+(bf (c::r)).length/\0+(bf (c::r)).length-1<=r.length/\(59:UInt8) ∉ r.take (0+(bf (c::r)).length-1):=by
  intro hc;have:bf (c::r)=c::r.takeWhile isW:=by simp[bf,List.takeWhile_cons,hc]
  rw[this];have hl:=(List.takeWhile_prefix isW (l:=r)).length_le;simp only[UN];refine⟨by omega,by omega,?_⟩;rw[show 0+((r.takeWhile isW).length+1)-1=(r.takeWhile isW).length by omega,PX];exact CJ
 unfold jb at h;split at h;·rename_i hL;simp only[Except.ok.injEq,UC] at h;obtain⟨rfl,rfl,rfl,rfl⟩:=h;exact wc (by simp[isW,hL])
 ·split at h
  ·rename_i hD;split at h
   ·simp only[Except.ok.injEq,UC] at h;obtain⟨rfl,rfl,rfl,rfl⟩:=h;exact wc (by simp[isW,hD])
   ·cases h
  ·split at h
   ·simp only[Except.ok.injEq,UC] at h;obtain⟨rfl,rfl,rfl,rfl⟩:=h;have hl:=vT r;refine⟨by omega,by omega,?_⟩;rw[show 1+(bf r).length-1=(r.takeWhile isW).length by unfold bf;omega,PX];exact CJ
   ·split at h
    ·simp only[Except.ok.injEq,UC] at h;obtain⟨rfl,rfl,rfl,rfl⟩:=h;simp
    ·cases h
theorem Mx{s:Str}{b:UInt8}{y:Str}(hb:isW b=false):(s++b::y).takeWhile isW=s.takeWhile isW:=by
 induction s with
 |nil=>simp[List.takeWhile_cons,hb]
 |cons c s ih=>
  simp only[List.cons_append,List.takeWhile_cons];rw[ih]
theorem uI:∀(n:Nat) (k:Int) (s:Str) (l:List Tok),s.length<=n->aI k s=.ok l->l.length<=s.length
 |_,k,[],l,_,h=>by rw[mi] at h;cases h;simp
 |0,k,c::r,l,hn,_=>by simp at hn
 |n+1,k,c::r,l,hn,h=>by
  simp only[UN] at hn⊢;rw[eT] at h;split at h;·cases h;simp
  ·split at h
   ·have:=uI n (k+1) r l (by omega) h;omega
   ·split at h
    ·cases h
    ·split at h
     ·cases h
     ·rename_i l' hl;cases h;have:=uI n _ _ l' (by simp;omega) hl;simp at this⊢;omega
theorem wT{k:Int}{s:Str}:(bi [] (aI k s)).1.length<=s.length:=by
 cases h:aI k s with
 |error e=>simp[bi]
 |ok l=>simpa[bi] using uI s.length k s l (Uz _) h
end Rv
namespace Rv
open Go
theorem zN{s:Str}(h:s.all isW=true):bf s=s:=by
 unfold bf
 induction s with
 |nil=>rfl
 |cons c r ih=>
  rw[Vi,UB] at h;rw[List.takeWhile_cons,if_pos h.1,ih h.2]
theorem FO{c:UInt8}(h:isW c=true):c≠59/\¬(c=32\/c=9):=by
 refine⟨fun e=>?_,fun e=>?_⟩;·subst e;exact absurd h (by decide)
 ·rcases e with rfl|rfl<;>exact absurd h (by decide)
end Rv
namespace Rv
open Go
end Rv
namespace Rv
open Go
end Rv
namespace Rv
open Go
def qD(s:Str):Bool:=decide (s.getD 0 0=82)&&(decide (s.length=2)||decide (s.length=3))&&(s.drop 1).all isD
def ax(s:Str):Bool:=decide (s≠[])&&decide (s.length<=12)&&!isD (s.getD 0 0)&&s.all isW&&!qD s
def Jf(b:Int):Bool:=
 if aC .or .u8 b 32<97\/122<aC .or .u8 b 32\/b<65 then decide (b=95)||(!decide (b<48)&&!decide (57<b)) else true
theorem NT:((List.range 256).all fun k=>Jf k == isW (UInt8.ofNat k))=true:=by decide +kernel
theorem QN(b:UInt8):Jf b.toNat=isW b:=by
 have h:=UT.1 NT b.toNat (by simp;exact b.toNat_lt)
 simpa using h
theorem LF(p:Prop):p=True\/p=False:=(Classical.em p).imp eq_true eq_false
theorem Jh(s:Str)(n m:Nat)(i:Nat)(h1:i<s.length)(X:Option (Bool×Unit))(hX:Zac.j9 n (Zac.l4 n m) s (s.length:Int) (i:Int)=X) :
  Zac.l4 n (m+1) s (s.length:Int) (i:Int)=if Jf (bt s i)=true then X else some (false,()):=by
 have hc:(0:Int)<=i/\(i:Int)<s.length:=by omega
 have hc2:(i:Int)<s.length:=hc.2;simp only[Zac.l4,dt,df,hX,Jf];by_cases a1:aC .or .u8 (bt s i) 32<97<;>by_cases a2:122<aC .or .u8 (bt s i) 32<;>by_cases a3:bt s i<65<;>rcases LF (bt s i=95) with a4|a4<;>by_cases a5:bt s i<48<;>by_cases a6:57<bt s i<;>
  simp only[hc,hc2,a1,a2,a3,a4,a5,a6,if_true,if_false,not_true_eq_false,not_false_eq_true,ne_eq,true_or,or_true,or_false,false_or,or_self,and_self,true_and,decide_true,decide_false,Bool.true_or,Bool.false_or,Bool.not_true,Bool.not_false,Bool.and_true,Bool.and_false,Bool.false_and,Bool.true_and,Bool.or_self,Bool.or_false,Bool.or_true,Bool.false_eq_true]
theorem Jg(s:Str)(hs:s.length<=12)(n:Nat):∀(m i:Nat),i<=s.length->s.length-i<m ->
  Zac.l4 n m s (s.length:Int) (i:Int)=if(s.drop i).all isW=true then Zac.l4 n 1 s (s.length:Int) (s.length:Int) else some (false,()):=by
 intro m
 induction m with
 |zero=>intro i _ h;omega
 |succ m ih=>
  intro i hi hm;by_cases h1:i<s.length
  ·have hnext:Zac.j9 n (Zac.l4 n m) s (s.length:Int) (i:Int)=if(s.drop (i+1)).all isW=true then Zac.l4 n 1 s (s.length:Int) (s.length:Int) else some (false,()):=by
    unfold Zac.j9;rw[w64 (by omega),show(i:Int)+1=((i+1:Nat):Int) by omega];exact ih (i+1) (by omega) (by omega)
   rw[Jh s n m i h1 _ hnext,uh,QN,eY h1,Vi];cases hw:isW (s.getD i 0);·rfl
   ·rw[if_pos rfl,Bool.true_and]
  ·have hi':i=s.length:=by omega
   subst hi';rw[Vf,List.all_nil,if_pos rfl];have hlt:¬((s.length:Int)<s.length):=by omega
   simp only[Zac.l4,dt,hlt,if_false]
theorem Ku(b:UInt8):L.isDig b=isD b:=by simp[L.isDig,isD]
theorem qh{p:UInt8->Bool}:∀{l:Str}{a:UInt8}{r:Str},l.dropWhile p=a::r->p a=false
 |[],_,_,h=>by simp at h
 |b::l,a,r,h=>by
  rw[List.dropWhile_cons] at h;cases hb:p b;·rw[hb] at h;simp only[Bool.false_eq_true,if_false,List.cons.injEq] at h;rw[<- h.1];exact hb
  ·rw[hb] at h;exact qh (l:=l) (by simpa using h)
theorem FI(s:Str):(L.trimDig s=[])=(s.all isD=true):=by
 have gen:∀l:Str,(l.dropWhile L.isDig=[])↔l.all isD=true:=fun l=>by
  induction l with
  |nil=>simp
  |cons a l ih=>
   simp only[List.dropWhile_cons,Vi,Ku];cases h:isD a;·simp
   ·simp[ih]
 unfold L.trimDig;apply propext;rw[gen];constructor
 ·intro h;have h0:(s.reverse.dropWhile L.isDig)=[]:=by
   cases hr:s.reverse.dropWhile L.isDig with
   |nil=>rfl
   |cons a r=>
    exfalso;rw[hr] at h;have ha:isD a=true:=UT.1 h a (by simp);rw[<- Ku,qh hr] at ha;cases ha
  rw[gen] at h0;simpa using h0
 ·intro h;have h0:s.reverse.dropWhile L.isDig=[]:=(gen _).2 (by simpa using h);rw[h0];rfl
theorem nO(s:Str):Zac.g s=some (ax s,()):=by
 unfold Zac.g Zac.f;simp only[dt,df];by_cases h0:s=[]
 ·subst h0;rw[if_neg (by simp)];rfl
 ·rw[if_pos h0];have hl0:0<s.length:=List.length_pos_iff.2 h0;by_cases h12:s.length<=12
  ·rw[if_pos (by omega),if_pos (by omega)];have hj:¬isD (s.getD 0 0)=true->Zac.j3 (1000+s.length) s=some (ax s,()):=fun hd=>by
    unfold Zac.j3;have:=Jg s h12 (1000+s.length) (1000+s.length) 0 (by omega) (by omega);rw[U3] at this;rw[show((0:Nat):Int)=0 from rfl] at this;rw[this];by_cases hw:s.all isW=true
    ·rw[if_pos hw];simp only[Zac.l4,dt,df,uh];rw[if_neg (by omega),if_pos (by omega)];have hbt:bt s 0=((s.getD 0 0).toNat:Int):=rfl;simp only[hbt];have h82:(((s.getD 0 0).toNat:Int)=82)=(s.getD 0 0=82):=kV _ 82 (by omega);simp only[h82];have htake:(s.take (s.length:Int).toNat).drop (1:Int).toNat=s.drop 1:=by
      rw[show(s.length:Int).toNat=s.length by omega,List.take_length];rfl
     have htrim:s.length<=3->L.trimO ((s.take (s.length:Int).toNat).drop (1:Int).toNat) [48,49,50,51,52,53,54,55,56,57]=some (L.trimDig (s.drop 1),()):=fun h=>by
      rw[htake];unfold L.trimO;rw[if_pos ⟨rfl,by simp;omega⟩]
     have hL:ax s=!qD s:=by
      unfold ax;rw[decide_eq_true (show s≠[] from h0),decide_eq_true h12,show isD (s.getD 0 0)=false by simpa using hd,hw];rfl
     have hT:decide (L.trimDig (s.drop 1)=[])=(s.drop 1).all isD:=by
      rw[Bool.eq_iff_iff,UE,FI]
     rw[hL];unfold qD;by_cases hR:s.getD 0 0=82
     ·rw[if_pos hR,decide_eq_true hR];by_cases h2:s.length=2
      ·rw[if_neg (by omega),if_pos (by omega),htrim (by omega),Uv,decide_eq_true h2];dsimp only;rw[hT];rfl
      ·rw[if_pos (by omega),decide_eq_false h2];by_cases h3:s.length=3
       ·rw[if_pos (by omega),if_pos (by omega),htrim (by omega),Uv,decide_eq_true h3];dsimp only;rw[hT];rfl
       ·rw[if_neg (by omega),decide_eq_false h3];rfl
     ·rw[if_neg hR,decide_eq_false hR];rfl
    ·rw[if_neg hw];simp[ax,hw]
   have hbt:bt s 0=((s.getD 0 0).toNat:Int):=rfl;simp only[hbt];by_cases h48:(48:Int)<=(s.getD 0 0).toNat
   ·rw[if_pos h48,if_pos (by omega)];by_cases h57:((s.getD 0 0).toNat:Int)<=57
    ·rw[if_pos h57];have hd:isD (s.getD 0 0)=true:=by unfold isD;rw[UE];omega
     unfold ax;rw[hd,decide_eq_true (show s≠[] from h0),decide_eq_true h12];rfl
    ·rw[if_neg h57];exact hj (by unfold isD;rw[UE];omega)
   ·rw[if_neg h48];exact hj (by unfold isD;rw[UE];omega)
  ·rw[if_neg (by omega)];simp[ax,h12]
end Rv
namespace Rv
open Go
abbrev Item:=Int×Int×Str×Unit
def az(x:Item):Int×Bool:=
 if x.1=1 then(0,decide (x.2.2.1=[]))
 else if x.1=2 then(0,decide (x.2.1=0)&&ax x.2.2.1)
 else if x.1=3 then(1,decide (x.2.1=0)&&decide (x.2.2.1=[]))
 else if x.1=4\/x.1=5\/x.1=6 then(2,decide (x.2.1=0)&&decide (x.2.2.1=[]))
 else(0,false)
theorem nX(a b:Int)(c:Str):Zbw.g a b c=some ((az (a,b,c,())).1,(az (a,b,c,())).2,()):=by
 unfold Zbw.g Zbw.f;simp only[Zbw.j2,dt,nO,Uv];unfold az;dsimp only;rcases LF (b=0) with hb|hb
 all_goals
  by_cases h1:a=1;·subst h1;simp only[hb,if_true,if_false,decide_true,decide_false]
  by_cases h2:a=2;·subst h2;simp only[hb,if_true,if_false,decide_true,decide_false,Bool.true_and,Bool.false_and,show ¬((2:Int)=1) by decide]
  by_cases h3:a=3;·subst h3;simp only[hb,if_true,if_false,decide_true,decide_false,Bool.true_and,Bool.false_and,show ¬((3:Int)=1) by decide,show ¬((3:Int)=2) by decide]
  by_cases h4:a=4;·subst h4;simp only[hb,if_true,if_false,decide_true,decide_false,Bool.true_and,Bool.false_and,true_or,show ¬((4:Int)=1) by decide,show ¬((4:Int)=2) by decide,show ¬((4:Int)=3) by decide]
  by_cases h5:a=5;·subst h5;simp only[hb,if_true,if_false,decide_true,decide_false,Bool.true_and,Bool.false_and,true_or,or_true,show ¬((5:Int)=1) by decide,show ¬((5:Int)=2) by decide,show ¬((5:Int)=3) by decide,show ¬((5:Int)=4) by decide]
  by_cases h6:a=6;·subst h6;simp only[hb,if_true,if_false,decide_true,decide_false,Bool.true_and,Bool.false_and,true_or,or_true,show ¬((6:Int)=1) by decide,show ¬((6:Int)=2) by decide,show ¬((6:Int)=3) by decide,show ¬((6:Int)=4) by decide,show ¬((6:Int)=5) by decide]
  simp only[hb,h1,h2,h3,h4,h5,h6,if_true,if_false,or_self]
def jG:Int->List Item->Bool
 |t,[]=>decide (t=1)
 |t,x::r=>(az x).2&&(!decide (t<(az x).1)&&jG (t+(1-(az x).1)) r)
def well(e:List Item):Bool:=jG 0 e&&decide (e.length<=64)
theorem F9(x:Item):0<=(az x).1/\(az x).1<=2:=by
 unfold az;split;·simp
 ·split
  ·simp
  ·split
   ·simp
   ·split<;>simp
theorem MN(e:List Item)(he:e.length<=4611686018427387904)(n:Nat):∀(m i:Nat) (t:Int),i<=e.length->e.length-i<m->0<=t->t<=i ->
  Zba.l3 n m e t e (e.length:Int) (i:Int)=some (jG t (e.drop i)&&decide (e.length<=64),()):=by
 intro m
 induction m with
 |zero=>intro i t _ h;omega
 |succ m ih=>
  intro i t hi hm h0 ht;by_cases h1:i<e.length
  ·have hx:e.drop i=e.getD i ((0:Int),((0:Int),(([]:Str),())))::e.drop (i+1):=by
    rw[UX h1,UH,UF h1];rfl
   rw[hx];simp only[Zba.l3,dt,df,nX,Uv];rw[if_pos (by omega),if_pos (by omega),UL];generalize e.getD i ((0:Int),((0:Int),(([]:Str),())))=x;obtain⟨a,b,c,u⟩:=x;cases u;have hr:=F9 (a,b,c,());simp only[jG];generalize az (a,b,c,())=y at *;obtain⟨k,ok⟩:=y;simp only at hr⊢;cases ok;·rfl
   ·rw[if_pos (show(!true)=false from rfl)];by_cases h2:t<k
    ·rw[if_pos h2];simp[h2]
    ·rw[if_neg h2,w64 (x:=1-k) (by omega),w64 (x:=t+(1-k)) (by omega),w64 (x:=(i:Int)+1) (by omega),show(i:Int)+1=((i+1:Nat):Int) by omega];rw[ih (i+1) (t+(1-k)) (by omega) (by omega) (by omega) (by omega)];simp[h2]
  ·have hi':i=e.length:=by omega
   subst hi';simp only[Zba.l3,dt];rw[if_neg (by omega),Vf];simp only[jG];by_cases h3:t=1;·rw[if_pos h3];simp[h3];omega
   ·rw[if_neg h3];simp[h3]
theorem Bf(e:List Item)(he:e.length<=4611686018427387904):Zba.g e=some (well e,()):=by
 unfold Zba.g Zba.f;exact MN e he _ _ 0 0 (by omega) (by omega) (by omega) (by omega)
end Rv
namespace Rv
open Go
abbrev Sym:=Str×Int×Unit
def bC(s:Str):List Sym->Option Int
 |[]=>none
 |x::r=>if x.1=s then some x.2.1 else bC s r
def mM(s:Str):List Sym->Option Nat
 |[]=>none
 |x::r=>if x.1=s then some 0 else(mM s r).map (·+1)
theorem I7(l:List Sym)(s:Str)(hl:l.length<=4611686018427387904)(n:Nat):∀(m i:Nat),i<=l.length->l.length-i<m ->
  Zce.l2 n m l (l.length:Int) (i:Int) s=some ((match mM s (l.drop i) with|some k=>((i+k:Nat):Int)|none=>-1),s,()):=by
 intro m
 induction m with
 |zero=>intro i _ h;omega
 |succ m ih=>
  intro i hi hm;by_cases h1:i<l.length
  ·have hx:l.drop i=l.getD i (([]:Str),((0:Int),()))::l.drop (i+1):=by
    rw[UX h1,UH,UF h1];rfl
   rw[hx];simp only[Zce.l2,dt,Zel.g,Zel.f,Uv];rw[if_pos (by omega),if_pos (by omega),UL];generalize l.getD i (([]:Str),((0:Int),()))=x;unfold mM;by_cases h2:x.1=s;·rw[if_pos h2,if_pos h2];simp
   ·rw[if_neg h2,if_neg h2,w64 (by omega),show(i:Int)+1=((i+1:Nat):Int) by omega,ih (i+1) (by omega) (by omega)];cases mM s (l.drop (i+1)) with
    |none=>rfl
    |some k=>simp only[Vh];rw[show i+1+k=i+(k+1) by omega]
  ·have hi':i=l.length:=by omega
   subst hi';simp only[Zce.l2,dt];rw[if_neg (by omega),Vf];rfl
theorem yU(s:Str):∀{l:List Sym}{k:Nat},mM s l=some k->k<l.length/\bC s l=some (l.getD k (([]:Str),((0:Int),()))).2.1
 |[],_,h=>by cases h
 |x::r,k,h=>by
  unfold mM at h;unfold bC;by_cases h2:x.1=s;·rw[if_pos h2] at h⊢;cases h;exact⟨by simp,rfl⟩
  ·rw[if_neg h2] at h⊢;obtain⟨j,hj,rfl⟩:=Option.map_eq_some_iff.1 h;obtain⟨h3,h4⟩:=yU s hj;exact⟨by simp;omega,by rw[h4];rfl⟩
theorem yT(s:Str):∀{l:List Sym},mM s l=none->bC s l=none
 |[],_=>rfl
 |x::r,h=>by
  unfold mM at h;unfold bC;by_cases h2:x.1=s;·rw[if_pos h2] at h;cases h
  ·rw[if_neg h2] at h⊢;exact yT s (Option.map_eq_none_iff.1 h)
theorem Ai(l:List Sym)(s:Str)(hl:l.length<=4611686018427387904):Zcf.g l s=some ((bC s l).getD 0,(bC s l).isSome,()):=by
 unfold Zcf.g Zcf.f Zce.g Zce.f;rw[show(0:Int)=((0:Nat):Int) from rfl,I7 l s hl _ _ 0 (by omega) (by omega),Uv,U3];dsimp only;cases h:mM s l with
 |none=>
  rw[yT s h];rfl
 |some k=>
  obtain⟨h1,h2⟩:=yU s h;rw[h2];simp only[dt];rw[if_neg (by omega),if_pos (by omega)];simp
end Rv
namespace Rv
open Go
abbrev Val:=Int×Int×Unit
theorem zw(l:List Val)(v:Val)(hl:l.length<=4611686018427387904):Zbo.g (l++[v])=some (v.1,v.2.1,l,()):=by
 unfold Zbo.g Zbo.f;have e1:IntKind.i64.wrap (((l++[v]).length:Int)-1)=(l.length:Int):=by
  rw[w64 (by simp;omega)];simp
 have e2:(l++[v]).getD l.length ((0:Int),((0:Int),()))=v:=by
  rw[UH,List.getElem?_append_right (Uz _)];simp
 rw[e1,UL,if_pos (by simp;omega),if_pos (by simp;omega),e2,List.take_left]
def jF(labels:List Sym)(st:List Val)(x:Item):Except Int (List Val):=
 if x.1=2 then match bC x.2.2.1 labels with
  |some a=>.ok (st++[(IntKind.u32.wrap a,1,())])
  |none=>.error 25
 else if x.1=3 then match st.getLast? with
  |some v=>.ok (st.dropLast++[(IntKind.u32.wrap (0-v.1),IntKind.i64.wrap (0-v.2.1),())])
  |none=>.error 99
 else if x.1=4\/x.1=5\/x.1=6 then match st.getLast?,st.dropLast.getLast? with
  |some b,some a=>
   if x.1=4 then .ok (st.dropLast.dropLast++[(IntKind.u32.wrap (a.1+b.1),IntKind.i64.wrap (a.2.1+b.2.1),())])
   else if x.1=5 then .ok (st.dropLast.dropLast++[(IntKind.u32.wrap (a.1-b.1),IntKind.i64.wrap (a.2.1-b.2.1),())])
   else if a.2.1=0/\b.2.1=0 then .ok (st.dropLast.dropLast++[(IntKind.u32.wrap (a.1*b.1),0,())])
   else .error 27
  |_,_=>.error 99
 else .ok (st++[(x.2.1,0,())])
def jK(labels:List Sym):List Val->List Item->Except Int (List Val)
 |st,[]=>.ok st
 |st,x::r=>match jF labels st x with
  | .ok st=>jK labels st r
  | .error e=>.error e
theorem CE(a b:Int):Zde.g a b (-1)=some (IntKind.u32.wrap (0-a),IntKind.i64.wrap (0-b),()):=by
 unfold Zde.g Zde.f;have e1:IntKind.u32.wrap (-1)=4294967295:=by rw[IntKind.wrap_u32];rfl
 have e2:IntKind.u32.wrap (4294967295*a)=IntKind.u32.wrap (0-a):=by rw[IntKind.wrap_u32,IntKind.wrap_u32];omega
 rw[e1,e2,show -1*b=0-b by omega]
theorem Ti(a b c d:Int):Zem.g a b c d=some (IntKind.u32.wrap (a+c),IntKind.i64.wrap (b+d),()):=rfl
theorem FU(a b:Int):IntKind.i64.wrap (a+IntKind.i64.wrap (0-b))=IntKind.i64.wrap (a-b):=by
 rw[IntKind.wrap_i64,IntKind.wrap_i64,IntKind.wrap_i64];omega
theorem Gr(a b:Int):IntKind.u32.wrap (a+IntKind.u32.wrap (0-b))=IntKind.u32.wrap (a-b):=by
 rw[IntKind.wrap_u32,IntKind.wrap_u32,IntKind.wrap_u32];omega
end Rv
namespace Rv
open Go
def Di(st:List Val):Option (Int×Int×Int×Unit):=
 match st.getLast? with
 |some v=>some (v.1,v.2.1,0,())
 |none=>none
theorem Rc(labels:List Sym)(e:List Item)(n:Nat)(rl)(t:Int)(i:Nat)(hi:i<=1000)(b0 b1:Int)(st:List Val)(hst:st.length<=1000)(v0 v1:Int) :
  Zai.j27 n rl labels e t (i:Int) b0 b1 st v0 v1=rl labels e t ((i+1:Nat):Int) b0 b1 (st++[(v0,v1,())]):=by
 unfold Zai.j27;rw[if_pos (by simp;omega),w64 (by omega)];rfl
theorem l8(st:List Val):st=[]\/∃l v,st=l++[v]:=by
 rcases List.eq_nil_or_concat st with h|⟨l,v,h⟩;·exact .inl h
 ·exact .inr ⟨l,v,by rw[h,List.concat_eq_append]⟩
theorem dN(l:List Val)(v:Val):(l++[v]).getLast?=some v/\(l++[v]).dropLast=l:=by simp
theorem Ra(labels:List Sym)(hlab:labels.length<=4611686018427387904)(e:List Item)(he:e.length<=999)(n:Nat):∀(m i:Nat) (st:List Val) (b0 b1:Int),i<=e.length->e.length-i<m->jG (st.length:Int) (e.drop i)=true->st.length<=i ->
  Zai.l5 n m labels e (e.length:Int) (i:Int) b0 b1 st=match jK labels st (e.drop i) with
   | .error x=>some (0,0,x,())
   | .ok st'=>Di st':=by
 intro m
 induction m with
 |zero=>intro i st b0 b1 _ h;omega
 |succ m ih=>
  intro i st b0 b1 hi hm hw hst;by_cases h1:i<e.length
  ·have hx:e.drop i=e.getD i ((0:Int),((0:Int),(([]:Str),())))::e.drop (i+1):=by
    rw[UX h1,UH,UF h1];rfl
   rw[hx] at hw⊢;simp only[Zai.l5,dt,df];rw[if_pos (by omega),if_pos (by omega),UL];generalize e.getD i ((0:Int),((0:Int),(([]:Str),())))=x at hw⊢;obtain⟨a,b,c,u⟩:=x;cases u;simp only[jG,UB,Bool.not_eq_true',decide_eq_false_iff_not] at hw;obtain⟨hk,hlt,hw⟩:=hw;have next:∀(s:List Val) (v0 v1:Int),s.length+1<=i+1->jG ((s.length+1:Nat):Int) (e.drop (i+1))=true ->
     Zai.j27 n (Zai.l5 n m) labels e (e.length:Int) (i:Int) b0 b1 s v0 v1=match jK labels (s++[(v0,v1,())]) (e.drop (i+1)) with
      | .error x=>some (0,0,x,())
      | .ok st'=>Di st':=fun s v0 v1 hs hws=>by
    rw[Rc labels e n _ _ i (by omega) b0 b1 s (by omega) v0 v1];exact ih (i+1) _ b0 b1 (by omega) (by omega) (by simpa using hws) (by simpa using hs)
   simp only[jK,jF];by_cases k2:a=2
   ·subst k2;rw[if_pos rfl,if_pos rfl,Ai labels c hlab,Uv];have e0:(az (2,b,c,())).1=0:=rfl;rw[e0] at hw;cases hf:bC c labels with
    |none=>rfl
    |some at_=>
     dsimp only[Option.isSome,Option.getD];rw[if_neg (by simp)];exact next st _ 1 (by omega) (by simpa using hw)
   ·rw[if_neg k2,if_neg k2];by_cases k3:a=3
    ·subst k3;have e0:(az (3,b,c,())).1=1:=rfl;rw[e0] at hlt hw;rcases l8 st with rfl|⟨l,v,rfl⟩
     ·simp at hlt
     ·obtain⟨g1,g2⟩:=dN l v;rw[if_pos rfl,if_pos rfl,g1,g2,zw l v (by simp at hst;omega),Uv];dsimp only;rw[CE,Uv];exact next l _ _ (by simp at hst;omega) (by simpa using hw)
    ·rw[if_neg k3,if_neg k3];by_cases k4:a=4\/a=5\/a=6
     ·have e0:(az (a,b,c,())).1=2:=by
       unfold az;rcases k4 with rfl|rfl|rfl<;>rfl
      rw[e0] at hlt hw;rcases l8 st with rfl|⟨l0,v,rfl⟩;·simp at hlt
      ·rcases l8 l0 with rfl|⟨l,w,rfl⟩
       ·simp at hlt
       ·obtain⟨g1,g2⟩:=dN (l++[w]) v;obtain⟨g3,g4⟩:=dN l w;have hl:l.length<=1000:=by simp at hst;omega
        have hn:=next l
        rw[if_pos k4,g1,g2,g3,g4,zw (l++[w]) v (by simp;omega),Uv];dsimp only;have hp2:=zw l w (by omega);simp only[hp2,Uv,Ti,CE,Gr,FU];have hs1:l.length+1<=i+1:=by simp at hst;omega
        have hw1:jG ((l.length+1:Nat):Int) (e.drop (i+1))=true:=by
         have:((l++[w]++[v]).length:Int)+(1-2)=((l.length+1:Nat):Int):=by simp;omega
         rw[<- this];exact hw
        rcases k4 with rfl|rfl|rfl;·rw[if_pos rfl,if_pos rfl,Int.add_comm v.1 w.1,Int.add_comm v.2.1 w.2.1];exact next l _ _ hs1 hw1
        ·rw[if_neg (show ¬(5:Int)=4 by decide),if_neg (show ¬(5:Int)=4 by decide),if_pos rfl,if_pos rfl];exact next l _ _ hs1 hw1
        ·rw[if_neg (show ¬(6:Int)=4 by decide),if_neg (show ¬(6:Int)=4 by decide),if_neg (show ¬(6:Int)=5 by decide),if_neg (show ¬(6:Int)=5 by decide),if_pos rfl];by_cases z1:v.2.1=0
         ·by_cases z2:w.2.1=0
          ·rw[if_pos (show w.2.1=0/\v.2.1=0 from⟨z2,z1⟩)];simp only[z1,z2,decide_true,Bool.and_self,Bool.not_true,if_true];rw[if_neg (by decide),Int.mul_comm v.1 w.1];exact next l _ _ hs1 hw1
          ·rw[if_neg (show ¬(w.2.1=0/\v.2.1=0) from fun h=>z2 h.1)];simp[z1,z2]
         ·rw[if_neg (show ¬(w.2.1=0/\v.2.1=0) from fun h=>z1 h.2)];simp[z1]
     ·have ha:a=1:=by
       apply Classical.byContradiction;intro h1';have:(az (a,b,c,())).2=false:=by
        unfold az;simp[h1',k2,k3,k4]
       rw[this] at hk;cases hk
      subst ha;have e0:(az (1,b,c,())).1=0:=rfl;rw[e0] at hw;rw[if_neg k4,if_neg (show ¬(1:Int)=4 by decide),if_neg (show ¬(1:Int)=5 by decide),if_neg (show ¬(1:Int)=6 by decide)];exact next st b 0 (by omega) (by simpa using hw)
  ·have hi':i=e.length:=by omega
   subst hi';simp only[Zai.l5,dt];rw[if_neg (by omega),Vf];simp only[jK];rw[Vf] at hw;rcases l8 st with rfl|⟨l,v,rfl⟩;·simp[jG] at hw
   ·rw[zw l v (by simp at hst;omega),Uv];simp[Di]
def ofR(labels:List Sym)(e:List Item):Option (Int×Int×Int×Unit):=
 if well e=true then(match jK labels [] e with
  | .error x=>some (0,0,x,())
  | .ok st=>Di st)
 else some (0,0,23,())
theorem Js(labels:List Sym)(hlab:labels.length<=4611686018427387904)(e:List Item)(he:e.length<=4611686018427387904):Zai.g e labels=ofR labels e:=by
 unfold Zai.g Zai.f ofR;rw[Bf e he,Uv];dsimp only;by_cases hw:well e=true;·rw[hw,if_neg (by decide),if_pos rfl];unfold well at hw;rw[UB,UE] at hw;exact Ra labels hlab e (by omega) _ _ 0 [] 0 0 (by omega) (by omega) (by simpa using hw.1) (by simp)
 ·have hw':well e=false:=by simpa using hw
  rw[hw'];rfl
end Rv
namespace Rv
open Go
def enough:Int->List Item->Option Int
 |t,[]=>some t
 |t,x::r=>if(az x).2=true/\¬t<(az x).1 then enough (t+(1-(az x).1)) r else none
theorem ow:∀(e:List Item) (t:Int),(jG t e=true)=(enough t e=some 1)
 |[],t=>by simp[jG,enough]
 |x::r,t=>by
  simp only[jG,enough,UB,Bool.not_eq_true',decide_eq_false_iff_not];by_cases h:(az x).2=true/\¬t<(az x).1;·rw[if_pos h,<- ow r];simp[h.1,h.2]
  ·rw[if_neg h];apply propext;constructor
   ·intro h';exact absurd ⟨h'.1,h'.2.1⟩ h
   ·intro h';cases h'
theorem mJ:∀(a b:List Item) (t:Int),enough t (a++b)=(enough t a).bind fun k=>enough k b
 |[],b,t=>rfl
 |x::a,b,t=>by
  simp only[List.cons_append,enough];split;·exact mJ a b _
  ·rfl
def fZ(e:List Item):Prop:=enough 0 e=some 1
theorem uu:∀(e:List Item) (t k j:Int),0<=j->enough t e=some k->enough (t+j) e=some (k+j)
 |[],t,k,j,_,h=>by
  simp only[enough,Uw] at h⊢;omega
 |x::e,t,k,j,hj,h=>by
  simp only[enough] at h⊢;split at h;·rename_i hc;rw[if_pos ⟨hc.1,by omega⟩,show t+j+(1-(az x).1)=(t+(1-(az x).1))+j by omega];exact uu e _ k j hj h
  ·cases h
theorem Bg{e:List Item}(h:fZ e)(hl:e.length<=64):well e=true:=by
 unfold well;rw[UB,UE,ow];exact⟨h,hl⟩
theorem PD{a b:List Item}(ha:fZ a)(hb:fZ b)(x:Item)(hx:az x=(2,true)):fZ (a++b++[x]):=by
 unfold fZ at *;have h1:enough 1 b=some 2:=uu b 0 1 1 (by omega) hb;rw[mJ,mJ,ha,Uv,h1,Uv];simp[enough,hx]
theorem Pz{a:List Item}(ha:fZ a)(x:Item)(hx:az x=(1,true)):fZ (a++[x]):=by
 unfold fZ at *;rw[mJ,ha,Uv];simp[enough,hx]
end Rv
namespace Rv
open Go
theorem Pn(labels:List Sym)(x:Item)(st st':List Val)(hk:(az x).2=true)(hl:¬(st.length:Int)<(az x).1)(h:jF labels st x=.ok st'):(st'.length:Int)=st.length+(1-(az x).1):=by
 obtain⟨a,b,c,u⟩:=x;cases u;unfold jF at h;dsimp only at h;by_cases k2:a=2
 ·subst k2;rw[if_pos rfl] at h;have e0:(az (2,b,c,())).1=0:=rfl;rw[e0];split at h
  ·cases h;simp
  ·cases h
 ·rw[if_neg k2] at h;by_cases k3:a=3
  ·subst k3;have e0:(az (3,b,c,())).1=1:=rfl;rw[e0] at hl⊢;rcases l8 st with rfl|⟨l,v,rfl⟩
   ·simp at hl
   ·rw[if_pos rfl,(dN l v).1,(dN l v).2] at h;cases h;simp
  ·rw[if_neg k3] at h;by_cases k4:a=4\/a=5\/a=6
   ·have e0:(az (a,b,c,())).1=2:=by
     unfold az;rcases k4 with rfl|rfl|rfl<;>rfl
    rw[e0] at hl⊢;rcases l8 st with rfl|⟨l0,v,rfl⟩;·simp at hl
    ·rcases l8 l0 with rfl|⟨l,w,rfl⟩
     ·simp at hl
     ·rw[if_pos k4,(dN _ v).1,(dN _ v).2,(dN l w).1,(dN l w).2] at h;dsimp only at h;split at h
      ·cases h;simp;omega
      ·split at h
       ·cases h;simp;omega
       ·split at h
        ·cases h;simp;omega
        ·cases h
   ·rw[if_neg k4] at h;have ha:a=1:=by
     apply Classical.byContradiction;intro h1';have:(az (a,b,c,())).2=false:=by
      unfold az;simp[h1',k2,k3,k4]
     rw[this] at hk;cases hk
    subst ha;have e0:(az (1,b,c,())).1=0:=rfl;rw[e0];cases h;simp
def onE(f:List Val->List Val):Except Int (List Val)->Except Int (List Val)
 | .ok l=>.ok (f l)
 | .error e=>.error e
theorem Ms(labels:List Sym)(x:Item)(base st:List Val)(hl:¬(st.length:Int)<(az x).1):jF labels (base++st) x=onE (base++·) (jF labels st x):=by
 obtain⟨a,b,c,u⟩:=x;cases u;unfold jF;dsimp only;by_cases k2:a=2
 ·subst k2;rw[if_pos rfl,if_pos rfl];cases bC c labels with
  |none=>rfl
  |some y=>simp[onE]
 ·rw[if_neg k2,if_neg k2];by_cases k3:a=3
  ·subst k3;have e0:(az (3,b,c,())).1=1:=rfl;rw[e0] at hl;rcases l8 st with rfl|⟨l,v,rfl⟩
   ·simp at hl
   ·rw[if_pos rfl,if_pos rfl,<- UM,(dN (base++l) v).1,(dN (base++l) v).2,(dN l v).1,(dN l v).2];simp[onE]
  ·rw[if_neg k3,if_neg k3];by_cases k4:a=4\/a=5\/a=6
   ·have e0:(az (a,b,c,())).1=2:=by
     unfold az;rcases k4 with rfl|rfl|rfl<;>rfl
    rw[e0] at hl;rcases l8 st with rfl|⟨l0,v,rfl⟩;·simp at hl
    ·rcases l8 l0 with rfl|⟨l,w,rfl⟩
     ·simp at hl
     ·rw[if_pos k4,if_pos k4,<- UM,<- UM,(dN (base++l++[w]) v).1,(dN (base++l++[w]) v).2,(dN (base++l) w).1,(dN (base++l) w).2,(dN (l++[w]) v).1,(dN (l++[w]) v).2,(dN l w).1,(dN l w).2];dsimp only;split
      ·simp[onE]
      ·split
       ·simp[onE]
       ·split
        ·simp[onE]
        ·rfl
   ·rw[if_neg k4,if_neg k4];simp[onE]
theorem E5(labels:List Sym):∀(e:List Item) (base st:List Val) (k:Int),enough (st.length:Int) e=some k->jK labels (base++st) e=onE (base++·) (jK labels st e)/\∀st',jK labels st e=.ok st'->(st'.length:Int)=k
 |[],base,st,k,h=>by
  simp only[enough,Uw] at h;exact⟨rfl,fun st' h'=>by cases h';exact h⟩
 |x::e,base,st,k,h=>by
  simp only[enough] at h;split at h
  ·rename_i hc;simp only[jK];rw[Ms labels x base st hc.2];cases hs:jF labels st x with
   |error er=>exact⟨rfl,fun st' h'=>by cases h'⟩
   |ok s2=>
    have hl:=Pn labels x st s2 hc.1 hc.2 hs;rw[<- hl] at h;exact E5 labels e base s2 k h
  ·cases h
end Rv
namespace Rv
open Go
theorem O9(labels:List Sym){e:List Item}(h:fZ e):(∃x,jK labels [] e=.error x)\/∃v,jK labels [] e=.ok [v]:=by
 obtain⟨_,h2⟩:=E5 labels e [] [] 1 h;cases hr:jK labels [] e with
 |error x=>exact .inl ⟨x,rfl⟩
 |ok st=>
  have:=h2 st hr
  match st,this with
  |[v],_=>exact .inr ⟨v,rfl⟩
end Rv
namespace Rv
open Go
def mv(by':Int)(v:Val):Val:=(IntKind.u32.wrap (v.1+by'*v.2.1),v.2.1,())
end Rv
namespace Rv
open Go
def bM(x:Ln):Nat:=if x.2.1.1=0\/x.2.1.1=10 then 0 else 1
theorem sM(x:Ln):bM x<=1:=by unfold bM;split<;>omega
def bF:List Ln->Nat->List Int->List Sym->Nat->Except (Nat×Int) (List Int×List Sym×Nat)
 |[],_,a,lb,c=>.ok (a,lb,c)
 |x::r,i,a,lb,c=>
  if x.1=[] then bF r (i+1) (a++[((4*c:Nat):Int)]) lb (c+bM x)
  else if(bC x.1 lb).isSome=true then .error (i+1,26)
  else bF r (i+1) (a++[((4*c:Nat):Int)]) (lb++[(x.1,((4*c:Nat):Int),())]) (c+bM x)
def zX(p:List Val)(v:Val):List Val:=if v∈p then p else p++[v]
def vOf(lb:List Sym)(e:List Item):Int×Int×Int×Unit:=(ofR lb e).getD (0,0,99,())
def dB(lb:List Sym):List Ln->Nat->List Val->Except (Nat×Int) (List Val)
 |[],_,p=>.ok p
 |x::r,i,p=>
  if x.2.1.1=8 then
   (if(vOf lb x.2.1.2.2.2.2.2.2.1).2.2.1≠0 then .error (i+1,(vOf lb x.2.1.2.2.2.2.2.2.1).2.2.1)
   else if(vOf lb x.2.1.2.2.2.2.2.2.1).2.1<0\/1<(vOf lb x.2.1.2.2.2.2.2.2.1).2.1 then .error (i+1,27)
   else dB lb r (i+1) (zX p ((vOf lb x.2.1.2.2.2.2.2.2.1).1,(vOf lb x.2.1.2.2.2.2.2.2.1).2.1,())))
  else dB lb r (i+1) p
abbrev yD:=List Int×List Sym×List Val×Int×Int×Int×Int×Unit
def zn(i:Nat)(e:Int):yD:=([],[],[],0,0,(i:Int),e,())
def zu(t:List Int)(lb:List Sym)(c:Nat):Except (Nat×Int) (List Val)->yD
 | .error x=>zn x.1 x.2
 | .ok p=>if 1024<c+p.length then zn 0 2 else(t,lb,p,((4*c:Nat):Int),((c+p.length:Nat):Int),0,0,())
def Dk(l:List Ln):Except (Nat×Int) (List Int×List Sym×Nat)->yD
 | .error x=>zn x.1 x.2
 | .ok r=>zu r.1 r.2.1 r.2.2 (dB r.2.1 l 0 [])
def dY(l:List Ln):yD:=Dk l (bF l 0 [] [] 0)
def yg(v:Val):List Val->Nat
 |[]=>0
 |x::r=>if x=v then 0 else yg v r+1
theorem Hf(labels:List Sym)(e:List Item):∃v1 v2 x,ofR labels e=some (v1,v2,x,()):=by
 unfold ofR;by_cases hw:well e=true
 ·rw[if_pos hw];unfold well at hw;rw[UB,UE] at hw;have hwl:fZ e:=by unfold fZ;rw[<- ow];exact hw.1
  rcases O9 labels hwl with⟨x,hx⟩|⟨v,hv⟩;·rw[hx];exact⟨0,0,x,rfl⟩
  ·rw[hv];exact⟨v.1,v.2.1,0,rfl⟩
 ·rw[if_neg hw];exact⟨0,0,23,rfl⟩
theorem Hg(labels:List Sym)(e:List Item):ofR labels e=some (vOf labels e):=by
 obtain⟨a,b,c,h⟩:=Hf labels e;unfold vOf;rw[h];rfl
theorem mV:∀(l:List Ln) (i:Nat) (a:List Int) (lb:List Sym) (c:Nat) {r},bF l i a lb c=.ok r->r.1.length=a.length+l.length/\r.2.1.length<=lb.length+l.length/\r.2.2<=c+l.length
 |[],_,a,lb,c,r,h=>by cases h;simp
 |x::t,i,a,lb,c,r,h=>by
  have hs:=sM x;unfold bF at h;split at h;·have:=mV t _ _ _ _ h;simp at this⊢;omega
  ·split at h
   ·cases h
   ·have:=mV t _ _ _ _ h;simp at this⊢;omega
theorem DD(p:List Val)(v:Val):(zX p v).length<=p.length+1:=by unfold zX;split<;>simp
theorem oO(lb:List Sym):∀(l:List Ln) (i:Nat) (p:List Val) {r},dB lb l i p=.ok r->r.length<=p.length+l.length
 |[],_,p,r,h=>by cases h;simp
 |x::t,i,p,r,h=>by
  unfold dB at h;split at h
  ·split at h
   ·cases h
   ·split at h
    ·cases h
    ·have:=oO lb t _ _ h;have:=DD p ((vOf lb x.2.1.2.2.2.2.2.2.1).1,(vOf lb x.2.1.2.2.2.2.2.2.1).2.1,());simp;omega
  ·have:=oO lb t _ _ h;simp;omega
end Rv
namespace Rv
open Go
abbrev eL(x:Ln):List Item:=x.2.1.2.2.2.2.2.2.1
theorem zk(lb:List Sym):∀(l:List Ln) (i:Nat) (p:List Val),(∀x∈l,x.2.1.1≠8)->dB lb l i p=.ok p
 |[],_,_,_=>rfl
 |x::r,i,p,h=>by
  rw[dB,if_neg (h x (by simp))];exact zk lb r _ _ fun y hy=>h y (by simp[hy])
end Rv
namespace Rv
open Go
def isA(b:UInt8):Bool:=decide (65<=b.toNat/\b.toNat<=90\/97<=b.toNat/\b.toNat<=122)
theorem TD(b:UInt8):isL b=(isA b||decide (b.toNat=95)):=by
 unfold isL isA;rw[Bool.eq_iff_iff];simp only[UE,Bool.or_eq_true];omega
def bZ(s:Str):Bool:=decide (s≠[])&&decide (s.length<=12)&&isA (s.getD 0 0)&&!qD s&&s.all isW
end Rv
namespace Rv
open Go
end Rv
namespace Rv
open Go
end Rv
namespace Rv
open Go
end Rv
namespace Rv
open Go
def xH(x:Item):Prop:=0<=x.2.1/\x.2.1<=4294967295/\(az x).2=true
end Rv
namespace Rv
open Go
end Rv
namespace Rv
open Go
end Rv
namespace Rv
open Go
end Rv
namespace Rv
open Go
end Rv
