/- Texts put together. -/
import Derived.Test.YtfhnodllolpjgaaGreatDoorM1
import Derived.Test.YtfhnodllolpjgaaGreatDoorG6
import Derived.Test.YtfhnodllolpjgaaGreatDoorG1
import Derived.IntWalk
set_option linter.all false
namespace Rv
open Go Go.Proofs
noncomputable section
set_option maxRecDepth 100000
set_option maxHeartbeats 2000000
variable{ad:LQ}
abbrev u0:Ty:=.pair (.int .i64) (.pair (.int .i64) (.pair .str (.pair (.int .u32) .nil)))
abbrev u1:Ty:=.pair (.int .i64) (.pair (.int .u32) (.pair .str .nil))
abbrev u2:Ty:=.pair .str (.pair (.pair (.int .i64) (.pair (.int .i64) (.pair (.int .i64) (.pair (.int .i64) (.pair (.int .i64) (.pair .bool (.pair (.sl (.pair (.int .i64) (.pair (.int .u32) (.pair .str .nil)))) (.pair .str .nil)))))))) .nil)
abbrev u3:Ty:=.pair .str (.pair (.int .i64) .nil)
abbrev u4:Ty:=.pair (.int .u32) (.pair (.int .i64) .nil)
abbrev u5:Ty:=.pair (.int .i64) (.pair (.int .i64) (.pair (.int .i64) .nil))
abbrev u6:Ty:=.pair .fn (.pair .fn .nil)
abbrev u7:Ty:=.pair (.sl (.int .u32)) (.pair (.sl (.int .i64)) (.pair (.sl (.pair .str (.pair (.int .i64) .nil))) .nil))
abbrev u8:Ty:=.pair (.int .i64) (.pair (.int .i64) (.pair (.int .i64) (.pair (.int .i64) (.pair (.int .i64) (.pair .bool (.pair (.sl (.pair (.int .i64) (.pair (.int .u32) (.pair .str .nil)))) (.pair .str .nil)))))))
abbrev u9:Ty:=.pair (.sl (.int .i64)) (.pair (.sl (.pair .str (.pair (.int .i64) .nil))) (.pair (.sl (.pair (.int .u32) (.pair (.int .i64) .nil))) (.pair (.int .i64) (.pair (.int .i64) .nil))))
abbrev u10:Ty:=.pair (.pair (.sl (.int .i64)) (.pair (.sl (.pair .str (.pair (.int .i64) .nil))) (.pair (.sl (.pair (.int .u32) (.pair (.int .i64) .nil))) (.pair (.int .i64) (.pair (.int .i64) .nil))))) (.pair (.pair (.sl (.int .u32)) (.pair (.sl (.int .i64)) (.pair (.sl (.pair .str (.pair (.int .i64) .nil))) .nil))) .nil)
abbrev u11:Ty:=.pair (.int .i64) (.pair (.int .i64) (.pair (.int .i64) (.pair (.int .i64) (.pair (.int .i64) (.pair (.int .i64) (.pair .bool .nil))))))
abbrev u12:Ty:=.pair (.int .i64) (.pair (.int .i64) .nil)
abbrev u13:Ty:=.pair (.sl (.pair (.int .i64) (.pair (.int .i64) (.pair .str (.pair (.int .u32) .nil))))) (.pair (.int .i64) (.pair (.int .i64) .nil))
abbrev u14:Ty:=.pair (.sl (.pair (.int .i64) (.pair (.int .i64) (.pair .str (.pair (.int .u32) .nil))))) (.pair (.int .i64) (.pair (.sl (.pair (.int .i64) (.pair (.int .u32) (.pair .str .nil)))) (.pair (.int .i64) .nil)))
abbrev c0:List CD:=[ki,ki,ki,ki,ki,.bool,.sl u1,.str]
abbrev c1:List CD:=[.sl u0,ki,.row 44 u1,ki]
abbrev c2:List CD:=[.str,ki,ki,ki,ki,ki,.bool,.sl u1,.str]
abbrev c3:List CD:=[.row 3 (.int .i64),.row 75 u3,.sl u4,ki,ki]
abbrev c4:List CD:=[.sl (.int .i64),.sl u3,.sl u4,ki,ki,.row 42 (.int .u32),.row 3 (.int .i64),.row 75 u3]
abbrev c5:List CD:=[ki,ki,ki,ki,ki,ki,.bool]
abbrev c6:List CD:=[.row 42 (.int .u32),.row 3 (.int .i64),.row 75 u3]
abbrev c7:List CD:=[.sl (.int .i64),.sl u3,.sl u4,ki,ki]
abbrev c8:List CD:=[.sl (.int .u32),.sl (.int .i64),.sl u3]
def types:List (TypeId×TI):=[
 tI 2 .i64 8,
 tI 3 .i64 8,
 tB 4 1,
 tI 5 .u8 1,
 tS 9 16,
 tI 21 .i32 4,
 tL 22 41 u2,
 tL 24 42 (.int .u32),
 tL 25 3 (.int .i64),
 tL 26 75 u3,
 (28,⟨3,true,72,[.nilS,.nilS,.nilS],[(0,1,false),(1,1,false),(2,1,false)],none,some u7,none,false,false,false,none,none⟩),
 tI 29 .i64 8,
 tL 37 44 u1,
 (39,⟨8,true,88,[.int .i64 0,.int .i64 0,.int .i64 0,.int .i64 0,.int .i64 0,.bool false,.nilS,.str []],[(0,1,false),(1,1,false),(2,1,false),(3,1,false),(4,1,false),(5,1,false),(6,1,false),(7,1,false)],none,some u8,none,false,false,false,none,none⟩),
 (41,⟨9,true,104,[.str [],.int .i64 0,.int .i64 0,.int .i64 0,.int .i64 0,.int .i64 0,.bool false,.nilS,.str []],[(0,1,false),(1,8,true)],none,some u2,none,false,false,false,none,none⟩),
 tI 42 .u32 4,
 (44,⟨3,true,32,[.int .i64 0,.int .u32 0,.str []],[(0,1,false),(1,1,false),(2,1,false)],none,some u1,none,false,false,false,none,none⟩),
 tL 53 5 (.int .u8),
 tL 60 70 u4,
 (62,⟨5,true,88,[.nilS,.nilS,.nilS,.int .i64 0,.int .i64 0],[(0,1,false),(1,1,false),(2,1,false),(3,1,false),(4,1,false)],none,some u9,none,false,false,false,none,none⟩),
 (65,⟨1,false,8,[.raw (.pointer none)],[],none,none,none,false,false,false,none,none⟩),
 (67,⟨8,true,160,[.nilS,.nilS,.nilS,.int .i64 0,.int .i64 0,.nilS,.nilS,.nilS],[(0,5,true),(5,3,true)],none,some u10,none,false,false,false,none,none⟩),
 (70,⟨2,true,16,[.int .u32 0,.int .i64 0],[(0,1,false),(1,1,false)],none,some u4,none,false,false,false,some u4,none⟩),
 (75,⟨2,true,24,[.str [],.int .i64 0],[(0,1,false),(1,1,false)],none,some u3,none,false,false,false,some u3,none⟩),
 tL 81 9 .str,
 tL 106 167 u0,
 (112,⟨1,false,8,[.raw .nilFunc],[],none,some .fn,none,false,false,false,none,none⟩),
 tL 117 112 .fn,
 (121,⟨7,true,56,[.int .i64 0,.int .i64 0,.int .i64 0,.int .i64 0,.int .i64 0,.int .i64 0,.bool false],[(0,1,false),(1,1,false),(2,1,false),(3,1,false),(4,1,false),(5,1,false),(6,1,false)],none,some u11,none,false,false,false,some u11,none⟩),
 tL 142 147 u6,
 (144,⟨1,false,8,[.raw .nilFunc],[],none,some .fn,none,false,false,false,none,none⟩),
 (145,⟨1,false,8,[.raw .nilFunc],[],none,some .fn,none,false,false,false,none,none⟩),
 (147,⟨2,true,16,[.raw .nilFunc,.raw .nilFunc],[(0,1,false),(1,1,false)],none,some u6,none,false,false,false,none,none⟩),
 (153,⟨1,false,16,[.raw .nilIface],[],none,none,none,false,true,false,none,none⟩),
 tI 158 .u64 8,
 (167,⟨4,true,40,[.int .i64 0,.int .i64 0,.str [],.int .u32 0],[(0,1,false),(1,1,false),(2,1,false),(3,1,false)],none,some u0,none,false,false,false,none,none⟩),
 tL 177 70 u4,
 (185,⟨2,true,16,[.int .i64 0,.int .i64 0],[],none,some u12,none,false,false,false,none,some 2⟩),
 (192,⟨3,true,40,[.nilS,.int .i64 0,.int .i64 0],[(0,1,false),(1,1,false),(2,1,false)],none,some u13,none,false,false,false,none,none⟩),
 (203,⟨1,false,8,[.raw .nilFunc],[],none,some .fn,none,false,false,false,none,none⟩),
 tI 229 .u64 8,
 (243,⟨3,true,24,[.int .i64 0,.int .i64 0,.int .i64 0],[],none,some u5,none,false,false,false,none,some 3⟩),
 (253,⟨1,false,8,[.raw (.pointer none)],[],none,none,none,false,false,false,none,none⟩),
 (255,⟨4,true,64,[.nilS,.int .i64 0,.nilS,.int .i64 0],[(0,1,false),(1,1,false),(2,1,false),(3,1,false)],none,some u14,none,false,false,false,none,none⟩),
 tL 256 258 u3,
 (258,⟨2,true,24,[.str [],.int .i64 0],[(0,1,false),(1,1,false)],none,some u3,none,false,false,false,none,none⟩),
 tL 266 243 u5,
 tI 273 .i64 8]
theorem iM:(types.all fun p=>jU P p.1 p.2)=true:=by kernel_rfl
def internal_strconv_underscoreOK.T(ad:LQ):TF P (LW ad):=⟨242,[],internal_strconv_underscoreOK.sp,internal_strconv_underscoreOK.sat,internal_strconv_underscoreOK.enter⟩
def strconv_toError.T(ad:LQ):TF P (LW ad):=⟨218,[],strconv_toError.sp,strconv_toError.sat,strconv_toError.enter⟩
def strings_CutPrefix.T(ad:LQ):TF P (LW ad):=⟨181,[],strings_CutPrefix.sp,strings_CutPrefix.sat,strings_CutPrefix.enter⟩
def strings_Contains.T(ad:LQ):TF P (LW ad):=⟨182,[],strings_Contains.sp,strings_Contains.sat,strings_Contains.enter⟩
def strings_IndexByte.T(ad:LQ):TF P (LW ad):=⟨138,[],strings_IndexByte.sp,strings_IndexByte.sat,strings_IndexByte.enter⟩
def strings_Trim.T(ad:LQ):TF P (LW ad):=⟨106,[],strings_Trim.sp,strings_Trim.sat,strings_Trim.enter⟩
def strconv_Itoa.T(ad:LQ):TF P (LW ad):=⟨187,[],strconv_Itoa.sp,strconv_Itoa.sat,strconv_Itoa.enter⟩
def name_Of.T(ad:LQ):TF P (LW ad):=⟨140,[],name_Of.sp,name_Of.sat,name_Of.enter⟩
def stmt_operands.T(ad:LQ):TF P (LW ad):=⟨97,[],stmt_operands.sp,stmt_operands.sat,stmt_operands.enter⟩
def strings_Split.T(ad:LQ):TF P (LW ad):=⟨36,[],strings_Split.sp,strings_Split.sat,strings_Split.enter⟩
def strings_Compare.T(ad:LQ):TF P (LW ad):=⟨125,[],strings_Compare.sp,strings_Compare.sat,strings_Compare.enter⟩
def slices_Insert_api_Sym_api_Sym.T(ad:LQ):TF P (LW ad):=⟨126,[],slices_Insert_api_Sym_api_Sym.sp,slices_Insert_api_Sym_api_Sym.sat,slices_Insert_api_Sym_api_Sym.enter⟩
def internal_strconv_FormatUint.T(ad:LQ):TF P (LW ad):=⟨259,[],internal_strconv_FormatUint.sp,internal_strconv_FormatUint.sat,internal_strconv_FormatUint.enter⟩
def name_Mnemonic.T(ad:LQ):TF P (LW ad):=⟨94,[],name_Mnemonic.sp,name_Mnemonic.sat,name_Mnemonic.enter⟩
def strings_Join.T(ad:LQ):TF P (LW ad):=⟨42,[],strings_Join.sp,strings_Join.sat,strings_Join.enter⟩
def mkF(ad:LQ):=@mkT P (LW ad) types mixed iM maps jw
def Pf(ad:LQ):=@NN P (LW ad) types mixed iM maps jw
namespace Zca
def sp:Spec:=av ⟨[(0,Sb)],[]⟩ ⟨[(0,SB)],[]⟩ g
noncomputable def T(ad:LQ):=mkF ad 134 [] sp [] t0 t0 t0 21 [] f (fun a=>1000+a.toNat) (by kernel_rfl)
end Zca
namespace Zch
def sp:Spec:=av ⟨[(0,Sb)],[]⟩ ⟨[(0,SB)],[]⟩ g
noncomputable def T(ad:LQ):=mkF ad 136 [] sp [] t0 t0 t0 9 [] f (fun a=>1000+a.toNat) (by kernel_rfl)
end Zch
namespace Zan
def sp:Spec:=av ⟨[(0,Ss)],[]⟩ ⟨[(0,Ss)],[]⟩ g
noncomputable def T(ad:LQ):=mkF ad 135 [] sp [Zca.T ad,Zch.T ad] (fun n=>tj 3 ⟨[(0,Ss),(3,Si)],[]⟩ (fun ms=>j3 n (l2 n ms.head!)) <| tj 4 ⟨[(0,Ss),(3,Si)],[]⟩ (fun _=>j4 n) <| tn) (fun n=>tl 2 ⟨[(0,Ss),(3,Si)],[]⟩ (fun _=>l2 n) <| tn) t0 25 [] f (fun a=>1000+a.length) (by kernel_rfl)
end Zan
namespace Zak
def sp:Spec:=av ⟨[(0,Sb)],[]⟩ ⟨[(0,Sb)],[]⟩ g
noncomputable def T(ad:LQ):=mkF ad 241 [] sp [] t0 t0 t0 5 [] f (fun a=>1000+a.toNat) (by kernel_rfl)
end Zak
namespace Zaa
def sp:Spec:=av ⟨[(0,Ss),(1,Si),(2,Si)],[]⟩ ⟨[(0,.c kq),(1,.c (.ifo 273 .i64))],[]⟩ g
noncomputable def T(ad:LQ):=mkF ad 217 [] sp [Zak.T ad,internal_strconv_underscoreOK.T ad] (fun n=>tj 55 ⟨[(1,Si),(8,SB),(9,Ss),(10,.c kq),(11,.c kq),(12,SB),(13,.c kq),(99,.c (.sl (.int .u8))),(100,Si),(101,Si)],[]⟩ (fun ms=>j55 n (l36 n ms.head!)) <| tj 46 ⟨[(1,Si),(8,SB),(9,Ss),(10,.c kq),(11,.c kq),(12,SB),(13,.c kq),(16,Sb),(99,.c (.sl (.int .u8))),(100,Si),(101,Si)],[]⟩ (fun ms=>j46 n (l36 n ms.head!)) <| tj 32 ⟨[(0,Ss),(1,Si),(2,Si),(8,SB),(9,Ss),(10,.c kq)],[]⟩ (fun _=>j32 n) <| tj 25 ⟨[(0,Ss),(1,Si),(2,Si),(8,SB),(9,Ss)],[]⟩ (fun _=>j25 n) <| tj 21 ⟨[(0,Ss),(1,Si),(2,Si),(8,SB),(9,Ss)],[]⟩ (fun _=>j21 n) <| tj 17 ⟨[(0,Ss),(1,Si),(2,Si),(8,SB),(9,Ss)],[]⟩ (fun _=>j17 n) <| tj 20 ⟨[(0,Ss),(1,Si),(2,Si),(8,SB),(9,Ss)],[]⟩ (fun _=>j20 n) <| tj 11 ⟨[(0,Ss),(1,Si),(2,Si),(8,SB),(9,Ss)],[]⟩ (fun _=>j11 n) <| tj 9 ⟨[(0,Ss),(1,Si),(2,Si),(8,SB),(9,Ss)],[]⟩ (fun _=>j9 n) <| tn) (fun n=>tl 36 ⟨[(1,Si),(8,SB),(9,Ss),(10,.c kq),(11,.c kq),(12,SB),(13,.c kq),(99,.c (.sl (.int .u8))),(100,Si),(101,Si)],[]⟩ (fun _=>l36 n) <| tn) t0 172 [] f (fun a b c=>1000+a.length+b.toNat+c.toNat) (by kernel_rfl)
end Zaa
namespace Zcb
def sp:Spec:=av ⟨[(0,Ss),(1,Si),(2,Si)],[]⟩ ⟨[(0,.c kq),(1,Se)],[]⟩ g
noncomputable def T(ad:LQ):=mkF ad 183 [] sp [Zaa.T ad,strconv_toError.T ad] t0 t0 t0 26 [] f (fun a b c=>1000+a.length+b.toNat+c.toNat) (by kernel_rfl)
end Zcb
namespace Zbk
def sp:Spec:=av ⟨[(0,Ss)],[]⟩ ⟨[(0,Su),(1,SB)],[]⟩ g
noncomputable def T(ad:LQ):=mkF ad 137 [] sp [strings_CutPrefix.T ad,strings_Contains.T ad,Zcb.T ad] (fun n=>tj 5 ⟨[(0,Ss),(4,Si)],[]⟩ (fun _=>j5 n) <| tn) t0 t0 28 [] f (fun a=>1000+a.length) (by kernel_rfl)
end Zbk
namespace Zag
def sp:Spec:=av ⟨[(0,Ss)],[]⟩ ⟨[(0,.c (.row 167 u0)),(1,Si)],[]⟩ g
noncomputable def T(ad:LQ):=mkF ad 90 [] sp [Zca.T ad,Zan.T ad,Zch.T ad,Zbk.T ad,strings_IndexByte.T ad] (fun n=>tj 23 ⟨[(0,Ss),(4,.c (.row 167 u0)),(5,Si),(6,Sp 0 0)],[(some 3,[ki,ki,.str,ku])]⟩ (fun ms=>j23 n (g0 n ms.head!)) <| tn) t0 (fun n=>tl 0 ⟨[(0,Ss),(4,.c (.row 167 u0)),(5,Si)],[]⟩ (fun _=>g0 n) <| tn) 108 [] f (fun a=>1000+a.length) (by kernel_rfl)
end Zag
namespace Zad
def sp:Spec:=av ⟨[(0,Ss)],[]⟩ ⟨[(0,SB)],[]⟩ g
noncomputable def T(ad:LQ):=mkF ad 92 [] sp [strings_Trim.T ad] (fun n=>tj 9 ⟨[(0,Ss),(24,Si),(25,Si)],[]⟩ (fun ms=>j9 n (l4 n ms.head!)) <| tj 3 ⟨[(0,Ss)],[]⟩ (fun _=>j3 n) <| tn) (fun n=>tl 4 ⟨[(0,Ss),(24,Si),(25,Si)],[]⟩ (fun _=>l4 n) <| tn) t0 84 [] f (fun a=>1000+a.length) (by kernel_rfl)
end Zad
namespace Zau
def sp:Spec:=av ⟨[(0,Sp 0 0),(1,SB)],[(some 0,[.sl u0,ki,ki])]⟩ ⟨[],[(none,[.sl u0,ki,ki])]⟩ g
noncomputable def T(ad:LQ):=mkF ad 139 [] sp [] t0 t0 t0 16 [] f (fun _ b c d=>1000+b.length+c.toNat+d.toNat) (by kernel_rfl)
end Zau
namespace Zci
def sp:Spec:=av ⟨[(0,Si)],[]⟩ ⟨[(0,SB)],[]⟩ g
noncomputable def T(ad:LQ):=mkF ad 96 [] sp [] t0 t0 t0 9 [] f (fun a=>1000+a.toNat) (by kernel_rfl)
end Zci
namespace Zcj
def sp:Spec:=av ⟨[(0,Sp 0 0),(1,Si)],[(some 0,[.sl u0,ki,ki])]⟩ ⟨[(0,Ss)],[(none,[.sl u0,ki,ki])]⟩ g
noncomputable def T(ad:LQ):=mkF ad 185 [] sp [] t0 t0 t0 48 [] f (fun a b c d=>1000+a.toNat+b.length+c.toNat+d.toNat) (by kernel_rfl)
end Zcj
namespace Zbl
def sp:Spec:=av ⟨[(0,Sp 0 0),(1,Si)],[(some 0,[.sl u0,ki,ki])]⟩ ⟨[(0,Ss)],[(none,[.sl u0,ki,ki])]⟩ g
noncomputable def T(ad:LQ):=mkF ad 141 [] sp [Zcj.T ad] t0 t0 t0 17 [] f (fun a b c d=>1000+a.toNat+b.length+c.toNat+d.toNat) (by kernel_rfl)
end Zbl
namespace Zai
def sp:Spec:=av ⟨[(0,Ss),(1,Si),(2,Si)],[]⟩ ⟨[(0,Si),(1,.c (.ifo 273 .i64))],[]⟩ g
noncomputable def T(ad:LQ):=mkF ad 266 [] sp [Zaa.T ad] (fun n=>tj 21 ⟨[(8,SB),(9,.c kq)],[]⟩ (fun _=>j21 n) <| tj 19 ⟨[(8,SB),(9,.c kq),(10,.c kq)],[]⟩ (fun _=>j19 n) <| tj 16 ⟨[(2,Si),(8,SB),(9,.c kq)],[]⟩ (fun _=>j16 n) <| tj 14 ⟨[(2,Si),(8,SB),(9,.c kq)],[]⟩ (fun _=>j14 n) <| tj 10 ⟨[(0,Ss),(1,Si),(2,Si),(8,SB)],[]⟩ (fun _=>j10 n) <| tn) t0 t0 73 [] f (fun a b c=>1000+a.length+b.toNat+c.toNat) (by kernel_rfl)
end Zai
namespace Zao
def sp:Spec:=av ⟨[(0,Ss)],[]⟩ ⟨[(0,Si),(1,.c (.ifo 273 .i64))],[]⟩ g
noncomputable def T(ad:LQ):=mkF ad 247 [] sp [Zai.T ad] (fun n=>tj 8 ⟨[(0,Ss),(5,Ss)],[]⟩ (fun _=>j8 n) <| tj 6 ⟨[(0,Ss),(5,Ss)],[]⟩ (fun _=>j6 n) <| tj 20 ⟨[(0,Ss)],[]⟩ (fun _=>j20 n) <| tn) (fun n=>tl 10 ⟨[(5,Ss),(6,Si),(47,.c (.sl (.int .u8))),(48,Si),(49,Si)],[]⟩ (fun _=>l10 n) <| tn) t0 77 [] f (fun a=>1000+a.length) (by kernel_rfl)
end Zao
namespace Zdb
def sp:Spec:=av ⟨[(0,Ss)],[]⟩ ⟨[(0,Si),(1,Se)],[]⟩ g
noncomputable def T(ad:LQ):=mkF ad 220 [] sp [Zao.T ad,strconv_toError.T ad] t0 t0 t0 18 [] f (fun a=>1000+a.length) (by kernel_rfl)
end Zdb
namespace Zaw
def sp:Spec:=av ⟨[(0,Si)],[]⟩ ⟨[(0,Ss)],[]⟩ g
noncomputable def T(ad:LQ):=mkF ad 144 [] sp [strconv_Itoa.T ad] t0 t0 t0 12 [] f (fun a=>1000+a.toNat) (by kernel_rfl)
end Zaw
namespace Zbs
def sp:Spec:=av ⟨[(0,Ss)],[]⟩ ⟨[(0,Si),(1,SB)],[]⟩ g
noncomputable def T(ad:LQ):=mkF ad 186 [] sp [strings_CutPrefix.T ad,Zdb.T ad,Zaw.T ad] t0 t0 t0 31 [] f (fun a=>1000+a.length) (by kernel_rfl)
end Zbs
namespace Zdd
def sp:Spec:=av ⟨[(0,Sp 0 0),(1,Sp 1 0)],[(some 0,[.sl u0,ki,ki]),(some 1,c0)]⟩ ⟨[],[(none,[.sl u0,ki,ki]),(none,c0)]⟩ g
noncomputable def T(ad:LQ):=mkF ad 142 [] sp [Zcj.T ad,Zbs.T ad] t0 t0 t0 50 [] f (fun a b c d e i j k _ o p=>1000+a.length+b.toNat+c.toNat+d.toNat+e.toNat+i.toNat+j.toNat+k.toNat+o.length+p.length) (by kernel_rfl)
end Zdd
namespace Zct
def sp:Spec:=av ⟨[(0,Sp 0 0)],[(some 0,c0)]⟩ ⟨[(0,Sp 0 2)],[(none,c0)]⟩ g
noncomputable def T(ad:LQ):=mkF ad 148 [] sp [] t0 t0 t0 6 [] f (fun a b c d e _ j k=>1000+a.toNat+b.toNat+c.toNat+d.toNat+e.toNat+j.length+k.length) (by kernel_rfl)
end Zct
namespace Zcu
def sp:Spec:=av ⟨[(0,Sp 0 0)],[(some 0,c0)]⟩ ⟨[(0,Sp 0 3)],[(none,c0)]⟩ g
noncomputable def T(ad:LQ):=mkF ad 149 [] sp [] t0 t0 t0 6 [] f (fun a b c d e _ j k=>1000+a.toNat+b.toNat+c.toNat+d.toNat+e.toNat+j.length+k.length) (by kernel_rfl)
end Zcu
namespace Zcv
def sp:Spec:=av ⟨[(0,Sp 0 0)],[(some 0,c0)]⟩ ⟨[(0,Sp 0 4)],[(none,c0)]⟩ g
noncomputable def T(ad:LQ):=mkF ad 150 [] sp [] t0 t0 t0 6 [] f (fun a b c d e _ j k=>1000+a.toNat+b.toNat+c.toNat+d.toNat+e.toNat+j.length+k.length) (by kernel_rfl)
end Zcv
namespace Zck
def sp:Spec:=av ⟨[(0,Sp 0 0),(1,Sp 1 0),(2,.c (.pp .fn))],[(some 0,[.sl u0,ki,ki]),(some 1,c0)]⟩ ⟨[],[(none,[.sl u0,ki,ki]),(none,c0)]⟩ g
noncomputable def T(ad:LQ):=mkF ad 193 [] sp [Zbl.T ad,Zbs.T ad,Zau.T ad,Zct.T ad,Zcu.T ad,Zcv.T ad] t0 t0 t0 21 [K.atA,K.atB,K.atC] f (fun _ b c d e i j k l _ p q=>1000+b.length+c.toNat+d.toNat+e.toNat+i.toNat+j.toNat+k.toNat+l.toNat+p.length+q.length) (by kernel_rfl)
end Zck
namespace Zax
def sp:Spec:=av ⟨[(0,Sp 0 0),(1,Si)],[(some 0,c1)]⟩ ⟨[],[(none,c1)]⟩ g
noncomputable def T(ad:LQ):=mkF ad 275 [] sp [] t0 t0 t0 13 [] f (fun a b c d e=>1000+a.toNat+b.length+c.toNat+d.length+e.toNat) (by kernel_rfl)
end Zax
namespace Zbb
def sp:Spec:=av ⟨[(0,Sp 0 0)],[(some 0,c1)]⟩ ⟨[(0,.agg [ki,ki,.str,ku]),(1,SB)],[(none,c1)]⟩ g
noncomputable def T(ad:LQ):=mkF ad 276 [] sp [] t0 t0 t0 39 [] f (fun a b c d=>1000+a.length+b.toNat+c.length+d.toNat) (by kernel_rfl)
end Zbb
namespace Zaf
def sp:Spec:=av ⟨[(0,Sp 0 0),(1,.c (.sl .str))],[(some 0,c1)]⟩ ⟨[(0,Ss),(1,SB)],[(none,c1)]⟩ g
noncomputable def T(ad:LQ):=mkF ad 273 [] sp [Zbb.T ad] (fun n=>tj 8 ⟨[(0,Sp 0 0),(6,Sp 1 0),(7,SB),(15,.c (.sl .str)),(16,Si),(17,Si)],[(none,c1),(some 1,[ki,ki,.str,ku])]⟩ (fun ms=>j8 n (l3 n ms.head!)) <| tn) (fun n=>tl 3 ⟨[(0,Sp 0 0),(6,Sp 1 0),(7,SB),(15,.c (.sl .str)),(16,Si),(17,Si)],[(none,c1),(some 1,[ki,ki,.str,ku])]⟩ (fun _=>l3 n) <| tn) t0 42 [] f (fun a b c d e=>1000+a.length+b.length+c.toNat+d.length+e.toNat) (by kernel_rfl)
end Zaf
namespace Zar
def sp:Spec:=av ⟨[(0,Sp 0 0),(1,.agg [ki,ku,.str])],[(some 0,c1)]⟩ ⟨[],[(none,c1)]⟩ g
noncomputable def T(ad:LQ):=mkF ad 274 [] sp [] t0 t0 t0 14 [] f (fun a b c d e i j=>1000+a.toNat+b.toNat+c.length+d.length+e.toNat+i.length+j.toNat) (by kernel_rfl)
end Zar
def expr_parser_sum.spq(q:Nat):Spec:=av ⟨[(0,Sp 0 0),(1,Si)],[(some 0,c1)]⟩ ⟨[],[(none,c1)]⟩ (af q).expr_parser_sum
def expr_parser_row_c256.spq(q:Nat):Spec:=av ⟨[(0,Sp 0 0),(1,.clo 256 [.ptr 1 0,.ptr 2 0]),(2,.c (.sl .str))],[(some 0,c1),(some 1,[.ptr 0 0]),(some 2,[ki])]⟩ ⟨[],[(none,c1),(none,[.ptr 0 0]),(none,[ki])]⟩ (af q).expr_parser_row_c256
def expr_parser_sum_1.spq(q:Nat):Spec:=av ⟨[(0,Sp 0 0),(1,Sp 1 0)],[(some 0,[.ptr 2 0]),(some 1,[ki]),(some 2,c1)]⟩ ⟨[],[(none,[.ptr 2 0]),(none,[ki]),(none,c1)]⟩ (af q).expr_parser_sum_1
def expr_parser_row_c257.spq(q:Nat):Spec:=av ⟨[(0,Sp 0 0),(1,.clo 257 [.ptr 1 0,.ptr 2 0]),(2,.c (.sl .str))],[(some 0,c1),(some 1,[.ptr 0 0]),(some 2,[ki])]⟩ ⟨[],[(none,c1),(none,[.ptr 0 0]),(none,[ki])]⟩ (af q).expr_parser_row_c257
def expr_parser_sum_1_1.spq(q:Nat):Spec:=av ⟨[(0,Sp 0 0),(1,Sp 1 0)],[(some 0,[.ptr 2 0]),(some 1,[ki]),(some 2,c1)]⟩ ⟨[],[(none,[.ptr 2 0]),(none,[ki]),(none,c1)]⟩ (af q).expr_parser_sum_1_1
def expr_parser_factor.spq(q:Nat):Spec:=av ⟨[(0,Sp 0 0),(1,Si)],[(some 0,c1)]⟩ ⟨[],[(none,c1)]⟩ (af q).expr_parser_factor
namespace expr_parser_sum
theorem step(q:Nat)(ih:Sat P (LW ad) 229 (expr_parser_sum.spq q)/\Sat P (LW ad) 255 (expr_parser_row_c256.spq q)/\Sat P (LW ad) 256 (expr_parser_sum_1.spq q)/\Sat P (LW ad) 255 (expr_parser_row_c257.spq q)/\Sat P (LW ad) 257 (expr_parser_sum_1_1.spq q)/\Sat P (LW ad) 258 (expr_parser_factor.spq q)/\True):Sat P (LW ad) 229 (spq (q+1)):=qH mixed iM jw 229 (spq (q+1)) [((255,[256]),expr_parser_row_c256.spq q)] (fA ih.2.1 (aP (by kernel_rfl)) iL) t0 t0 t0 8 [] (fun n=>f n (af q)) (fun a b c d e=>1000+a.toNat+b.length+c.toNat+d.length+e.toNat) (by kernel_rfl) (by kernel_rfl)
end expr_parser_sum
namespace expr_parser_row_c256
theorem step(q:Nat)(ih:Sat P (LW ad) 229 (expr_parser_sum.spq q)/\Sat P (LW ad) 255 (expr_parser_row_c256.spq q)/\Sat P (LW ad) 256 (expr_parser_sum_1.spq q)/\Sat P (LW ad) 255 (expr_parser_row_c257.spq q)/\Sat P (LW ad) 257 (expr_parser_sum_1_1.spq q)/\Sat P (LW ad) 258 (expr_parser_factor.spq q)/\True):Sat P (LW ad) 255 (spq (q+1)):=qH mixed iM jw 255 (spq (q+1)) [((256,[]),expr_parser_sum_1.spq q),(Zaf.T ad).kv,(Zar.T ad).kv] (fA ih.2.2.1 (aP (by kernel_rfl)) (ic (Zaf.T ad) (ic (Zar.T ad) iL))) t0 (fun n=>tl 1 ⟨[(0,Sp 0 0),(1,.clo 256 [.ptr 1 0,.ptr 2 0]),(2,.c (.sl .str))],[(none,c1),(none,[.ptr 0 0]),(none,[ki])]⟩ (fun _=>l1 n (af q)) <| tn) t0 26 [] (fun n=>f n (af q)) (fun a b c d e i=>1000+a.length+b.length+c.toNat+d.length+e.toNat+i.toNat) (by kernel_rfl) (by kernel_rfl)
end expr_parser_row_c256
namespace expr_parser_sum_1
theorem step(q:Nat)(ih:Sat P (LW ad) 229 (expr_parser_sum.spq q)/\Sat P (LW ad) 255 (expr_parser_row_c256.spq q)/\Sat P (LW ad) 256 (expr_parser_sum_1.spq q)/\Sat P (LW ad) 255 (expr_parser_row_c257.spq q)/\Sat P (LW ad) 257 (expr_parser_sum_1_1.spq q)/\Sat P (LW ad) 258 (expr_parser_factor.spq q)/\True):Sat P (LW ad) 256 (spq (q+1)):=qH mixed iM jw 256 (spq (q+1)) [((255,[257]),expr_parser_row_c257.spq q)] (fA ih.2.2.2.1 (aP (by kernel_rfl)) iL) t0 t0 t0 6 [] (fun n=>f n (af q)) (fun a b c d e=>1000+a.toNat+b.length+c.toNat+d.length+e.toNat) (by kernel_rfl) (by kernel_rfl)
end expr_parser_sum_1
namespace expr_parser_row_c257
theorem step(q:Nat)(ih:Sat P (LW ad) 229 (expr_parser_sum.spq q)/\Sat P (LW ad) 255 (expr_parser_row_c256.spq q)/\Sat P (LW ad) 256 (expr_parser_sum_1.spq q)/\Sat P (LW ad) 255 (expr_parser_row_c257.spq q)/\Sat P (LW ad) 257 (expr_parser_sum_1_1.spq q)/\Sat P (LW ad) 258 (expr_parser_factor.spq q)/\True):Sat P (LW ad) 255 (spq (q+1)):=qH mixed iM jw 255 (spq (q+1)) [((257,[]),expr_parser_sum_1_1.spq q),(Zaf.T ad).kv,(Zar.T ad).kv] (fA ih.2.2.2.2.1 (aP (by kernel_rfl)) (ic (Zaf.T ad) (ic (Zar.T ad) iL))) t0 (fun n=>tl 1 ⟨[(0,Sp 0 0),(1,.clo 257 [.ptr 1 0,.ptr 2 0]),(2,.c (.sl .str))],[(none,c1),(none,[.ptr 0 0]),(none,[ki])]⟩ (fun _=>l1 n (af q)) <| tn) t0 26 [] (fun n=>f n (af q)) (fun a b c d e i=>1000+a.length+b.length+c.toNat+d.length+e.toNat+i.toNat) (by kernel_rfl) (by kernel_rfl)
end expr_parser_row_c257
namespace expr_parser_sum_1_1
theorem step(q:Nat)(ih:Sat P (LW ad) 229 (expr_parser_sum.spq q)/\Sat P (LW ad) 255 (expr_parser_row_c256.spq q)/\Sat P (LW ad) 256 (expr_parser_sum_1.spq q)/\Sat P (LW ad) 255 (expr_parser_row_c257.spq q)/\Sat P (LW ad) 257 (expr_parser_sum_1_1.spq q)/\Sat P (LW ad) 258 (expr_parser_factor.spq q)/\True):Sat P (LW ad) 257 (spq (q+1)):=qH mixed iM jw 257 (spq (q+1)) [((258,[]),expr_parser_factor.spq q)] (fA ih.2.2.2.2.2.1 (aP (by kernel_rfl)) iL) t0 t0 t0 5 [] (fun n=>f n (af q)) (fun a b c d e=>1000+a.toNat+b.length+c.toNat+d.length+e.toNat) (by kernel_rfl) (by kernel_rfl)
end expr_parser_sum_1_1
namespace expr_parser_factor
theorem step(q:Nat)(ih:Sat P (LW ad) 229 (expr_parser_sum.spq q)/\Sat P (LW ad) 255 (expr_parser_row_c256.spq q)/\Sat P (LW ad) 256 (expr_parser_sum_1.spq q)/\Sat P (LW ad) 255 (expr_parser_row_c257.spq q)/\Sat P (LW ad) 257 (expr_parser_sum_1_1.spq q)/\Sat P (LW ad) 258 (expr_parser_factor.spq q)/\True):Sat P (LW ad) 258 (spq (q+1)):=qH mixed iM jw 258 (spq (q+1)) [(Zax.T ad).kv,(Zaf.T ad).kv,((258,[]),expr_parser_factor.spq q),(Zar.T ad).kv,((229,[]),expr_parser_sum.spq q),(Zbb.T ad).kv,(Zad.T ad).kv] (ic (Zax.T ad) (ic (Zaf.T ad) (fA ih.2.2.2.2.2.1 (aP (by kernel_rfl)) (ic (Zar.T ad) (fA ih.1 (aP (by kernel_rfl)) (ic (Zbb.T ad) (ic (Zad.T ad) iL))))))) (fun n=>tj 19 ⟨[(0,Sp 0 0)],[(none,c1)]⟩ (fun _=>j19 n (af q)) <| tn) t0 t0 94 [] (fun n=>f n (af q)) (fun a b c d e=>1000+a.toNat+b.length+c.toNat+d.length+e.toNat) (by kernel_rfl) (by kernel_rfl)
end expr_parser_factor
theorem aF:∀q,Sat P (LW ad) 229 (expr_parser_sum.spq q)/\Sat P (LW ad) 255 (expr_parser_row_c256.spq q)/\Sat P (LW ad) 256 (expr_parser_sum_1.spq q)/\Sat P (LW ad) 255 (expr_parser_row_c257.spq q)/\Sat P (LW ad) 257 (expr_parser_sum_1_1.spq q)/\Sat P (LW ad) 258 (expr_parser_factor.spq q)/\True
 |0=>⟨kG fun _=>rfl,kG fun _=>rfl,kG fun _=>rfl,kG fun _=>rfl,kG fun _=>rfl,kG fun _=>rfl,trivial⟩
 |q+1=>⟨expr_parser_sum.step q (aF q),expr_parser_row_c256.step q (aF q),expr_parser_sum_1.step q (aF q),expr_parser_row_c257.step q (aF q),expr_parser_sum_1_1.step q (aF q),expr_parser_factor.step q (aF q),trivial⟩
def expr_parser_sum.sp:Spec:=av ⟨[(0,Sp 0 0),(1,Si)],[(some 0,c1)]⟩ ⟨[],[(none,c1)]⟩ expr_parser_sum.g
noncomputable def expr_parser_sum.T(ad:LQ):TF P (LW ad):=⟨229,[],expr_parser_sum.sp,o7 (F:=fun q=>(af q).expr_parser_sum) (fun a b c d e=>1000+a.toNat+b.length+c.toNat+d.length+e.toNat) (fun q=>(aF q).1) (fun _=>by kernel_rfl),aP (by kernel_rfl)⟩
def expr_parser_row_c256.sp:Spec:=av ⟨[(0,Sp 0 0),(1,.clo 256 [.ptr 1 0,.ptr 2 0]),(2,.c (.sl .str))],[(some 0,c1),(some 1,[.ptr 0 0]),(some 2,[ki])]⟩ ⟨[],[(none,c1),(none,[.ptr 0 0]),(none,[ki])]⟩ expr_parser_row_c256.g
noncomputable def expr_parser_row_c256.T(ad:LQ):TF P (LW ad):=⟨255,[256],expr_parser_row_c256.sp,o7 (F:=fun q=>(af q).expr_parser_row_c256) (fun a b c d e i=>1000+a.length+b.length+c.toNat+d.length+e.toNat+i.toNat) (fun q=>(aF q).2.1) (fun _=>by kernel_rfl),aP (by kernel_rfl)⟩
def expr_parser_sum_1.sp:Spec:=av ⟨[(0,Sp 0 0),(1,Sp 1 0)],[(some 0,[.ptr 2 0]),(some 1,[ki]),(some 2,c1)]⟩ ⟨[],[(none,[.ptr 2 0]),(none,[ki]),(none,c1)]⟩ expr_parser_sum_1.g
noncomputable def expr_parser_sum_1.T(ad:LQ):TF P (LW ad):=⟨256,[],expr_parser_sum_1.sp,o7 (F:=fun q=>(af q).expr_parser_sum_1) (fun a b c d e=>1000+a.toNat+b.length+c.toNat+d.length+e.toNat) (fun q=>(aF q).2.2.1) (fun _=>by kernel_rfl),aP (by kernel_rfl)⟩
def expr_parser_row_c257.sp:Spec:=av ⟨[(0,Sp 0 0),(1,.clo 257 [.ptr 1 0,.ptr 2 0]),(2,.c (.sl .str))],[(some 0,c1),(some 1,[.ptr 0 0]),(some 2,[ki])]⟩ ⟨[],[(none,c1),(none,[.ptr 0 0]),(none,[ki])]⟩ expr_parser_row_c257.g
noncomputable def expr_parser_row_c257.T(ad:LQ):TF P (LW ad):=⟨255,[257],expr_parser_row_c257.sp,o7 (F:=fun q=>(af q).expr_parser_row_c257) (fun a b c d e i=>1000+a.length+b.length+c.toNat+d.length+e.toNat+i.toNat) (fun q=>(aF q).2.2.2.1) (fun _=>by kernel_rfl),aP (by kernel_rfl)⟩
def expr_parser_sum_1_1.sp:Spec:=av ⟨[(0,Sp 0 0),(1,Sp 1 0)],[(some 0,[.ptr 2 0]),(some 1,[ki]),(some 2,c1)]⟩ ⟨[],[(none,[.ptr 2 0]),(none,[ki]),(none,c1)]⟩ expr_parser_sum_1_1.g
noncomputable def expr_parser_sum_1_1.T(ad:LQ):TF P (LW ad):=⟨257,[],expr_parser_sum_1_1.sp,o7 (F:=fun q=>(af q).expr_parser_sum_1_1) (fun a b c d e=>1000+a.toNat+b.length+c.toNat+d.length+e.toNat) (fun q=>(aF q).2.2.2.2.1) (fun _=>by kernel_rfl),aP (by kernel_rfl)⟩
def expr_parser_factor.sp:Spec:=av ⟨[(0,Sp 0 0),(1,Si)],[(some 0,c1)]⟩ ⟨[],[(none,c1)]⟩ expr_parser_factor.g
noncomputable def expr_parser_factor.T(ad:LQ):TF P (LW ad):=⟨258,[],expr_parser_factor.sp,o7 (F:=fun q=>(af q).expr_parser_factor) (fun a b c d e=>1000+a.toNat+b.length+c.toNat+d.length+e.toNat) (fun q=>(aF q).2.2.2.2.2.1) (fun _=>by kernel_rfl),aP (by kernel_rfl)⟩
namespace Zat
def sp:Spec:=av ⟨[(0,.c (.sl u0)),(1,Si)],[]⟩ ⟨[(0,.c (.row 44 u1)),(1,Si),(2,Si)],[]⟩ g
noncomputable def T(ad:LQ):=mkF ad 196 [] sp [expr_parser_sum.T ad] (fun n=>tj 5 ⟨[(7,Sp 0 0)],[(some 0,c1)]⟩ (fun _=>j5 n) <| tn) t0 t0 47 [] f (fun a b=>1000+a.length+b.toNat) (by kernel_rfl)
end Zat
namespace Zbd
def sp:Spec:=av ⟨[(0,Sp 0 0),(1,Sp 1 0),(2,.c (.pp .str))],[(some 0,[.sl u0,ki,ki]),(some 1,c0)]⟩ ⟨[],[(none,[.sl u0,ki,ki]),(none,c0)]⟩ g
noncomputable def T(ad:LQ):=mkF ad 195 [] sp [Zbl.T ad,Zau.T ad,Zat.T ad] (fun n=>tj 2 ⟨[(0,Sp 0 0),(1,Sp 1 0)],[(none,[.sl u0,ki,ki]),(none,c0)]⟩ (fun _=>j2 n) <| tn) t0 t0 40 [] f (fun a b c d e i j k l _ p q=>1000+a.length+b.length+c.toNat+d.toNat+e.toNat+i.toNat+j.toNat+k.toNat+l.toNat+p.length+q.length) (by kernel_rfl)
end Zbd
namespace Zbp
def sp:Spec:=av ⟨[(0,Sb),(1,SB)],[]⟩ ⟨[(0,SB)],[]⟩ g
noncomputable def T(ad:LQ):=mkF ad 105 [] sp [] (fun n=>tj 4 ⟨[(0,Sb),(1,SB)],[]⟩ (fun _=>j4 n) <| tn) t0 t0 32 [] f (fun a _=>1000+a.toNat) (by kernel_rfl)
end Zbp
namespace Zaq
def sp:Spec:=av ⟨[(0,Ss)],[]⟩ ⟨[(0,SB)],[]⟩ g
noncomputable def T(ad:LQ):=mkF ad 55 [] sp [Zbp.T ad,strings_Trim.T ad] t0 (fun n=>tl 4 ⟨[(0,Ss),(14,Si),(15,Si)],[]⟩ (fun _=>l4 n) <| tn) t0 47 [] f (fun a=>1000+a.length) (by kernel_rfl)
end Zaq
namespace Zde
def sp:Spec:=av ⟨[(0,Sp 0 0),(1,Sp 1 0)],[(some 0,[.sl u0,ki,ki]),(some 1,c0)]⟩ ⟨[],[(none,[.sl u0,ki,ki]),(none,c0)]⟩ g
noncomputable def T(ad:LQ):=mkF ad 152 [] sp [Zbl.T ad,Zaq.T ad,Zau.T ad] t0 t0 t0 16 [] f (fun a b c d e i j k _ o p=>1000+a.length+b.toNat+c.toNat+d.toNat+e.toNat+i.toNat+j.toNat+k.toNat+o.length+p.length) (by kernel_rfl)
end Zde
namespace Zab
def sp:Spec:=av ⟨[(0,.c (.sl u0))],[]⟩ ⟨[(0,Ss),(1,.agg c0),(2,Si)],[]⟩ g
noncomputable def T(ad:LQ):=mkF ad 91 [] sp [Zad.T ad,Zau.T ad,name_Of.T ad,Zci.T ad,stmt_operands.T ad,Zbl.T ad,Zdd.T ad,Zck.T ad,Zbd.T ad,Zde.T ad] (fun n=>tj 20 ⟨[(0,.c (.sl u0)),(2,Ss),(3,Sp 0 0),(5,Sp 1 0),(8,Si),(11,Si),(116,Si),(117,Si)],[(some 2,c0),(some 3,[.sl u0,ki,ki])]⟩ (fun ms=>j20 n (l13 n ms.head!)) <| tj 19 ⟨[(0,.c (.sl u0)),(2,Ss),(3,Sp 0 0),(5,Sp 1 0),(8,Si),(11,Si),(12,Si),(116,Si),(117,Si)],[(some 2,c0),(some 3,[.sl u0,ki,ki])]⟩ (fun ms=>j19 n (l13 n ms.head!)) <| tj 17 ⟨[(0,.c (.sl u0)),(2,Ss),(3,Sp 0 0),(5,Sp 1 0),(8,Si),(11,Si),(12,Si),(116,Si),(117,Si)],[(some 2,c0),(some 3,[.sl u0,ki,ki])]⟩ (fun ms=>j17 n (l13 n ms.head!)) <| tj 22 ⟨[(2,Ss),(3,Sp 0 0),(5,Sp 1 0)],[(some 1,c0),(some 2,[.sl u0,ki,ki])]⟩ (fun _=>j22 n) <| tj 9 ⟨[(0,.c (.sl u0)),(2,Ss),(3,Sp 0 0),(5,Sp 1 0),(7,Si),(8,Si),(9,SB)],[(some 2,c0),(some 3,[.sl u0,ki,ki])]⟩ (fun _=>j9 n) <| tj 5 ⟨[(0,.c (.sl u0)),(2,Ss),(3,Sp 0 0),(5,Sp 1 0)],[(some 2,c0),(some 3,[.sl u0,ki,ki])]⟩ (fun _=>j5 n) <| tn) (fun n=>tl 13 ⟨[(0,.c (.sl u0)),(2,Ss),(3,Sp 0 0),(5,Sp 1 0),(8,Si),(11,Si),(116,Si),(117,Si)],[(some 2,c0),(some 3,[.sl u0,ki,ki])]⟩ (fun _=>l13 n) <| tn) t0 165 [K.rdA,K.rdB,K.rdC,K.rdE,K.rdQ,K.rdN] f (fun a=>1000+a.length) (by kernel_rfl)
end Zab
namespace Zdk
def sp:Spec:=av ⟨[(0,Ss)],[]⟩ ⟨[(0,.agg c2),(1,Si)],[]⟩ g
noncomputable def T(ad:LQ):=mkF ad 38 [] sp [Zag.T ad,Zab.T ad] t0 t0 t0 27 [] f (fun a=>1000+a.length) (by kernel_rfl)
end Zdk
namespace Zbw
def sp:Spec:=av ⟨[(0,.c (.sl .str)),(1,.c (.raw (.func (.func 38) #[] #[])))],[]⟩ ⟨[(0,.c (.row 41 u2)),(1,Si),(2,Si)],[]⟩ g
noncomputable def T(ad:LQ):=mkF ad 37 [] sp [Zdk.T ad] t0 (fun n=>tl 5 ⟨[(1,.c (.raw (.func (.func 38) #[] #[]))),(7,.c (.row 41 u2)),(15,.c (.sl .str)),(16,Si),(17,Si)],[]⟩ (fun _=>l5 n) <| tn) t0 39 [] f (fun a=>1000+a.length) (by kernel_rfl)
end Zbw
namespace Zbh
def sp:Spec:=av ⟨[(0,Ss)],[]⟩ ⟨[(0,.c (.row 41 u2)),(1,Si),(2,Si)],[]⟩ g
noncomputable def T(ad:LQ):=mkF ad 17 [] sp [strings_Split.T ad,Zbw.T ad] (fun n=>tj 7 ⟨[(5,.c (.sl .str))],[]⟩ (fun _=>j7 n) <| tn) t0 t0 28 [] f (fun a=>1000+a.length) (by kernel_rfl)
end Zbh
namespace Zds
def sp:Spec:=av ⟨[(0,.agg [.str,ki]),(1,Sp 0 0)],[(some 2,[.str])]⟩ ⟨[(0,SB)],[(none,[.str])]⟩ g
noncomputable def T(ad:LQ):=mkF ad 117 [] sp [] t0 t0 t0 8 [] f (fun a b c=>1000+a.length+b.toNat+c.length) (by kernel_rfl)
end Zds
namespace Zbt
def sp:Spec:=av ⟨[(0,.c (.sl u3)),(1,.clo 117 [.ptr 0 0])],[(some 1,[.str])]⟩ ⟨[(0,Si)],[(none,[.str])]⟩ g
noncomputable def T(ad:LQ):=mkF ad 108 [117] sp [Zds.T ad] t0 (fun n=>tl 2 ⟨[(0,.c (.sl u3)),(1,.clo 117 [.ptr 0 0]),(7,Si),(8,Si)],[(none,[.str])]⟩ (fun _=>l2 n) <| tn) t0 19 [] f (fun a b=>1000+a.length+b.length) (by kernel_rfl)
end Zbt
namespace Zbu
def sp:Spec:=av ⟨[(0,.c (.sl u3)),(1,Ss)],[]⟩ ⟨[(0,Si),(1,SB)],[]⟩ g
noncomputable def T(ad:LQ):=mkF ad 62 [] sp [Zbt.T ad] t0 t0 t0 17 [] f (fun a b=>1000+a.length+b.length) (by kernel_rfl)
end Zbu
namespace Zdm
def sp:Spec:=av ⟨[(0,.agg c0)],[]⟩ ⟨[(0,Si)],[]⟩ g
noncomputable def T(ad:LQ):=mkF ad 63 [] sp [] t0 t0 t0 8 [] f (fun a b c d e _ j k=>1000+a.toNat+b.toNat+c.toNat+d.toNat+e.toNat+j.length+k.length) (by kernel_rfl)
end Zdm
namespace Zcf
def sp:Spec:=av ⟨[(0,.agg c2),(1,Sp 0 0)],[(some 9,c3)]⟩ ⟨[(0,Si)],[(none,c3)]⟩ g
noncomputable def T(ad:LQ):=mkF ad 61 [] sp [Zbu.T ad,Zdm.T ad] (fun n=>tj 7 ⟨[(1,Sp 0 0),(2,Sp 1 0)],[(none,c3),(some 1,c2)]⟩ (fun _=>j7 n) <| tn) t0 t0 43 [] f (fun a b c d e i _ k l o p q r s=>1000+a.length+b.toNat+c.toNat+d.toNat+e.toNat+i.toNat+k.length+l.length+o.length+p.length+q.length+r.toNat+s.toNat) (by kernel_rfl)
end Zcf
namespace Zco
def sp:Spec:=av ⟨[(0,.c (.sl u2)),(1,.clo 61 [.ptr 0 0])],[(some 1,c3)]⟩ ⟨[(0,Si),(1,Si)],[(none,c3)]⟩ g
noncomputable def T(ad:LQ):=mkF ad 67 [61] sp [Zcf.T ad] t0 (fun n=>tl 2 ⟨[(1,.clo 61 [.ptr 0 0]),(9,.c (.sl u2)),(10,Si),(11,Si)],[(none,c3)]⟩ (fun _=>l2 n) <| tn) t0 25 [] f (fun a b c d e i=>1000+a.length+b.length+c.length+d.length+e.toNat+i.toNat) (by kernel_rfl)
end Zco
namespace Zbo
def sp:Spec:=av ⟨[(0,.agg [ki,ku,.str])],[]⟩ ⟨[(0,Si),(1,SB)],[]⟩ g
noncomputable def T(ad:LQ):=mkF ad 170 [] sp [Zad.T ad] (fun n=>tj 2 ⟨[(1,Sp 0 0),(4,SB)],[(some 0,[ki,ku,.str])]⟩ (fun _=>j2 n) <| tn) t0 t0 38 [] f (fun a b c=>1000+a.toNat+b.toNat+c.length) (by kernel_rfl)
end Zbo
namespace Zaz
def sp:Spec:=av ⟨[(0,.c (.sl u1))],[]⟩ ⟨[(0,SB)],[]⟩ g
noncomputable def T(ad:LQ):=mkF ad 118 [] sp [Zbo.T ad] t0 (fun n=>tl 3 ⟨[(0,.c (.sl u1)),(3,Si),(8,.c (.sl u1)),(9,Si),(10,Si)],[]⟩ (fun _=>l3 n) <| tn) t0 38 [] f (fun a=>1000+a.length) (by kernel_rfl)
end Zaz
namespace Zbg
def sp:Spec:=av ⟨[(0,Sp 0 0)],[(some 0,[.row 70 u4])]⟩ ⟨[(0,.agg [ku,ki])],[(none,[.row 70 u4])]⟩ g
noncomputable def T(ad:LQ):=mkF ad 120 [] sp [] t0 t0 t0 24 [] f (fun a=>1000+a.length) (by kernel_rfl)
end Zbg
namespace Zcs
def sp:Spec:=av ⟨[(0,.agg [ku,ki]),(1,Si)],[]⟩ ⟨[(0,.agg [ku,ki])],[]⟩ g
noncomputable def T(ad:LQ):=mkF ad 119 [] sp [] t0 t0 t0 15 [] f (fun a b c=>1000+a.toNat+b.toNat+c.toNat) (by kernel_rfl)
end Zcs
namespace Zdt
def sp:Spec:=av ⟨[(0,.agg [ku,ki]),(1,.agg [ku,ki])],[]⟩ ⟨[(0,.agg [ku,ki])],[]⟩ g
noncomputable def T(ad:LQ):=mkF ad 121 [] sp [] t0 t0 t0 16 [] f (fun a b c d=>1000+a.toNat+b.toNat+c.toNat+d.toNat) (by kernel_rfl)
end Zdt
namespace Zah
def sp:Spec:=av ⟨[(0,.c (.sl u1)),(1,.c (.sl u3))],[]⟩ ⟨[(0,.agg [ku,ki]),(1,Si)],[]⟩ g
noncomputable def T(ad:LQ):=mkF ad 65 [] sp [Zaz.T ad,Zbu.T ad,Zbg.T ad,Zcs.T ad,Zdt.T ad] (fun n=>tj 27 ⟨[(1,.c (.sl u3)),(4,Sp 0 0),(6,Sp 1 0),(9,Sp 2 0),(20,.c (.sl u1)),(21,Si),(22,Si)],[(some 1,[ku,ki]),(some 2,[.row 70 u4]),(some 3,[ku,ki])]⟩ (fun ms=>j27 n (l5 n ms.head!)) <| tn) (fun n=>tl 5 ⟨[(1,.c (.sl u3)),(4,Sp 0 0),(6,Sp 1 0),(20,.c (.sl u1)),(21,Si),(22,Si)],[(some 1,[ku,ki]),(some 2,[.row 70 u4])]⟩ (fun _=>l5 n) <| tn) t0 92 [] f (fun a b=>1000+a.length+b.length) (by kernel_rfl)
end Zah
namespace Zdw
def sp:Spec:=av ⟨[(0,.c (.sl u4))],[]⟩ ⟨[(0,.c (.slc u4))],[]⟩ g
noncomputable def T(ad:LQ):=mkF ad 122 [] sp [] t0 t0 t0 9 [] f (fun a=>1000+a.length) (by kernel_rfl)
end Zdw
namespace Zbn
def sp:Spec:=av ⟨[(0,.c (.sl u4)),(1,.agg [ku,ki])],[]⟩ ⟨[(0,.c (.sl u4)),(1,Si)],[]⟩ g
noncomputable def T(ad:LQ):=mkF ad 66 [] sp [Zdw.T ad] t0 (fun n=>tl 2 ⟨[(0,.c (.sl u4)),(3,Sp 0 0),(8,.c (.sl u4)),(9,Si),(10,Si)],[(some 1,[ku,ki])]⟩ (fun _=>l2 n) <| tn) t0 28 [] f (fun a b c=>1000+a.length+b.toNat+c.toNat) (by kernel_rfl)
end Zbn
namespace Zdn
def sp:Spec:=av ⟨[(0,.agg c2),(1,Sp 0 0)],[(some 9,c3)]⟩ ⟨[(0,Si)],[(none,c3)]⟩ g
noncomputable def T(ad:LQ):=mkF ad 64 [] sp [Zah.T ad,Zbn.T ad] t0 t0 t0 40 [] f (fun a b c d e i _ k l o p q r s=>1000+a.length+b.toNat+c.toNat+d.toNat+e.toNat+i.toNat+k.length+l.length+o.length+p.length+q.length+r.toNat+s.toNat) (by kernel_rfl)
end Zdn
namespace Zcp
def sp:Spec:=av ⟨[(0,.c (.sl u2)),(1,.clo 64 [.ptr 0 0])],[(some 1,c3)]⟩ ⟨[(0,Si),(1,Si)],[(none,c3)]⟩ g
noncomputable def T(ad:LQ):=mkF ad 67 [64] sp [Zdn.T ad] t0 (fun n=>tl 2 ⟨[(1,.clo 64 [.ptr 0 0]),(9,.c (.sl u2)),(10,Si),(11,Si)],[(none,c3)]⟩ (fun _=>l2 n) <| tn) t0 25 [] f (fun a b c d e i=>1000+a.length+b.length+c.length+d.length+e.toNat+i.toNat) (by kernel_rfl)
end Zcp
namespace Zbc
def sp:Spec:=av ⟨[(0,.c (.sl u2))],[]⟩ ⟨[(0,.agg c3),(1,Si),(2,Si)],[]⟩ g
noncomputable def T(ad:LQ):=mkF ad 25 [] sp [Zco.T ad,Zcp.T ad] (fun n=>tj 7 ⟨[(0,.c (.sl u2)),(2,Sp 0 0),(3,Si),(4,Si),(13,.c (.clr 0 [61,64])),(14,Si),(15,Si)],[(some 1,c3)]⟩ (fun ms=>j7 n (l4 n ms.head!)) <| tn) (fun n=>tl 4 ⟨[(0,.c (.sl u2)),(2,Sp 0 0),(13,.c (.clr 0 [61,64])),(14,Si),(15,Si)],[(some 1,c3)]⟩ (fun _=>l4 n) <| tn) t0 44 [] f (fun a=>1000+a.length) (by kernel_rfl)
end Zbc
namespace Zdx
def sp:Spec:=av ⟨[(0,.agg [.str,ki]),(1,Ss)],[]⟩ ⟨[(0,Si)],[]⟩ g
noncomputable def T(ad:LQ):=mkF ad 124 [] sp [strings_Compare.T ad] t0 t0 t0 9 [] f (fun a b c=>1000+a.length+b.toNat+c.length) (by kernel_rfl)
end Zdx
namespace Zbr
def sp:Spec:=av ⟨[(0,.c (.sl u3)),(1,Ss),(2,.c (.raw (.func (.func 124) #[] #[])))],[]⟩ ⟨[(0,Si),(1,SB)],[]⟩ g
noncomputable def T(ad:LQ):=mkF ad 123 [] sp [Zdx.T ad] t0 (fun n=>tl 3 ⟨[(0,.c (.sl u3)),(1,Ss),(2,.c (.raw (.func (.func 124) #[] #[]))),(8,Si),(9,Si),(10,Si)],[]⟩ (fun _=>l3 n) <| tn) t0 49 [] f (fun a b=>1000+a.length+b.length) (by kernel_rfl)
end Zbr
namespace Zdo
def sp:Spec:=av ⟨[(0,Sp 0 0),(1,Ss)],[(some 0,c4)]⟩ ⟨[(0,Si)],[(none,c4)]⟩ g
noncomputable def T(ad:LQ):=mkF ad 69 [] sp [Zbu.T ad,Zbr.T ad,Zaq.T ad,slices_Insert_api_Sym_api_Sym.T ad] t0 t0 t0 53 [] f (fun a b c d e i j k l=>1000+a.length+b.length+c.length+d.length+e.toNat+i.toNat+j.length+k.length+l.length) (by kernel_rfl)
end Zdo
namespace Zap
def sp:Spec:=av ⟨[(0,.c (.sl u1)),(1,.c (.sl u3)),(2,Si),(3,Si)],[]⟩ ⟨[(0,Si),(1,Si)],[]⟩ g
noncomputable def T(ad:LQ):=mkF ad 70 [] sp [Zah.T ad] (fun n=>tj 11 ⟨[(2,Si),(3,Si),(35,.agg [ki,ki]),(36,Si)],[]⟩ (fun ms=>j11 n (l7 n ms.head!)) <| tn) (fun n=>tl 7 ⟨[(2,Si),(3,Si),(35,.agg [ki,ki]),(36,Si)],[]⟩ (fun _=>l7 n) <| tn) t0 49 [] f (fun a b c d=>1000+a.length+b.length+c.toNat+d.toNat) (by kernel_rfl)
end Zap
namespace Zcl
def sp:Spec:=av ⟨[(0,Si),(1,Si),(2,Si)],[]⟩ ⟨[(0,SB)],[]⟩ g
noncomputable def T(ad:LQ):=mkF ad 188 [] sp [] t0 t0 t0 15 [] f (fun a b c=>1000+a.toNat+b.toNat+c.toNat) (by kernel_rfl)
end Zcl
namespace Zdz
def sp:Spec:=av ⟨[(0,SB)],[]⟩ ⟨[(0,Su)],[]⟩ g
noncomputable def T(ad:LQ):=mkF ad 238 [] sp [] t0 t0 t0 4 [] f (fun _=>(1000:Nat)) (by kernel_rfl)
end Zdz
namespace Zbe
def sp:Spec:=av ⟨[(0,Si),(1,SB),(2,SB)],[]⟩ ⟨[(0,.agg [ki,ki,ki])],[]⟩ g
noncomputable def T(ad:LQ):=mkF ad 211 [] sp [Zdz.T ad] t0 t0 t0 19 [] f (fun a _ _=>1000+a.toNat) (by kernel_rfl)
end Zbe
namespace Zdf
def sp:Spec:=av ⟨[(0,Si),(1,Si),(2,Sp 0 0),(3,Sp 1 0)],[(some 2,[ku]),(some 3,[ku])]⟩ ⟨[],[(none,[ku]),(none,[ku])]⟩ g
noncomputable def T(ad:LQ):=mkF ad 263 [] sp [] t0 t0 t0 17 [] f (fun a b c d=>1000+a.toNat+b.toNat+c.toNat+d.toNat) (by kernel_rfl)
end Zdf
namespace Zcc
def sp:Spec:=av ⟨[(0,Si),(1,Si),(2,.clo 263 [.ptr 0 0,.ptr 1 0])],[(some 2,[ku]),(some 3,[ku])]⟩ ⟨[],[(none,[ku]),(none,[ku])]⟩ g
noncomputable def T(ad:LQ):=mkF ad 249 [263] sp [Zdf.T ad] t0 (fun n=>tl 2 ⟨[(0,Si),(1,Si),(2,.clo 263 [.ptr 0 0,.ptr 1 0]),(6,Si)],[(none,[ku]),(none,[ku])]⟩ (fun _=>l2 n) <| tn) t0 38 [] f (fun a b c d=>1000+a.toNat+b.toNat+c.toNat+d.toNat) (by kernel_rfl)
end Zcc
namespace Zdg
def sp:Spec:=av ⟨[(0,Su),(1,Si),(2,Si),(3,Su)],[]⟩ ⟨[(0,Su)],[]⟩ g
noncomputable def T(ad:LQ):=mkF ad 237 [] sp [Zcc.T ad] t0 t0 t0 14 [] f (fun a b c d=>1000+a.toNat+b.toNat+c.toNat+d.toNat) (by kernel_rfl)
end Zdg
namespace Zas
def sp:Spec:=av ⟨[(0,.c (.sl u5))],[]⟩ ⟨[(0,Su)],[]⟩ g
noncomputable def T(ad:LQ):=mkF ad 210 [] sp [Zdg.T ad] t0 (fun n=>tl 3 ⟨[(3,Su),(6,.c (.sl u5)),(7,Si),(8,Si)],[]⟩ (fun _=>l3 n) <| tn) t0 23 [] f (fun a=>1000+a.length) (by kernel_rfl)
end Zas
namespace Zbm
def sp:Spec:=av ⟨[(0,.agg c5)],[]⟩ ⟨[(0,Su)],[]⟩ g
noncomputable def T(ad:LQ):=mkF ad 174 [] sp [Zbe.T ad,Zas.T ad] (fun n=>tj 14 ⟨[(1,Sp 0 0),(6,Sp 1 0)],[(some 0,c5),(some 1,[ki,ki,ki])]⟩ (fun _=>j14 n) <| tn) t0 t0 97 [] f (fun a b c d e i _=>1000+a.toNat+b.toNat+c.toNat+d.toNat+e.toNat+i.toNat) (by kernel_rfl)
end Zbm
namespace Zdh
def sp:Spec:=av ⟨[(0,Si),(1,Si),(2,Sp 0 0),(3,Sp 1 0)],[(some 2,[ku]),(some 3,[ku])]⟩ ⟨[],[(none,[ku]),(none,[ku])]⟩ g
noncomputable def T(ad:LQ):=mkF ad 250 [] sp [] t0 t0 t0 14 [] f (fun a b c d=>1000+a.toNat+b.toNat+c.toNat+d.toNat) (by kernel_rfl)
end Zdh
namespace Zcd
def sp:Spec:=av ⟨[(0,Si),(1,Si),(2,.clo 250 [.ptr 0 0,.ptr 1 0])],[(some 2,[ku]),(some 3,[ku])]⟩ ⟨[],[(none,[ku]),(none,[ku])]⟩ g
noncomputable def T(ad:LQ):=mkF ad 249 [250] sp [Zdh.T ad] t0 (fun n=>tl 2 ⟨[(0,Si),(1,Si),(2,.clo 250 [.ptr 0 0,.ptr 1 0]),(6,Si)],[(none,[ku]),(none,[ku])]⟩ (fun _=>l2 n) <| tn) t0 38 [] f (fun a b c d=>1000+a.toNat+b.toNat+c.toNat+d.toNat) (by kernel_rfl)
end Zcd
namespace Zdi
def sp:Spec:=av ⟨[(0,Su),(1,Si),(2,Si)],[]⟩ ⟨[(0,Su)],[]⟩ g
noncomputable def T(ad:LQ):=mkF ad 223 [] sp [Zcd.T ad] t0 t0 t0 13 [] f (fun a b c=>1000+a.toNat+b.toNat+c.toNat) (by kernel_rfl)
end Zdi
namespace Zav
def sp:Spec:=av ⟨[(0,Si),(1,Si),(2,.c (.pp (.int .u32)))],[]⟩ ⟨[(0,Si)],[]⟩ g
noncomputable def T(ad:LQ):=mkF ad 222 [] sp [Zdi.T ad] t0 t0 t0 11 [] f (fun a b c=>1000+a.toNat+b.toNat+c.toNat) (by kernel_rfl)
end Zav
namespace Zdu
def sp:Spec:=av ⟨[(0,Si)],[]⟩ ⟨[(0,Si)],[]⟩ g
noncomputable def T(ad:LQ):=mkF ad 251 [] sp [] t0 t0 t0 6 [] f (fun a=>1000+a.toNat) (by kernel_rfl)
end Zdu
namespace Zcw
def sp:Spec:=av ⟨[(0,Su),(1,Si)],[]⟩ ⟨[(0,Si)],[]⟩ g
noncomputable def T(ad:LQ):=mkF ad 224 [] sp [Zdu.T ad] t0 t0 t0 16 [] f (fun a b=>1000+a.toNat+b.toNat) (by kernel_rfl)
end Zcw
namespace Zbf
def sp:Spec:=av ⟨[(0,Su)],[]⟩ ⟨[(0,.agg c5)],[]⟩ g
noncomputable def T(ad:LQ):=mkF ad 189 [] sp [Zav.T ad,Zcw.T ad] (fun n=>tj 16 ⟨[(2,Sp 0 0),(6,Sp 1 0)],[(some 0,c5),(some 1,c5)]⟩ (fun _=>j16 n) <| tn) t0 t0 80 [] f (fun a=>1000+a.toNat) (by kernel_rfl)
end Zbf
namespace Zam
def sp:Spec:=av ⟨[(0,.agg c5)],[]⟩ ⟨[(0,SB)],[]⟩ g
noncomputable def T(ad:LQ):=mkF ad 145 [] sp [Zcl.T ad,Zbm.T ad,Zbf.T ad] (fun n=>tj 10 ⟨[(1,Sp 0 0)],[(some 0,c5)]⟩ (fun _=>j10 n) <| tn) t0 t0 64 [] f (fun a b c d e i _=>1000+a.toNat+b.toNat+c.toNat+d.toNat+e.toNat+i.toNat) (by kernel_rfl)
end Zam
namespace Zcm
def sp:Spec:=av ⟨[(0,.agg c5)],[]⟩ ⟨[(0,Su),(1,Si)],[]⟩ g
noncomputable def T(ad:LQ):=mkF ad 127 [] sp [Zam.T ad,Zbm.T ad] t0 t0 t0 9 [] f (fun a b c d e i _=>1000+a.toNat+b.toNat+c.toNat+d.toNat+e.toNat+i.toNat) (by kernel_rfl)
end Zcm
namespace Zbi
def sp:Spec:=av ⟨[(0,Sp 0 0),(1,.agg [ku,ki])],[(some 0,c4)]⟩ ⟨[],[(none,c4)]⟩ g
noncomputable def T(ad:LQ):=mkF ad 27 [] sp [] (fun n=>tj 3 ⟨[(0,Sp 0 0),(3,Sp 1 0)],[(none,c4),(some 1,[ku,ki])]⟩ (fun _=>j3 n) <| tn) t0 t0 37 [] f (fun a b c d e i j k l o=>1000+a.toNat+b.toNat+c.length+d.length+e.length+i.toNat+j.toNat+k.length+l.length+o.length) (by kernel_rfl)
end Zbi
namespace Zdp
def sp:Spec:=av ⟨[(0,Sp 0 0),(1,.agg c5)],[(some 0,c4)]⟩ ⟨[(0,Si)],[(none,c4)]⟩ g
noncomputable def T(ad:LQ):=mkF ad 73 [] sp [Zcm.T ad,Zbi.T ad] t0 t0 t0 19 [] f (fun a b c d e i _ k l o p q r s t=>1000+a.toNat+b.toNat+c.toNat+d.toNat+e.toNat+i.toNat+k.length+l.length+o.length+p.toNat+q.toNat+r.length+s.length+t.length) (by kernel_rfl)
end Zdp
namespace Zcq
def sp:Spec:=av ⟨[(0,Sp 0 0),(1,Sp 1 0),(2,Sp 2 0)],[(some 0,c0),(some 1,[.ptr 3 0]),(some 2,[ki]),(some 11,c4)]⟩ ⟨[(0,.agg [ku,ki])],[(none,c0),(none,[.ptr 3 0]),(none,[ki]),(none,c4)]⟩ g
noncomputable def T(ad:LQ):=mkF ad 68 [] sp [Zah.T ad] t0 t0 t0 16 [] f (fun a b c d e _ j k l o p q r s t u v=>1000+a.toNat+b.toNat+c.toNat+d.toNat+e.toNat+j.length+k.length+l.toNat+o.length+p.length+q.length+r.toNat+s.toNat+t.length+u.length+v.length) (by kernel_rfl)
end Zcq
namespace Zdq
def sp:Spec:=av ⟨[(0,.agg [ku,ki]),(1,Si)],[]⟩ ⟨[(0,Si),(1,Si)],[]⟩ g
noncomputable def T(ad:LQ):=mkF ad 71 [] sp [] t0 t0 t0 35 [] f (fun a b c=>1000+a.toNat+b.toNat+c.toNat) (by kernel_rfl)
end Zdq
namespace Zda
def sp:Spec:=av ⟨[(0,Sp 0 0),(1,.agg [ku,ki])],[(some 0,c4)]⟩ ⟨[(0,Si)],[(none,c4)]⟩ g
noncomputable def T(ad:LQ):=mkF ad 72 [] sp [] t0 t0 t0 30 [] f (fun a b c d e i j k l o=>1000+a.toNat+b.toNat+c.length+d.length+e.length+i.toNat+j.toNat+k.length+l.length+o.length) (by kernel_rfl)
end Zda
namespace Zal
def sp:Spec:=av ⟨[(0,Sp 0 0),(1,.agg c0),(2,Si)],[(some 0,c4)]⟩ ⟨[(0,Si)],[(none,c4)]⟩ g
noncomputable def T(ad:LQ):=mkF ad 26 [] sp [Zdo.T ad,Zap.T ad,Zdp.T ad,Zcq.T ad,Zdq.T ad,Zbn.T ad,Zda.T ad,Zbi.T ad] (fun n=>tj 32 ⟨[(3,Sp 1 0),(6,Sp 2 0),(7,Sp 3 0)],[(none,c4),(some 0,[.ptr 0 0]),(some 1,[ki]),(some 2,c5)]⟩ (fun _=>j32 n) <| tj 12 ⟨[(3,Sp 1 0),(4,Sp 2 0),(6,Sp 3 0),(7,Sp 4 0),(9,Si)],[(none,c4),(some 0,[.ptr 0 0]),(some 1,c0),(some 2,[ki]),(some 3,c5)]⟩ (fun _=>j12 n) <| tj 31 ⟨[(6,Sp 1 0)],[(none,c4),(some 0,[ki])]⟩ (fun _=>j31 n) <| tj 29 ⟨[(3,Sp 1 0),(6,Sp 2 0),(14,Sp 3 0)],[(none,c4),(some 0,[.ptr 0 0]),(some 1,[ki]),(some 2,[ku,ki])]⟩ (fun _=>j29 n) <| tn) t0 t0 139 [] f (fun a b c d e _ j k l o p q r s t u v=>1000+a.toNat+b.toNat+c.toNat+d.toNat+e.toNat+j.length+k.length+l.toNat+o.length+p.length+q.length+r.toNat+s.toNat+t.length+u.length+v.length) (by kernel_rfl)
end Zal
namespace Zay
def sp:Spec:=av ⟨[(0,.c (.sl u2))],[]⟩ ⟨[(0,.agg c6),(1,Si),(2,Si)],[]⟩ g
noncomputable def T(ad:LQ):=mkF ad 11 [] sp [Zbc.T ad,Zal.T ad,Zbi.T ad] t0 (fun n=>tl 14 ⟨[(2,Sp 0 0),(6,Sp 1 0),(53,.c (.sl u4)),(54,Si),(55,Si)],[(some 0,c6),(some 1,c4)]⟩ (fun _=>l14 n) <| tl 7 ⟨[(2,Sp 0 0),(5,Sp 1 0),(6,Sp 2 0),(7,.clo 1000026 [.ptr 2 0]),(29,.c (.sl u2)),(30,Si),(31,Si)],[(some 0,c6),(some 1,c7),(some 2,c4)]⟩ (fun _=>l7 n) <| tn) t0 75 [] f (fun a=>1000+a.length) (by kernel_rfl)
end Zay
namespace Zbj
def sp:Spec:=av ⟨[(0,Ss)],[]⟩ ⟨[(0,.agg c6),(1,Si),(2,Si)],[]⟩ g
noncomputable def T(ad:LQ):=mkF ad 8 [] sp [Zbh.T ad,Zay.T ad] t0 t0 t0 22 [] f (fun a=>1000+a.length) (by kernel_rfl)
end Zbj
namespace Zdy
def sp:Spec:=av ⟨[(0,.c (.sl (.int .u32))),(1,.c (.sl (.int .u32)))],[]⟩ ⟨[(0,SB)],[]⟩ g
noncomputable def T(ad:LQ):=mkF ad 23 [] sp [] t0 (fun n=>tl 4 ⟨[(0,.c (.sl (.int .u32))),(1,.c (.sl (.int .u32))),(5,Si)],[]⟩ (fun _=>l4 n) <| tn) t0 26 [] f (fun a b=>1000+a.length+b.length) (by kernel_rfl)
end Zdy
namespace Zdr
def sp:Spec:=av ⟨[],[]⟩ ⟨[(0,SB)],[]⟩ g
noncomputable def T(ad:LQ):=mkF ad 7 [] sp [Zbj.T ad,Zdy.T ad] t0 t0 t0 21 [] f (1000:Nat) (by kernel_rfl)
end Zdr
namespace Zcg
def sp:Spec:=av ⟨[(0,Ss)],[]⟩ ⟨[(0,Ss)],[]⟩ g
noncomputable def T(ad:LQ):=mkF ad 9 [] sp [] t0 t0 t0 8 [] f (fun a=>1000+a.length) (by kernel_rfl)
end Zcg
namespace Zcx
def sp:Spec:=av ⟨[(0,Si)],[]⟩ ⟨[(0,SB)],[]⟩ g
noncomputable def T(ad:LQ):=mkF ad 143 [] sp [] t0 t0 t0 10 [] f (fun a=>1000+a.toNat) (by kernel_rfl)
end Zcx
namespace Zaj
def sp:Spec:=av ⟨[(0,.agg c0)],[]⟩ ⟨[(0,SB)],[]⟩ g
noncomputable def T(ad:LQ):=mkF ad 93 [] sp [Zcx.T ad,Zaz.T ad,Zaq.T ad,Zaw.T ad,Zam.T ad] (fun n=>tj 12 ⟨[(3,Sp 0 0)],[(some 0,c5)]⟩ (fun _=>j12 n) <| tj 4 ⟨[(1,Sp 0 0),(3,Sp 1 0)],[(some 0,c0),(some 1,c5)]⟩ (fun _=>j4 n) <| tn) t0 t0 84 [] f (fun a b c d e _ j k=>1000+a.toNat+b.toNat+c.toNat+d.toNat+e.toNat+j.length+k.length) (by kernel_rfl)
end Zaj
namespace Zdj
def sp:Spec:=av ⟨[(0,Si)],[]⟩ ⟨[(0,Si)],[]⟩ g
noncomputable def T(ad:LQ):=mkF ad 95 [] sp [] t0 t0 t0 9 [] f (fun a=>1000+a.toNat) (by kernel_rfl)
end Zdj
namespace Zbq
def sp:Spec:=av ⟨[(0,.agg c0),(1,.c (.pp .fn))],[]⟩ ⟨[(0,Ss)],[]⟩ g
noncomputable def T(ad:LQ):=mkF ad 194 [] sp [Zct.T ad,Zaw.T ad,Zcu.T ad,Zcv.T ad] t0 t0 t0 9 [K.atA,K.atB,K.atC] f (fun a b c d e _ j k _=>1000+a.toNat+b.toNat+c.toNat+d.toNat+e.toNat+j.length+k.length) (by kernel_rfl)
end Zbq
namespace Zdc
def sp:Spec:=av ⟨[(0,.c kq),(1,Si)],[]⟩ ⟨[(0,Ss)],[]⟩ g
noncomputable def T(ad:LQ):=mkF ad 230 [] sp [internal_strconv_FormatUint.T ad] t0 t0 t0 8 [] f (fun a b=>1000+a.toNat+b.toNat) (by kernel_rfl)
end Zdc
namespace Zba
def sp:Spec:=av ⟨[(0,.agg [.str,ki]),(1,Si)],[]⟩ ⟨[(0,Ss)],[]⟩ g
noncomputable def T(ad:LQ):=mkF ad 231 [] sp [] t0 t0 t0 15 [] f (fun a b c=>1000+a.length+b.toNat+c.toNat) (by kernel_rfl)
end Zba
namespace Zae
def sp:Spec:=av ⟨[(0,.c (.sl u1))],[]⟩ ⟨[(0,Ss),(1,Si)],[]⟩ g
noncomputable def T(ad:LQ):=mkF ad 198 [] sp [Zaz.T ad,Zbo.T ad,Zdc.T ad,Zba.T ad] (fun n=>tj 23 ⟨[(4,.c (.row 258 u3)),(7,Si),(10,Sp 0 0),(14,.c (.sl u1)),(15,Si),(16,Si)],[(some 2,[.str,ki])]⟩ (fun ms=>j23 n (l5 n ms.head!)) <| tn) (fun n=>tl 5 ⟨[(4,.c (.row 258 u3)),(14,.c (.sl u1)),(15,Si),(16,Si)],[]⟩ (fun _=>l5 n) <| tn) t0 106 [] f (fun a=>1000+a.length) (by kernel_rfl)
end Zae
namespace Zbv
def sp:Spec:=av ⟨[(0,Ss),(1,Sb)],[]⟩ ⟨[(0,Ss)],[]⟩ g
noncomputable def T(ad:LQ):=mkF ad 156 [] sp [] t0 (fun n=>tl 1 ⟨[(0,Ss),(1,Sb)],[]⟩ (fun _=>l1 n) <| tn) t0 17 [] f (fun a b=>1000+a.length+b.toNat) (by kernel_rfl)
end Zbv
namespace Zcn
def sp:Spec:=av ⟨[(0,Ss),(1,Ss)],[]⟩ ⟨[(0,Ss)],[]⟩ g
noncomputable def T(ad:LQ):=mkF ad 199 [] sp [Zbv.T ad] (fun n=>tj 5 ⟨[(0,Ss),(1,Ss)],[]⟩ (fun _=>j5 n) <| tn) t0 t0 37 [] f (fun a b=>1000+a.length+b.length) (by kernel_rfl)
end Zcn
namespace Zcy
def sp:Spec:=av ⟨[(0,.agg c0),(1,.c (.pp .str))],[]⟩ ⟨[(0,Ss)],[]⟩ g
noncomputable def T(ad:LQ):=mkF ad 197 [] sp [Zae.T ad,Zcn.T ad] t0 t0 t0 17 [] f (fun a b c d e _ j k l=>1000+a.toNat+b.toNat+c.toNat+d.toNat+e.toNat+j.length+k.length+l.length) (by kernel_rfl)
end Zcy
namespace Zdv
def sp:Spec:=av ⟨[(0,.agg c0)],[]⟩ ⟨[(0,Ss)],[]⟩ g
noncomputable def T(ad:LQ):=mkF ad 153 [] sp [] t0 t0 t0 5 [] f (fun a b c d e _ j k=>1000+a.toNat+b.toNat+c.toNat+d.toNat+e.toNat+j.length+k.length) (by kernel_rfl)
end Zdv
namespace Zac
def sp:Spec:=av ⟨[(0,Ss),(1,.agg c0)],[]⟩ ⟨[(0,Ss),(1,Si)],[]⟩ g
noncomputable def T(ad:LQ):=mkF ad 41 [] sp [Zad.T ad,Zaj.T ad,Zdj.T ad,name_Mnemonic.T ad,Zci.T ad,stmt_operands.T ad,strings_Join.T ad,Zbq.T ad,Zcy.T ad,Zdv.T ad] (fun n=>tj 15 ⟨[(3,Sp 0 0),(6,.c (.row 9 .str)),(7,Ss),(8,.c (.row 9 .str)),(50,.c (.sl u6)),(51,Si),(52,Si)],[(some 0,c0)]⟩ (fun ms=>j15 n (l12 n ms.head!)) <| tj 17 ⟨[(6,.c (.row 9 .str))],[]⟩ (fun _=>j17 n) <| tj 10 ⟨[(3,Sp 0 0),(6,.c (.row 9 .str)),(7,Ss)],[(some 0,c0)]⟩ (fun _=>j10 n) <| tj 6 ⟨[(3,Sp 0 0),(6,.c (.row 9 .str))],[(some 0,c0)]⟩ (fun _=>j6 n) <| tj 3 ⟨[(0,Ss),(3,Sp 0 0)],[(some 1,c0)]⟩ (fun _=>j3 n) <| tn) (fun n=>tl 12 ⟨[(3,Sp 0 0),(6,.c (.row 9 .str)),(7,Ss),(8,.c (.row 9 .str)),(50,.c (.sl u6)),(51,Si),(52,Si)],[(some 0,c0)]⟩ (fun _=>l12 n) <| tn) t0 72 [K.wrA,K.wrB,K.wrC,K.wrE,K.wrQ,K.wrN] f (fun a b c d e i _ k l=>1000+a.length+b.toNat+c.toNat+d.toNat+e.toNat+i.toNat+k.length+l.length) (by kernel_rfl)
end Zac
namespace Zdl
def sp:Spec:=av ⟨[(0,.agg c2)],[]⟩ ⟨[(0,Ss),(1,Si)],[]⟩ g
noncomputable def T(ad:LQ):=mkF ad 40 [] sp [Zac.T ad] t0 t0 t0 11 [] f (fun a b c d e i _ k l=>1000+a.length+b.toNat+c.toNat+d.toNat+e.toNat+i.toNat+k.length+l.length) (by kernel_rfl)
end Zdl
namespace Zce
def sp:Spec:=av ⟨[(0,.c (.sl u2)),(1,.c (.raw (.func (.func 40) #[] #[])))],[]⟩ ⟨[(0,.c (.row 9 .str)),(1,Si),(2,Si)],[]⟩ g
noncomputable def T(ad:LQ):=mkF ad 39 [] sp [Zdl.T ad] t0 (fun n=>tl 5 ⟨[(1,.c (.raw (.func (.func 40) #[] #[]))),(7,.c (.row 9 .str)),(15,.c (.sl u2)),(16,Si),(17,Si)],[]⟩ (fun _=>l5 n) <| tn) t0 39 [] f (fun a=>1000+a.length) (by kernel_rfl)
end Zce
namespace Zcz
def sp:Spec:=av ⟨[(0,.c (.sl u2))],[]⟩ ⟨[(0,Ss),(1,Si),(2,Si)],[]⟩ g
noncomputable def T(ad:LQ):=mkF ad 18 [] sp [Zce.T ad,strings_Join.T ad] t0 t0 t0 20 [] f (fun a=>1000+a.length) (by kernel_rfl)
end Zcz
namespace Zbx
def sp:Spec:=av ⟨[(0,.c (.sl (.int .u32))),(1,.c (.sl (.int .u32)))],[]⟩ ⟨[(0,SB)],[]⟩ g
noncomputable def T(ad:LQ):=mkF ad 43 [] sp [] t0 (fun n=>tl 4 ⟨[(0,.c (.sl (.int .u32))),(1,.c (.sl (.int .u32))),(12,Si),(13,Si)],[]⟩ (fun _=>l4 n) <| tn) t0 26 [] f (fun a b=>1000+a.length+b.length) (by kernel_rfl)
end Zbx
namespace Zby
def sp:Spec:=av ⟨[(0,.c (.sl (.int .i64))),(1,.c (.sl (.int .i64)))],[]⟩ ⟨[(0,SB)],[]⟩ g
noncomputable def T(ad:LQ):=mkF ad 44 [] sp [] t0 (fun n=>tl 4 ⟨[(0,.c (.sl (.int .i64))),(1,.c (.sl (.int .i64))),(12,Si),(13,Si)],[]⟩ (fun _=>l4 n) <| tn) t0 26 [] f (fun a b=>1000+a.length+b.length) (by kernel_rfl)
end Zby
namespace Zbz
def sp:Spec:=av ⟨[(0,.c (.sl u3)),(1,.c (.sl u3))],[]⟩ ⟨[(0,SB)],[]⟩ g
noncomputable def T(ad:LQ):=mkF ad 45 [] sp [] t0 (fun n=>tl 4 ⟨[(0,.c (.sl u3)),(1,.c (.sl u3)),(12,Si),(13,Si)],[]⟩ (fun _=>l4 n) <| tn) t0 26 [] f (fun a b=>1000+a.length+b.length) (by kernel_rfl)
end Zbz
namespace Zcr
def sp:Spec:=av ⟨[(0,.agg c8),(1,.agg c8)],[]⟩ ⟨[(0,SB)],[]⟩ g
noncomputable def T(ad:LQ):=mkF ad 19 [] sp [Zbx.T ad,Zby.T ad,Zbz.T ad] t0 t0 t0 24 [] f (fun a b c d e i=>1000+a.length+b.length+c.length+d.length+e.length+i.length) (by kernel_rfl)
end Zcr
namespace rivetlaw21_AsmSame
def sp:Spec:=av ⟨[(0,Ss)],[]⟩ ⟨[(0,SB)],[]⟩ g
def Q(ad:LQ)(a_rivetlaw21_shown:Option (Bool×Unit)):Nat->Env sp.r.T:=mg types maps [((7,[]),av ⟨[],[]⟩ ⟨[(0,SB)],[]⟩ a_rivetlaw21_shown),(Zcg.T ad).kv,(Zbh.T ad).kv,(Zbj.T ad).kv,(Zay.T ad).kv,(Zcz.T ad).kv,(Zcr.T ad).kv] t0 t0 t0 109 0 []
theorem q2(ad:LQ)(a_rivetlaw21_shown:Option (Bool×Unit)):(fun(n:Nat)=>sL P 5 sp (Q ad a_rivetlaw21_shown n),fun n=>FU P 5 sp 109 (Q ad a_rivetlaw21_shown n))=(fun n=>sR P 5 sp (Q ad a_rivetlaw21_shown n),fun n=>ap sp.a.all (f a_rivetlaw21_shown n)):=by kernel_rfl
noncomputable def T(ad:LQ):=Pf ad 5 [] sp [Zdr.T ad,Zcg.T ad,Zbh.T ad,Zbj.T ad,Zay.T ad,Zcz.T ad,Zcr.T ad] t0 t0 t0 109 [] (fun n=>f Zdr.g n) (fun a=>1000+a.length) (by kernel_rfl) (q2 ad Zdr.g)
end rivetlaw21_AsmSame
theorem rivetlaw21_AsmSame.sat:Sat P (LW ad) 5 rivetlaw21_AsmSame.sp:=(rivetlaw21_AsmSame.T ad).sat
end
end Rv
namespace Rv
open Go
theorem w64{x:Int}(h:-9223372036854775808<=x/\x<=9223372036854775807):IntKind.i64.wrap x=x:=IntWalk.i64_in _ h
theorem Pm{x:Int}(h:0<=x/\x<=4294967295):IntKind.u32.wrap x=x:=IntWalk.u32_in _ h
theorem w8u{x:Int}(h:0<=x/\x<=255):IntKind.u8.wrap x=x:=IntWalk.u8_in _ h
theorem wB{x:Int}(h:0<=x/\x<=18446744073709551615):IntKind.u64.wrap x=x:=IntWalk.u64_in _ h
theorem dt{p:Prop}[Decidable p]:(decide p=true)=p:=by simp
theorem df{p:Prop}[Decidable p]:(decide p=false)=¬p:=by simp
theorem rD(s:Str)(k:Nat):bt s (k:Int)=((s.getD k 0).toNat:Int):=rfl
theorem LZ(b:UInt8):(b.toNat:Int)<256:=by have:=b.toNat_lt;omega
theorem dK{s:Str}{k:Nat}(h:k<s.length):s.drop k=s.getD k 0::s.drop (k+1):=by
 rw[P5 h];congr 1;simp[List.getD,h]
theorem jR(b:UInt8)(n:Nat)(hn:n<256):((b.toNat:Int)=(n:Int))=(b=UInt8.ofNat n):=by
 apply propext;constructor;·intro h;apply UInt8.toNat_inj.1;rw[UInt8.toNat_ofNat',Nat.mod_eq_of_lt hn];omega
 ·intro h;rw[h,UInt8.toNat_ofNat',Nat.mod_eq_of_lt hn]
theorem OW{n:Nat}(h:n<=maxLen):n<=9223372036854775807:=by unfold maxLen at h;omega
end Rv
namespace Rv
open Go
abbrev W32:=BitVec 32
theorem ofI(W:W32):BitVec.ofInt 32 (W.toNat:Int)=W:=by simp
theorem Ol(x:Int):IntKind.u32.wrap x=((BitVec.ofInt 32 x).toNat:Int):=by
 rw[IntKind.wrap_u32,BitVec.toNat_ofInt];omega
theorem Lf(W:W32):IntKind.u32.wrap (W.toNat:Int)=(W.toNat:Int):=by rw[Ol,ofI]
theorem NU(A B:W32):bQ .or .u32 (A.toNat:Int) (B.toNat:Int)=((A ||| B).toNat:Int):=by
 show IntKind.u32.wrap (((BitVec.ofInt 32 (A.toNat:Int) ||| BitVec.ofInt 32 (B.toNat:Int)).toNat:Nat):Int)=_;rw[ofI,ofI,Lf]
theorem Ll(A B:W32):bQ .and .u32 (A.toNat:Int) (B.toNat:Int)=((A &&& B).toNat:Int):=by
 show IntKind.u32.wrap (((BitVec.ofInt 32 (A.toNat:Int) &&& BitVec.ofInt 32 (B.toNat:Int)).toNat:Nat):Int)=_;rw[ofI,ofI,Lf]
theorem Je(A B:W32):bQ .andNot .u32 (A.toNat:Int) (B.toNat:Int)=((A &&& ~~~B).toNat:Int):=by
 show IntKind.u32.wrap (((BitVec.ofInt 32 (A.toNat:Int) &&& ~~~BitVec.ofInt 32 (B.toNat:Int)).toNat:Nat):Int)=_;rw[ofI,ofI,Lf]
theorem AA(A:W32)(b:Nat)(hb:b<=32):IntKind.u32.wrap ((A.toNat:Int)*2 ^ (min ((b:Int)).toNat IntKind.u32.bits))=((A <<< b).toNat:Int):=by
 have e:min ((b:Int)).toNat IntKind.u32.bits=b:=by show min ((b:Int)).toNat 32=b;omega
 rw[e,IntKind.wrap_u32,BitVec.toNat_shiftLeft,Nat.shiftLeft_eq];have:(A.toNat:Int)*2 ^ b=((A.toNat*2 ^ b:Nat):Int):=by rw[Int.natCast_mul,Int.natCast_pow];rfl
 rw[this];generalize A.toNat*2 ^ b=q;omega
theorem LB(A:W32)(b:Nat)(hb:b<=32):(A.toNat:Int).fdiv (2 ^ (min ((b:Int)).toNat IntKind.u32.bits))=((A >>> b).toNat:Int):=by
 have e:min ((b:Int)).toNat IntKind.u32.bits=b:=by show min ((b:Int)).toNat 32=b;omega
 rw[e,BitVec.toNat_ushiftRight,Nat.shiftRight_eq_div_pow,Int.fdiv_eq_ediv_of_nonneg _ (Int.le_of_lt (Int.pow_pos (by decide))),Int.natCast_ediv,Int.natCast_pow];rfl
def uD(W X:W32)(b p:Nat):W32:=(W &&& ~~~(1#32 <<< b)) ||| (((X >>> p) &&& 1#32) <<< b)
def fI(W X:W32)(a:Nat):Nat->W32
 |0=>W
 |k+1=>uD (fI W X a k) X (a+k) k
def fe(W:W32)(a:Nat):Nat->W32
 |0=>0
 |k+1=>fe W a k ||| (((W >>> (a+k)) &&& 1#32) <<< k)
theorem Ee(j:Nat):(1#32).getLsbD j=decide (j=0):=by
 rw[BitVec.getLsbD_one];simp
theorem Dt(W X:W32){b p:Nat}(hb:b<32){j:Nat}(hj:j<32):(uD W X b p).getLsbD j=if j=b then X.getLsbD p else W.getLsbD j:=by
 unfold uD;rw[BitVec.getLsbD_or,BitVec.getLsbD_and,BitVec.getLsbD_not,BitVec.getLsbD_shiftLeft,BitVec.getLsbD_shiftLeft,BitVec.getLsbD_and,BitVec.getLsbD_ushiftRight,Ee];by_cases h:j=b;·subst h;simp[hj]
 ·rw[if_neg h];by_cases h2:j<b
  ·simp[hj,h2]
  ·have:¬j-b=0:=by omega
   simp[hj,this]
theorem wz(W X:W32){a:Nat}:∀{n:Nat},a+n<=32->∀{j:Nat},j<32->(fI W X a n).getLsbD j=if a<=j/\j<a+n then X.getLsbD (j-a) else W.getLsbD j
 |0,_,j,_=>by rw[if_neg (by omega)];rfl
 |n+1,h,j,hj=>by
  rw[fI,Dt _ _ (by omega) hj];by_cases e:j=a+n;·rw[if_pos e,if_pos (by omega),e,Nat.add_sub_cancel_left]
  ·rw[if_neg e,wz W X (by omega) hj];by_cases e2:a<=j/\j<a+n
   ·rw[if_pos e2,if_pos (by omega)]
   ·rw[if_neg e2,if_neg (by omega)]
theorem fE(W:W32){a:Nat}:∀{n:Nat},n<=32->∀{j:Nat},j<32->(fe W a n).getLsbD j=(decide (j<n)&&W.getLsbD (a+j))
 |0,_,j,_=>by simp[fe]
 |n+1,h,j,hj=>by
  rw[fe,BitVec.getLsbD_or,fE W (by omega) hj,BitVec.getLsbD_shiftLeft,BitVec.getLsbD_and,BitVec.getLsbD_ushiftRight,Ee];by_cases e:j=n;·subst e;simp[hj]
  ·by_cases e2:j<n
   ·simp[e2];omega
   ·have h1:¬j-n=0:=by omega
    have h2:¬j<n+1:=by omega
    simp[e2,h1,h2]
theorem ou{A B:W32}(h:∀j,j<32->A.getLsbD j=B.getLsbD j):A=B:=BitVec.eq_of_getLsbD_eq fun j hj=>h j hj
theorem Bj(W X:W32){a n b m:Nat}(h:a+n<=32)(h1:a<=b)(h2:b+m<=a+n):fe (fI W X a n) b m=fe X (b-a) m:=ou fun j hj=>by
 rw[fE _ (by omega) hj,fE _ (by omega) hj];by_cases e:j<m;·rw[wz _ _ h (by omega),if_pos (by omega),show b+j-a=b-a+j by omega]
 ·simp[e]
theorem Mr(W X:W32){a n b m:Nat}(h:a+n<=32)(hb:b+m<=32)(h1:b+m<=a\/a+n<=b):fe (fI W X a n) b m=fe W b m:=ou fun j hj=>by
 rw[fE _ (by omega) hj,fE _ (by omega) hj];by_cases e:j<m;·rw[wz _ _ h (by omega),if_neg (by omega)]
 ·simp[e]
theorem JM(b m:Nat)(hm:m<=32):fe 0 b m=0:=ou fun j hj=>by
 rw[fE _ hm hj];simp
theorem Mq{X:W32}{n:Nat}(hn:n<=32)(hx:X.toNat<2 ^ n):fe X 0 n=X:=ou fun j hj=>by
 rw[fE _ hn hj,Nat.zero_add];by_cases e:j<n;·simp[e]
 ·have:X.getLsbD j=false:=by
   show X.toNat.testBit j=false;exact Nat.testBit_lt_two_pow (Qk hx (Nat.pow_le_pow_right (by decide) (by omega)))
  simp[e,this]
theorem NC(W:W32)(a:Nat){n:Nat}(hn:n<=32):(fe W a n).toNat<2 ^ n:=by
 refine Nat.lt_pow_two_of_testBit _ fun j hj=>?_
 by_cases h:j<32;·have:=fE W (a:=a) hn h;show(fe W a n).getLsbD j=false;rw[this];simp;omega
 ·exact BitVec.getLsbD_of_ge _ _ (by omega)
theorem Na(W X:W32){b p:Nat}(hb:b<32)(hp:p<32):Zdf.g (b:Int) (p:Int) (W.toNat:Int) (X.toNat:Int)=some (((uD W X b p).toNat:Int),(X.toNat:Int),()):=by
 unfold Zdf.g Zdf.f;have e1:(1:Int)=((1#32).toNat:Int):=rfl;rw[if_neg (by omega),if_neg (by omega),if_neg (by omega),LB X p (by omega),e1,AA (1#32) b (by omega),Ll,AA _ b (by omega),Je,NU];rfl
theorem JC(n:Nat)(X W:W32){a c:Nat}(hc:1<=c)(h:a+c<=32):∀(m k:Nat),k<=c->c-k<m->Zcc.l2 n m (a:Int) (c:Int) ((a+k:Nat):Int) ((fI W X a k).toNat:Int) (X.toNat:Int)=some (((fI W X a c).toNat:Int),(X.toNat:Int),()):=by
 intro m
 induction m with
 |zero=>intro k _ hm;omega
 |succ m ih=>
  intro k hk hm;rw[Zcc.l2];simp only[dt];by_cases e:k=c
  ·subst e;by_cases e2:a+k<32
   ·rw[if_pos (by omega),if_neg (by rw[w64 (by omega)];omega)]
   ·rw[if_neg (by omega)]
  ·rw[if_pos (by omega),w64 (by omega),if_pos (by omega),show((a+k:Nat):Int)-(a:Int)=(k:Int) by omega,Na _ X (by omega) (by omega),Pn];dsimp only;rw[w64 (by omega),show((a+k:Nat):Int)+1=((a+(k+1):Nat):Int) by omega];exact ih (k+1) (by omega) (by omega)
theorem Ob(W X:W32){a c:Nat}(hc:1<=c)(h:a+c<=32):Zdg.g (W.toNat:Int) (a:Int) (c:Int) (X.toNat:Int)=some (((fI W X a c).toNat:Int),()):=by
 unfold Zdg.g Zdg.f Zcc.g Zcc.f;simp only[dt,df];rw[if_pos (by omega),if_pos (by omega),w64 (by omega),if_neg (by omega)];have hmx:mx (a:Int) 0=((a+0:Nat):Int):=by unfold mx;split<;>omega
 rw[hmx];have:=JC (1000+((a:Int)).toNat+((c:Int)).toNat+((W.toNat:Int)).toNat+((X.toNat:Int)).toNat) X W hc h (1000+((a:Int)).toNat+((c:Int)).toNat+((W.toNat:Int)).toNat+((X.toNat:Int)).toNat) 0 (by omega) (by omega);rw[show fI W X a 0=W from rfl] at this;rw[this,Pn]
theorem Mo(O W:W32){b p:Nat}(hb:b<32)(hp:p<32):Zdh.g (b:Int) (p:Int) (O.toNat:Int) (W.toNat:Int)=some (((O ||| (((W >>> b) &&& 1#32) <<< p)).toNat:Int),(W.toNat:Int),()):=by
 unfold Zdh.g Zdh.f;have e1:(1:Int)=((1#32).toNat:Int):=rfl;rw[if_neg (by omega),if_neg (by omega),LB W b (by omega),e1,Ll,AA _ p (by omega),NU]
theorem JB(n:Nat)(W:W32){a c:Nat}(hc:1<=c)(h:a+c<=32):∀(m k:Nat),k<=c->c-k<m->Zcd.l2 n m (a:Int) (c:Int) ((a+k:Nat):Int) ((fe W a k).toNat:Int) (W.toNat:Int)=some (((fe W a c).toNat:Int),(W.toNat:Int),()):=by
 intro m
 induction m with
 |zero=>intro k _ hm;omega
 |succ m ih=>
  intro k hk hm;rw[Zcd.l2];simp only[dt];by_cases e:k=c
  ·subst e;by_cases e2:a+k<32
   ·rw[if_pos (by omega),if_neg (by rw[w64 (by omega)];omega)]
   ·rw[if_neg (by omega)]
  ·rw[if_pos (by omega),w64 (by omega),if_pos (by omega),show((a+k:Nat):Int)-(a:Int)=(k:Int) by omega,Mo _ W (by omega) (by omega),Pn];dsimp only;rw[w64 (by omega),show((a+k:Nat):Int)+1=((a+(k+1):Nat):Int) by omega];exact ih (k+1) (by omega) (by omega)
theorem NB(W:W32){a c:Nat}(hc:1<=c)(h:a+c<=32):Zdi.g (W.toNat:Int) (a:Int) (c:Int)=some (((fe W a c).toNat:Int),()):=by
 unfold Zdi.g Zdi.f Zcd.g Zcd.f;simp only[dt,df];rw[if_pos (by omega),if_pos (by omega),w64 (by omega),if_neg (by omega)];have hmx:mx (a:Int) 0=((a+0:Nat):Int):=by unfold mx;split<;>omega
 rw[hmx];have:=JB (1000+((a:Int)).toNat+((c:Int)).toNat+((0:Int)).toNat+((W.toNat:Int)).toNat) W hc h (1000+((a:Int)).toNat+((c:Int)).toNat+((0:Int)).toNat+((W.toNat:Int)).toNat) 0 (by omega) (by omega);rw[show((fe W a 0).toNat:Int)=0 from rfl] at this;rw[this,Pn]
end Rv
namespace Rv
open Go
def kr:W32->List (Nat×Nat×Int)->W32
 |W,[]=>W
 |W,(a,n,x)::r=>kr (fI W (BitVec.ofInt 32 x) a n) r
abbrev fld(f:Nat×Nat×Int):Int×Int×Int×Unit:=((f.1:Int),(f.2.1:Int),f.2.2,())
abbrev O4:Int×Int×Int×Unit:=((0:Int),((0:Int),((0:Int),())))
theorem JZ(n:Nat)(fs:List (Nat×Nat×Int))(hf:∀f∈fs,1<=f.2.1/\f.1+f.2.1<=32)(hl:fs.length<=1000):∀(m i:Nat) (W:W32),i<=fs.length->fs.length-i<m ->
  Zas.l3 n m (W.toNat:Int) (fs.map fld) ((fs.map fld).length:Int) (i:Int)=some (((kr W (fs.drop i)).toNat:Int),()):=by
 intro m
 induction m with
 |zero=>intro i _ _ h;omega
 |succ m ih=>
  intro i W hi hm;rw[Zas.l3];simp only[dt,PU];by_cases h:i<fs.length
  ·have hd:fs.drop i=fs[i]::fs.drop (i+1):=P5 h;have hg:(fs.map fld).getD ((i:Int)).toNat O4=fld fs[i]:=by
    rw[PN,PM,PI (by simpa using h)];simp
   obtain⟨h1,h2⟩:=hf fs[i] (Qp h);rw[if_pos (by omega),if_pos (by omega),if_pos (by decide),if_pos (by decide),if_pos (by decide),hg];have q1:∀x y z:Int,([x,y,z]:List Int).getD ((0:Int)).toNat 0=x:=fun _ _ _=>rfl
   have q2:∀x y z:Int,([x,y,z]:List Int).getD ((1:Int)).toNat 0=y:=fun _ _ _=>rfl
   have q3:∀x y z:Int,([x,y,z]:List Int).getD ((2:Int)).toNat 0=z:=fun _ _ _=>rfl
   rw[q1,q2,q3];dsimp only[fld];rw[Ol,Ob _ _ h1 h2,Pn];dsimp only;rw[w64 (by omega),show(i:Int)+1=((i+1:Nat):Int) by omega,hd];have:=ih (i+1) (fI W (BitVec.ofInt 32 fs[i].2.2) fs[i].1 fs[i].2.1) (by omega) (by omega);rw[PU] at this;exact this
  ·rw[if_neg (by omega),List.drop_eq_nil_of_le (by omega)];rfl
theorem NH(fs:List (Nat×Nat×Int))(hf:∀f∈fs,1<=f.2.1/\f.1+f.2.1<=32)(hl:fs.length<=1000)(l:List (Int×Int×Int×Unit))(e:l=fs.map fld):Zas.g l=some (((kr 0 fs).toNat:Int),()):=by
 subst e;unfold Zas.g Zas.f;have:=JZ (1000+(fs.map fld).length) fs hf hl (1000+(fs.map fld).length) 0 0 (by omega) (by rw[PU];omega);rw[PZ] at this;exact this
def hdN(f:Nat)(u v:Bool):Nat:=f*4+(if u then 2 else 0)+(if v then 1 else 0)
theorem ko(f:Nat)(hf:f<4)(u v:Bool):Zbe.g (f:Int) u v=some (28,4,(hdN f u v:Int),()):=by
 have:∀f:Nat,f<4->∀u v:Bool,Zbe.g (f:Int) u v=some (28,4,(hdN f u v:Int),()):=by decide +kernel
 exact this f hf u v
def fD(k o a b c i:Int)(u:Bool):List (Nat×Nat×Int):=
 if k=1 then[(28,4,(hdN 0 u false:Int)),(24,4,a),(20,4,b),(16,4,o),(0,4,c)] else
 if k=3\/k=4 then[(28,4,(hdN 0 true (decide (k=4)):Int)),(24,4,a)] else
 if k=2 then[(28,4,(hdN 1 u (decide (i<0)):Int)),(24,4,a),(20,4,b),(16,4,o),(0,16,i)] else
 if k=5 then[(28,4,(hdN 2 (decide (2<=o)) (decide (Int.tmod o 2=1)):Int)),(24,4,a),(20,4,b),(0,20,i)] else
 if k=6 then[(28,4,(hdN 3 false u:Int)),(24,4,o),(0,4,c)] else
 [(28,4,(hdN 3 true u:Int)),(24,4,o),(0,24,i)]
theorem DL(k o a b c i:Int)(u:Bool):(∀f∈fD k o a b c i u,1<=f.2.1/\f.1+f.2.1<=32)/\(fD k o a b c i u).length<=1000:=by
 unfold fD;split;·exact⟨by simp,by simp⟩
 ·split
  ·exact⟨by simp,by simp⟩
  ·split
   ·exact⟨by simp,by simp⟩
   ·split
    ·exact⟨by simp,by simp⟩
    ·split
     ·exact⟨by simp,by simp⟩
     ·exact⟨by simp,by simp⟩
def aS(k o a b c i:Int)(u:Bool):W32:=kr 0 (fD k o a b c i u)
theorem mE(k o a b c i:Int)(u:Bool)(l:List (Int×Int×Int×Unit))(e:l=(fD k o a b c i u).map fld):Zas.g l=some (((aS k o a b c i u).toNat:Int),()):=
 NH _ (DL k o a b c i u).1 (DL k o a b c i u).2 l e
theorem mq(k o a b c i:Int)(u:Bool):Zbm.g k o a b c i u=some (((aS k o a b c i u).toNat:Int),()):=by
 have J:∀n,k≠1->k≠2->k≠3->k≠4->k≠5->k≠6->Zbm.j14 n k o a b c i u 24 4 o=some (((aS k o a b c i u).toNat:Int),()):=fun n h1 h2 h3 h4 h5 h6=>by
  unfold Zbm.j14;rw[show(3:Int)=((3:Nat):Int) from rfl,ko 3 (by decide),Pn,mE k o a b c i u _ (by unfold fD;simp[h1,h2,h3,h4,h5,h6]),Pn]
 unfold Zbm.g;generalize 1000+k.toNat+o.toNat+a.toNat+b.toNat+c.toNat+i.toNat=n;unfold Zbm.f;simp only[dt];have e0:(0:Int)=((0:Nat):Int):=rfl;by_cases h1:k=1;·rw[if_pos h1];have:=ko 0 (by decide) u false;rw[show((0:Nat):Int)=0 from rfl] at this;rw[this,Pn,mE k o a b c i u _ (by unfold fD;simp[h1]),Pn]
 ·rw[if_neg h1];have h0:=ko 0 (by decide) true (decide (k=4));rw[show((0:Nat):Int)=0 from rfl] at h0;have g2:=ko 1 (by decide) u (decide (i<0));rw[show((1:Nat):Int)=1 from rfl] at g2;have g5:=ko 2 (by decide) (decide (2<=o)) (decide (Int.tmod o 2=1));rw[show((2:Nat):Int)=2 from rfl] at g5;have g6:=ko 3 (by decide) false u;rw[show((3:Nat):Int)=3 from rfl] at g6;rw[h0,g2,g5,g6];simp only[Pn];by_cases h3:k=3
  ·rw[if_pos h3,if_pos h3,mE k o a b c i u _ (by unfold fD;simp[h3]),Pn]
  ·rw[if_neg h3];by_cases h4:k=4
   ·rw[if_pos h4,mE k o a b c i u _ (by unfold fD;simp[h4]),Pn]
   ·rw[if_neg h4];by_cases h2:k=2
    ·rw[if_pos h2,mE k o a b c i u _ (by unfold fD;simp[h2]),Pn]
    ·rw[if_neg h2];by_cases h5:k=5
     ·rw[if_pos h5,mE k o a b c i u _ (by unfold fD;simp[h5]),Pn]
     ·rw[if_neg h5];by_cases h6:k=6
      ·rw[if_pos h6,mE k o a b c i u _ (by unfold fD;simp[h6]),Pn]
      ·rw[if_neg h6];exact J n h1 h2 h3 h4 h5 h6
abbrev Gn(W:W32)(a n:Nat):Int:=((fe W a n).toNat:Int)
theorem fF(W:W32)(a:Nat){n:Nat}(hn:n<=32):0<=Gn W a n/\Gn W a n<2 ^ n:=by
 have:=NC W a hn;refine⟨Int.natCast_nonneg _,?_⟩;have h2:((2 ^ n:Nat):Int)=2 ^ n:=by rw[Int.natCast_pow];rfl
 rw[<- h2];exact Int.ofNat_lt.2 this
theorem iI(W:W32)(a n:Nat)(hn:1<=n)(h:a+n<=32):Zav.g (a:Int) (n:Int) (W.toNat:Int)=some (Gn W a n,()):=by
 unfold Zav.g Zav.f;rw[NB W hn h,Pn];dsimp only;have:=fF W a (n:=n) (by omega);have h32:(fe W a n).toNat<2 ^ 32:=(fe W a n).isLt;rw[w64 (by omega)]
def sgV(W:W32)(n:Nat):Int:=IntKind.i64.wrap ((IntKind.i32.wrap ((W <<< (32-n)).toNat:Int)).fdiv (2 ^ (32-n)))
theorem zQ(W:W32)(n:Nat)(h:1<=n)(h2:n<=32):Zcw.g (W.toNat:Int) (n:Int)=some (sgV W n,()):=by
 unfold Zcw.g Zcw.f Zdu.g Zdu.f;have hk:mn (mx (n:Int) 1) 32=(n:Int):=by unfold mn mx;split<;>split<;>omega
 rw[hk,Pn];dsimp only;rw[w64 (by omega),show(32:Int)-(n:Int)=((32-n:Nat):Int) by omega,if_neg (by omega),if_neg (by omega),AA W (32-n) (by omega)];have e:min (((32-n:Nat):Int)).toNat IntKind.i32.bits=32-n:=by show min (((32-n:Nat):Int)).toNat 32=_;omega
 rw[e];rfl
theorem Em{W:W32}{n:Nat}(h:n<=32)(h0:fe W 0 n=0):sgV W n=0:=by
 have:W <<< (32-n)=0:=ou fun j hj=>by
  rw[BitVec.getLsbD_shiftLeft];by_cases e:j<32-n;·simp[e]
  ·have:=congrArg (fun V:W32=>V.getLsbD (j-(32-n))) h0;simp only[fE W h (show j-(32-n)<32 by omega)] at this;rw[Nat.zero_add] at this;have h3:j-(32-n)<n:=by omega
   simp[h3] at this;simp[e,hj,this]
 unfold sgV;rw[this];show IntKind.i64.wrap ((IntKind.i32.wrap 0).fdiv (2 ^ (32-n)))=0;rw[show IntKind.i32.wrap 0=0 from rfl,Int.zero_fdiv];rfl
def bI(W:W32):Int×Int×Int×Int×Int×Int×Bool×Unit:=
 if Gn W 30 2=0 then
  (if Gn W 29 1=1/\Gn W 16 4=0 then(3+Gn W 28 1,0,Gn W 24 4,0,0,0,false,()) else(1,Gn W 16 4,Gn W 24 4,Gn W 20 4,Gn W 0 4,0,decide (Gn W 29 1=1),()))
 else if Gn W 30 2=1 then(2,Gn W 16 4,Gn W 24 4,Gn W 20 4,0,Gn W 0 16-Gn W 28 1*65536,decide (Gn W 29 1=1),())
 else if Gn W 30 2=2 then(5,Gn W 29 1*2+Gn W 28 1,Gn W 24 4,Gn W 20 4,0,sgV W 20,false,())
 else if Gn W 29 1=1 then(7,Gn W 24 4,0,0,0,sgV W 24,decide (Gn W 28 1=1),())
 else(6,Gn W 24 4,0,0,Gn W 0 4,0,decide (Gn W 28 1=1),())
theorem p9(W:W32):Zbf.g (W.toNat:Int)=some (bI W):=by
 unfold Zbf.g Zbf.f;have r1:=iI W 29 1 (by decide) (by decide);have r2:=iI W 28 1 (by decide) (by decide);have r3:=iI W 24 4 (by decide) (by decide);have r4:=iI W 20 4 (by decide) (by decide);have r5:=iI W 16 4 (by decide) (by decide);have r6:=iI W 30 2 (by decide) (by decide);have r7:=iI W 0 4 (by decide) (by decide);have r8:=iI W 0 16 (by decide) (by decide);have s1:=zQ W 20 (by decide) (by decide);have s2:=zQ W 24 (by decide) (by decide);have b1:=fF W 29 (n:=1) (by decide);have b2:=fF W 28 (n:=1) (by decide);have b8:=fF W 0 (n:=16) (by decide);have p16:IntKind.i64.wrap (Gn W 28 1*2 ^ (min (16:Int).toNat IntKind.i64.bits))=Gn W 28 1*65536:=by
  show IntKind.i64.wrap (Gn W 28 1*65536)=_;rw[w64 (by omega)]
 simp only[Int.cast_ofNat_Int] at r1 r2 r3 r4 r5 r6 r7 r8 s1 s2;simp only[r1,r2,r3,r4,r5,r6,r7,r8,s1,s2,Pn,dt,Zbf.j16,p16];unfold bI;by_cases h1:Gn W 30 2=0
 ·rw[if_pos h1,if_pos h1];by_cases h2:Gn W 29 1=1
  ·rw[if_pos h2];by_cases h3:Gn W 16 4=0
   ·rw[if_pos h3,if_pos ⟨h2,h3⟩,w64 (by omega)]
   ·rw[if_neg h3,if_neg (fun h=>h3 h.2)]
  ·rw[if_neg h2,if_neg (fun h=>h2 h.1)]
 ·rw[if_neg h1,if_neg h1];by_cases h2:Gn W 30 2=1
  ·rw[if_pos h2,if_pos h2,w64 (by omega)]
  ·rw[if_neg h2,if_neg h2];by_cases h3:Gn W 30 2=2
   ·rw[if_pos h3,if_pos h3,w64 (x:=Gn W 29 1*2) (by omega),w64 (by omega)]
   ·rw[if_neg h3,if_neg h3];by_cases h4:Gn W 29 1=1
    ·rw[if_pos h4,if_pos h4]
    ·rw[if_neg h4,if_neg h4]
theorem ah(W X:W32){a n b m:Nat}(h:a+n<=32)(hb:b+m<=32)(h1:b+m<=a\/a+n<=b):Gn (fI W X a n) b m=Gn W b m:=by unfold Gn;rw[Mr W X h hb h1]
theorem Ar(W:W32){x:Int}{a n:Nat}(h:a+n<=32)(hx:0<=x/\x<2 ^ n):Gn (fI W (BitVec.ofInt 32 x) a n) a n=x:=by
 have h1:(2:Int) ^ n=((2 ^ n:Nat):Int):=by rw[Int.natCast_pow];rfl
 have h2:2 ^ n<=2 ^ 32:=Nat.pow_le_pow_right (by decide) (by omega);have h3:(BitVec.ofInt 32 x).toNat=x.toNat:=by
  rw[BitVec.toNat_ofInt];rw[h1] at hx;generalize 2 ^ n=q at *;omega
 unfold Gn;rw[Bj W _ h (Px _) (Px _),Nat.sub_self,Mq (by omega) (by rw[h3];rw[h1] at hx;omega),h3];omega
theorem gG(W:W32){x:Int}{a:Nat}(h:a+4<=32)(hx:0<=x/\x<16):Gn (fI W (BitVec.ofInt 32 x) a 4) a 4=x:=Ar W h hx
theorem bz(W X:W32){a n b m:Nat}(h:a+n<=32)(h1:a<=b)(h2:b+m<=a+n):Gn (fI W X a n) b m=Gn X (b-a) m:=by unfold Gn;rw[Bj W X h h1 h2]
theorem Ms(b m:Nat)(hm:m<=32):Gn 0 b m=0:=by unfold Gn;rw[JM b m hm];rfl
theorem lD:∀f:Nat,f<4->∀u v:Bool,Gn (BitVec.ofInt 32 (hdN f u v:Int)) 2 2=f/\Gn (BitVec.ofInt 32 (hdN f u v:Int)) 1 1=(if u then 1 else 0)/\Gn (BitVec.ofInt 32 (hdN f u v:Int)) 0 1=(if v then 1 else 0):=by decide +kernel
def rg(x:Int):Prop:=0<=x/\x<16
inductive bU:Int->Int->Int->Int->Int->Bool->Prop
 |reg {o a b c:Int} {u:Bool}:0<o->o<12->rg a->rg b->rg c->(u=true->8<=o/\o<=10)->bU 1 o a b c u
 |mov {a c:Int}:rg a->rg c->bU 1 0 a 0 c false
 |imm {o a b:Int} {u:Bool}:0<o->o<12->rg a->rg b->(u=true->8<=o/\o<=10)->bU 2 o a b 0 u
 |movi {a:Int} {u:Bool}:rg a->bU 2 0 a 0 0 u
 |hi {a:Int}:rg a->bU 3 0 a 0 0 false
 |fl {a:Int}:rg a->bU 4 0 a 0 0 false
 |mem {o a b:Int}:0<=o->o<4->rg a->rg b->bU 5 o a b 0 false
 |br {o c:Int} {u:Bool}:rg o->rg c->bU 6 o 0 0 c u
 |jmp {o:Int} {u:Bool}:rg o->bU 7 o 0 0 0 u
theorem BX{o a b c:Int}{u:Bool}(ho:rg o)(ha:rg a)(hb:rg b)(hc:rg c)(hu:u=true->o≠0):bI (aS 1 o a b c 0 u)=(1,o,a,b,c,0,u,()):=by
 obtain⟨h1,h2,h3⟩:=lD 0 (by decide) u false;generalize hW:aS 1 o a b c 0 u=W;unfold aS fD at hW;rw[if_pos rfl] at hW;simp only[kr] at hW;have w1:Gn W 30 2=0:=by rw[<- hW,ah _ _ (by decide) (by decide) (by decide),ah _ _ (by decide) (by decide) (by decide),ah _ _ (by decide) (by decide) (by decide),ah _ _ (by decide) (by decide) (by decide),bz _ _ (by decide) (by decide) (by decide)];exact h1
 have w2:Gn W 29 1=if u then 1 else 0:=by rw[<- hW,ah _ _ (by decide) (by decide) (by decide),ah _ _ (by decide) (by decide) (by decide),ah _ _ (by decide) (by decide) (by decide),ah _ _ (by decide) (by decide) (by decide),bz _ _ (by decide) (by decide) (by decide)];exact h2
 have w3:Gn W 24 4=a:=by rw[<- hW,ah _ _ (by decide) (by decide) (by decide),ah _ _ (by decide) (by decide) (by decide),ah _ _ (by decide) (by decide) (by decide),gG _ (by decide) ha]
 have w4:Gn W 20 4=b:=by rw[<- hW,ah _ _ (by decide) (by decide) (by decide),ah _ _ (by decide) (by decide) (by decide),gG _ (by decide) hb]
 have w5:Gn W 16 4=o:=by rw[<- hW,ah _ _ (by decide) (by decide) (by decide),gG _ (by decide) ho]
 have w6:Gn W 0 4=c:=by rw[<- hW,gG _ (by decide) hc]
 unfold bI;rw[w1,w2,w3,w4,w5,w6,if_pos rfl];cases u with
 |false=>simp
 |true=>simp[hu rfl]
theorem BV{o a b:Int}{u:Bool}(ho:rg o)(ha:rg a)(hb:rg b):bI (aS 2 o a b 0 0 u)=(2,o,a,b,0,0,u,()):=by
 obtain⟨h1,h2,h3⟩:=lD 1 (by decide) u false;generalize hW:aS 2 o a b 0 0 u=W;unfold aS fD at hW;rw[if_neg (by decide),if_neg (by decide),if_pos rfl] at hW;simp only[kr] at hW;rw[show decide ((0:Int)<0)=false from rfl] at hW;have w1:Gn W 30 2=1:=by rw[<- hW,ah _ _ (by decide) (by decide) (by decide),ah _ _ (by decide) (by decide) (by decide),ah _ _ (by decide) (by decide) (by decide),ah _ _ (by decide) (by decide) (by decide),bz _ _ (by decide) (by decide) (by decide)];exact h1
 have w2:Gn W 29 1=if u then 1 else 0:=by rw[<- hW,ah _ _ (by decide) (by decide) (by decide),ah _ _ (by decide) (by decide) (by decide),ah _ _ (by decide) (by decide) (by decide),ah _ _ (by decide) (by decide) (by decide),bz _ _ (by decide) (by decide) (by decide)];exact h2
 have w7:Gn W 28 1=0:=by rw[<- hW,ah _ _ (by decide) (by decide) (by decide),ah _ _ (by decide) (by decide) (by decide),ah _ _ (by decide) (by decide) (by decide),ah _ _ (by decide) (by decide) (by decide),bz _ _ (by decide) (by decide) (by decide)];exact h3
 have w3:Gn W 24 4=a:=by rw[<- hW,ah _ _ (by decide) (by decide) (by decide),ah _ _ (by decide) (by decide) (by decide),ah _ _ (by decide) (by decide) (by decide),gG _ (by decide) ha]
 have w4:Gn W 20 4=b:=by rw[<- hW,ah _ _ (by decide) (by decide) (by decide),ah _ _ (by decide) (by decide) (by decide),gG _ (by decide) hb]
 have w5:Gn W 16 4=o:=by rw[<- hW,ah _ _ (by decide) (by decide) (by decide),gG _ (by decide) ho]
 have w6:Gn W 0 16=0:=by rw[<- hW,Ar _ (by decide) (by decide)]
 unfold bI;rw[w1,w2,w3,w4,w5,w6,w7,if_neg (by decide),if_pos rfl];cases u<;>simp
theorem Ej{k a:Int}(hk:k=3\/k=4)(ha:rg a):bI (aS k 0 a 0 0 0 false)=(k,0,a,0,0,0,false,()):=by
 obtain⟨h1,h2,h3⟩:=lD 0 (by decide) true (decide (k=4));generalize hW:aS k 0 a 0 0 0 false=W;unfold aS fD at hW;rw[if_neg (by omega),if_pos hk] at hW;simp only[kr] at hW;have w1:Gn W 30 2=0:=by rw[<- hW,ah _ _ (by decide) (by decide) (by decide),bz _ _ (by decide) (by decide) (by decide)];exact h1
 have w2:Gn W 29 1=1:=by rw[<- hW,ah _ _ (by decide) (by decide) (by decide),bz _ _ (by decide) (by decide) (by decide)];exact h2
 have w7:Gn W 28 1=if decide (k=4) then 1 else 0:=by rw[<- hW,ah _ _ (by decide) (by decide) (by decide),bz _ _ (by decide) (by decide) (by decide)];exact h3
 have w3:Gn W 24 4=a:=by rw[<- hW,gG _ (by decide) ha]
 have w5:Gn W 16 4=0:=by rw[<- hW,ah _ _ (by decide) (by decide) (by decide),ah _ _ (by decide) (by decide) (by decide),Ms _ _ (by decide)]
 unfold bI;rw[w1,w2,w3,w5,w7,if_pos rfl,if_pos ⟨rfl,rfl⟩];rcases hk with rfl|rfl<;>simp
theorem KP{o a b:Int}(ho:0<=o/\o<4)(ha:rg a)(hb:rg b):bI (aS 5 o a b 0 0 false)=(5,o,a,b,0,0,false,()):=by
 obtain⟨h1,h2,h3⟩:=lD 2 (by decide) (decide (2<=o)) (decide (Int.tmod o 2=1));generalize hW:aS 5 o a b 0 0 false=W;unfold aS fD at hW;rw[if_neg (by decide),if_neg (by decide),if_neg (by decide),if_pos rfl] at hW;simp only[kr] at hW;have w1:Gn W 30 2=2:=by rw[<- hW,ah _ _ (by decide) (by decide) (by decide),ah _ _ (by decide) (by decide) (by decide),ah _ _ (by decide) (by decide) (by decide),bz _ _ (by decide) (by decide) (by decide)];exact h1
 have w2:Gn W 29 1=if decide (2<=o) then 1 else 0:=by rw[<- hW,ah _ _ (by decide) (by decide) (by decide),ah _ _ (by decide) (by decide) (by decide),ah _ _ (by decide) (by decide) (by decide),bz _ _ (by decide) (by decide) (by decide)];exact h2
 have w7:Gn W 28 1=if decide (Int.tmod o 2=1) then 1 else 0:=by rw[<- hW,ah _ _ (by decide) (by decide) (by decide),ah _ _ (by decide) (by decide) (by decide),ah _ _ (by decide) (by decide) (by decide),bz _ _ (by decide) (by decide) (by decide)];exact h3
 have w3:Gn W 24 4=a:=by rw[<- hW,ah _ _ (by decide) (by decide) (by decide),ah _ _ (by decide) (by decide) (by decide),gG _ (by decide) ha]
 have w4:Gn W 20 4=b:=by rw[<- hW,ah _ _ (by decide) (by decide) (by decide),gG _ (by decide) hb]
 have w6:sgV W 20=0:=Em (by decide) (by
  rw[<- hW];have:=Ar (x:=0) (a:=0) (n:=20) (fI (fI (fI 0 (BitVec.ofInt 32 ((hdN 2 (decide (2<=o)) (decide (Int.tmod o 2=1)):Nat):Int)) 28 4) (BitVec.ofInt 32 a) 24 4) (BitVec.ofInt 32 b) 20 4) (by decide) (by decide);exact BitVec.eq_of_toNat_eq (by unfold Gn at this;simpa using this))
 have:o=0\/o=1\/o=2\/o=3:=by omega
 unfold bI;rw[w1,w2,w3,w4,w6,w7,if_neg (by decide),if_neg (by decide),if_pos rfl];rcases this with rfl|rfl|rfl|rfl<;>rfl
theorem M8{o c:Int}{u:Bool}(ho:rg o)(hc:rg c):bI (aS 6 o 0 0 c 0 u)=(6,o,0,0,c,0,u,()):=by
 obtain⟨h1,h2,h3⟩:=lD 3 (by decide) false u;generalize hW:aS 6 o 0 0 c 0 u=W;unfold aS fD at hW;rw[if_neg (by decide),if_neg (by decide),if_neg (by decide),if_neg (by decide),if_pos rfl] at hW;simp only[kr] at hW;have w1:Gn W 30 2=3:=by rw[<- hW,ah _ _ (by decide) (by decide) (by decide),ah _ _ (by decide) (by decide) (by decide),bz _ _ (by decide) (by decide) (by decide)];exact h1
 have w2:Gn W 29 1=0:=by rw[<- hW,ah _ _ (by decide) (by decide) (by decide),ah _ _ (by decide) (by decide) (by decide),bz _ _ (by decide) (by decide) (by decide)];exact h2
 have w7:Gn W 28 1=if u then 1 else 0:=by rw[<- hW,ah _ _ (by decide) (by decide) (by decide),ah _ _ (by decide) (by decide) (by decide),bz _ _ (by decide) (by decide) (by decide)];exact h3
 have w3:Gn W 24 4=o:=by rw[<- hW,ah _ _ (by decide) (by decide) (by decide),gG _ (by decide) ho]
 have w6:Gn W 0 4=c:=by rw[<- hW,gG _ (by decide) hc]
 unfold bI;rw[w1,w2,w3,w6,w7,if_neg (by decide),if_neg (by decide),if_neg (by decide),if_neg (by decide)];cases u<;>simp
theorem KO{o:Int}{u:Bool}(ho:rg o):bI (aS 7 o 0 0 0 0 u)=(7,o,0,0,0,0,u,()):=by
 obtain⟨h1,h2,h3⟩:=lD 3 (by decide) true u;generalize hW:aS 7 o 0 0 0 0 u=W;unfold aS fD at hW;rw[if_neg (by decide),if_neg (by decide),if_neg (by decide),if_neg (by decide),if_neg (by decide)] at hW;simp only[kr] at hW;have w1:Gn W 30 2=3:=by rw[<- hW,ah _ _ (by decide) (by decide) (by decide),ah _ _ (by decide) (by decide) (by decide),bz _ _ (by decide) (by decide) (by decide)];exact h1
 have w2:Gn W 29 1=1:=by rw[<- hW,ah _ _ (by decide) (by decide) (by decide),ah _ _ (by decide) (by decide) (by decide),bz _ _ (by decide) (by decide) (by decide)];exact h2
 have w7:Gn W 28 1=if u then 1 else 0:=by rw[<- hW,ah _ _ (by decide) (by decide) (by decide),ah _ _ (by decide) (by decide) (by decide),bz _ _ (by decide) (by decide) (by decide)];exact h3
 have w3:Gn W 24 4=o:=by rw[<- hW,ah _ _ (by decide) (by decide) (by decide),gG _ (by decide) ho]
 have w6:sgV W 24=0:=Em (by decide) (by
  rw[<- hW];have:=Ar (x:=0) (a:=0) (n:=24) (fI (fI 0 (BitVec.ofInt 32 ((hdN 3 true u:Nat):Int)) 28 4) (BitVec.ofInt 32 o) 24 4) (by decide) (by decide);exact BitVec.eq_of_toNat_eq (by unfold Gn at this;simpa using this))
 unfold bI;rw[w1,w2,w3,w6,w7,if_neg (by decide),if_neg (by decide),if_neg (by decide),if_pos rfl];cases u<;>simp
theorem jA{k o a b c:Int}{u:Bool}(h:bU k o a b c u):bI (aS k o a b c 0 u)=(k,o,a,b,c,0,u,()):=by
 have z:rg 0:=⟨by decide,by decide⟩
 cases h with
 |reg h1 h2 ha hb hc hu=>exact BX ⟨by omega,by omega⟩ ha hb hc (fun _=>by omega)
 |mov ha hc=>exact BX z ha z hc (fun h=>by cases h)
 |imm h1 h2 ha hb hu=>exact BV ⟨by omega,by omega⟩ ha hb
 |movi ha=>exact BV z ha z
 |hi ha=>exact Ej (.inl rfl) ha
 |fl ha=>exact Ej (.inr rfl) ha
 |mem h1 h2 ha hb=>exact KP ⟨h1,h2⟩ ha hb
 |br ho hc=>exact M8 ho hc
 |jmp ho=>exact KO ho
theorem bZ(n l h:Int):Zcl.g n l h=some (decide (l<=n)&&decide (n<=h),()):=by
 unfold Zcl.g Zcl.f;by_cases e:l<=n;·rw[if_pos (by simpa using e),decide_eq_true e];rfl
 ·rw[if_neg (by simpa using e),decide_eq_false e];rfl
theorem mi{k o a b c:Int}{u:Bool}(h:bU k o a b c u):1<=k/\k<=7/\0<=o/\o<=15:=by
 cases h<;>refine⟨by decide,by decide,?_,?_⟩<;>first|decide|omega|(rename_i h _;exact h.1)|(rename_i h _;have:=h.2;omega)|(rename_i h;exact h.1)|(rename_i h;have:=h.2;omega)
theorem Bv{k o a b c:Int}{u:Bool}(h:bU k o a b c u):Zam.g k o a b c 0 u=some (true,()):=by
 have hr:=jA h;have hk:=mi h;unfold Zam.g;generalize 1000+k.toNat+o.toNat+a.toNat+b.toNat+c.toNat+(0:Int).toNat=n;unfold Zam.f;rw[bZ,Pn];dsimp only;rw[decide_eq_true hk.1,decide_eq_true hk.2.1,if_pos (by decide),bZ,Pn];dsimp only;rw[decide_eq_true hk.2.2.1,decide_eq_true hk.2.2.2,if_pos (by decide),mq,Pn];dsimp only;rw[p9,Pn,hr];dsimp only;rw[if_neg (by simp)];simp only[dt,df,Zam.j10,bZ,Pn];cases h with
 |reg h1 h2 ha hb hc hu=>
  rw[if_pos rfl,if_pos rfl,if_neg (by omega),if_neg (by omega)];cases u with
  |false=>rfl
  |true=>simp[hu rfl]
 |mov ha hc=>rfl
 |imm h1 h2 ha hb hu=>
  rw[if_neg (by decide),if_pos rfl,if_neg (by omega),if_neg (by omega)];cases u with
  |false=>rfl
  |true=>simp[hu rfl]
 |movi ha=>cases u<;>rfl
 |hi ha=>rfl
 |fl ha=>rfl
 |mem h1 h2 ha hb=>rfl
 |br ho hc=>rfl
 |jmp ho=>rfl
theorem Dp(W:W32):rg (bI W).2.2.1/\rg (bI W).2.2.2.1/\rg (bI W).2.2.2.2.1:=by
 have z:rg 0:=⟨by decide,by decide⟩
 have a:∀p,rg (Gn W p 4):=fun p=>fF W p (n:=4) (by decide)
 unfold bI;split
 ·split
  ·exact⟨a _,z,z⟩
  ·exact⟨a _,a _,a _⟩
 ·split
  ·exact⟨a _,a _,z⟩
  ·split
   ·exact⟨a _,a _,z⟩
   ·split
    ·exact⟨z,z,z⟩
    ·exact⟨z,z,a _⟩
theorem GY(k o a b c i:Int)(u:Bool):∃r,Zam.g k o a b c i u=some (r,())/\(r=true->(1<=k/\k<=7)/\rg a/\rg b/\rg c):=by
 unfold Zam.g;generalize 1000+k.toNat+o.toNat+a.toNat+b.toNat+c.toNat+i.toNat=n;unfold Zam.f;rw[bZ,Pn];dsimp only;by_cases hk:1<=k/\k<=7
 case neg=>rw[if_neg (by simp;omega)];exact⟨_,rfl,fun h=>by cases h⟩
 rw[if_pos (by simp[hk]),bZ,Pn];dsimp only;by_cases ho:0<=o/\o<=15
 case neg=>rw[if_neg (by simp;omega)];exact⟨_,rfl,fun h=>by cases h⟩
 rw[if_pos (by simp[ho]),mq,Pn];dsimp only;rw[p9,Pn];obtain⟨r1,r2,r3⟩:=Dp (aS k o a b c i u);generalize bI (aS k o a b c i u)=y at *;split;·exact⟨_,rfl,fun h=>by cases h⟩
 ·rename_i he;simp only[Bool.not_eq_true',Bool.not_eq_false,Ps,Pw] at he;have hg:(1<=k/\k<=7)/\rg a/\rg b/\rg c:=⟨hk,he.2.2.1 ▸ r1,he.2.2.2.1 ▸ r2,he.2.2.2.2.1 ▸ r3⟩
  simp only[dt,df,Zam.j10,bZ,Pn]
  repeat' split
  all_goals exact⟨_,rfl,fun _=>hg⟩
end Rv
namespace Rv
open Go
def isL(b:UInt8):Bool:=decide (65<=b.toNat/\b.toNat<=90\/97<=b.toNat/\b.toNat<=122\/b.toNat=95)
def isD(b:UInt8):Bool:=decide (48<=b.toNat/\b.toNat<=57)
def isW(b:UInt8):Bool:=isL b||isD b
def aW(s:Str):Str:=s.takeWhile isW
theorem Er{p:Prop}[Decidable p](h:p):some (true,())=some (decide p,()):=by simp[h]
theorem Eo{p:Prop}[Decidable p](h:¬p):some (false,())=some (decide p,()):=by simp[h]
theorem Ep{p q:Prop}[Decidable p][Decidable q](h:p↔q):some (decide p,())=some (decide q,()):=by simp[h]
theorem letter_eq(b:UInt8):Zca.g (b.toNat:Int)=some (isL b,()):=by
 unfold Zca.g Zca.f isL;simp only[dt,df]
 (repeat' split)<;>first|(refine Er ?_;omega)|(refine Eo ?_;omega)|(refine Ep ?_;omega)
theorem digit_eq(b:UInt8):Zch.g (b.toNat:Int)=some (isD b,()):=by
 unfold Zch.g Zch.f isD;simp only[dt,df]
 (repeat' split)<;>first|(refine Er ?_;omega)|(refine Eo ?_;omega)|(refine Ep ?_;omega)
theorem I7(s:Str)(hs:s.length<=9223372036854775807)(n:Nat):∀(m k:Nat),k<=s.length->s.length-k<m->Zan.l2 n m s (k:Int)=some (s.take (k+(aW (s.drop k)).length),()):=by
 intro m
 induction m with
 |zero=>intro k _ h;omega
 |succ m ih=>
  intro k hk hm;have hend:Zan.j4 n s (k:Int)=some (s.take k,()):=by
   unfold Zan.j4;rw[if_pos (by omega)];simp
  simp only[Zan.l2,dt,df];by_cases hlt:k<s.length
  ·have hd:=dK hlt;have step:Zan.j3 n (Zan.l2 n m) s (k:Int)=some (s.take (k+1+(aW (s.drop (k+1))).length),()):=by
    unfold Zan.j3;rw[w64 (by omega)];exact ih (k+1) (by omega) (by omega)
   rw[if_pos (by omega),if_pos (by omega),rD,letter_eq,Pn];cases hl:isL (s.getD k 0) with
   |true=>
    rw[if_neg (by simp),step,hd];simp only[aW,List.takeWhile_cons,isW,hl,Bool.true_or,if_true,PG];rw[show k+1+((s.drop (k+1)).takeWhile isW).length=k+(((s.drop (k+1)).takeWhile isW).length+1) by omega]
   |false=>
    rw[if_pos rfl,if_pos (by omega),digit_eq,Pn];cases hdg:isD (s.getD k 0) with
    |true=>
     rw[if_pos rfl,step,hd];simp only[aW,List.takeWhile_cons,isW,hl,hdg,Bool.or_true,if_true,PG];rw[show k+1+((s.drop (k+1)).takeWhile isW).length=k+(((s.drop (k+1)).takeWhile isW).length+1) by omega]
    |false=>
     rw[if_neg (by simp),hend,hd];simp only[aW,List.takeWhile_cons,isW,hl,hdg,Bool.or_self,Bool.false_eq_true,if_false,P6,Nat.add_zero]
  ·have:k=s.length:=by omega
   subst this;rw[if_neg (by omega),hend];simp[aW]
theorem ED(s:Str)(hs:s.length<=9223372036854775807):Zan.g s=some (aW s,()):=by
 unfold Zan.g Zan.f;have:=I7 s hs (1000+s.length) (1000+s.length) 0 (by omega) (by omega);rw[show((0:Nat):Int)=0 from rfl] at this;rw[this];congr 2;simp only[PZ,Nat.zero_add];exact(List.prefix_iff_eq_take.1 (List.takeWhile_prefix isW)).symm
def fG(c:Int):Int:=if c / 32 % 2=1 then c else c+32
theorem He:((List.range 256).all fun n=>decide (bQ .or .u8 (n:Int) 32=fG n))=true:=by decide +kernel
theorem lower_eq(b:UInt8):Zak.g (b.toNat:Int)=some (fG b.toNat,()):=by
 unfold Zak.g Zak.f;have:=PT.1 He b.toNat (by have:=b.toNat_lt;simpa using this)
 rw[of_decide_eq_true this]
def iq(b:UInt8):Option Nat:=
 if 48<=b.toNat/\b.toNat<=57 then some (b.toNat-48) else if 97<=b.toNat/\b.toNat<=122 then some (b.toNat-87) else if 65<=b.toNat/\b.toNat<=90 then some (b.toNat-55) else none
def aQ(base:Nat):Nat->Str->Option Nat
 |n,[]=>some n
 |n,c::r=>match iq c with
  |some d=>if d<base then(if n*base+d<4294967296 then aQ base (n*base+d) r else none) else none
  |none=>none
def PuR(o:Option Nat)(r:Option (Int×Option Int×Unit)):Prop:=
 (∀v,o=some v->r=some ((v:Int),none,()))/\(o=none->∃x e,r=some (x,some e,())/\(e=1\/e=2))
theorem PuR.bad{x e:Int}(h:e=1\/e=2):PuR none (some (x,some e,())):=⟨fun _ e=>(by cases e),fun _=>⟨x,e,rfl,h⟩⟩
theorem Ke(s:Str)(k:Nat)(h:k<s.length):(s.map fun b=>(b.toNat:Int)).getD ((k:Int)).toNat 0=((s.getD k 0).toNat:Int):=by
 simp[List.getD,h]
theorem KI{n:Nat}{rl:Int->Bool->Str->Int->Int->Bool->Int->(List Int)->Int->Int->Option (Int×(Option Int)×Unit)}{base d v k:Nat}{s9:Str}{cutoff:Int}{t:List Int}{l:Int}{o:Nat->Option Nat}(hb:base=10\/base=16)(hd:d<36)(hv:v<4294967296)(hc:4294967296<=cutoff)(hk:k<9223372036854775807)
  (hr:∀v,v<4294967296->PuR (o v) (rl base false s9 cutoff 4294967295 false v t l ((k+1:Nat):Int))) :
  PuR (if d<base then(if v*base+d<4294967296 then o (v*base+d) else none) else none) (Zaa.j46 n rl base false s9 cutoff 4294967295 false v d t l k):=by
 unfold Zaa.j46 Zaa.j55;have hm:v*base<68719476736:=by
  rcases hb with rfl|rfl<;>omega
 rw[w8u (by omega),w64 (x:=(k:Int)+1) (by omega),wB (x:=(base:Int)) (by omega),wB (x:=(d:Int)) (by omega)];have e1:((v:Int)*(base:Int))=((v*base:Nat):Int):=by simp
 rw[e1];have hr':=fun h=>hr (v*base+d) h
 generalize v*base=M at *;rw[wB (x:=(M:Int)) (by omega),wB (x:=(M:Int)+d) (by omega)];simp only[dt,df];by_cases h1:d<base
 ·by_cases h2:M+d<4294967296
  ·rw[if_pos h1,if_pos h2,if_neg (by omega),if_neg (by omega),if_pos (by omega),if_neg (by omega)];have:=hr' h2;simpa using this
  ·rw[if_pos h1,if_neg h2,if_neg (by omega),if_neg (by omega),if_pos (by omega),if_pos (by omega)];exact PuR.bad (.inl rfl)
 ·rw[if_neg h1,if_pos (by omega)];exact PuR.bad (.inr rfl)
theorem M4(s s9:Str)(base:Nat)(cutoff:Int)(hb:base=10\/base=16)(hc:4294967296<=cutoff)(hs:s.length<9223372036854775807)(n:Nat):∀(m k v:Nat),k<=s.length->s.length-k<m->v<4294967296 ->
  PuR (aQ base v (s.drop k)) (Zaa.l36 n m base false s9 cutoff 4294967295 false v (s.map fun b=>(b.toNat:Int)) ((s.map fun b=>(b.toNat:Int)).length:Int) k):=by
 intro m
 induction m with
 |zero=>intro k v _ h;omega
 |succ m ih=>
  intro k v hk hm hv;simp only[Zaa.l36,dt,df];by_cases hlt:k<s.length
  ·have hl:k<(s.map fun b=>(b.toNat:Int)).length:=by simpa using hlt
   rw[if_pos (by omega),if_pos (by omega),dK hlt];simp only[Ke s k hlt,lower_eq,Pn,Bool.false_eq_true,if_false];have step:∀d,iq (s.getD k 0)=some d->d<36->PuR (aQ base v (s.getD k 0::s.drop (k+1))) (Zaa.j46 n (Zaa.l36 n m) base false s9 cutoff 4294967295 false v d (s.map fun b=>(b.toNat:Int)) ((s.map fun b=>(b.toNat:Int)).length:Int) k):=by
    intro d hd hd36;simp only[aQ,hd];exact KI (o:=fun v=>aQ base v (s.drop (k+1))) hb hd36 hv hc (by omega) fun v hv=>ih (k+1) v (by omega) (by omega) hv
   have bad:iq (s.getD k 0)=none->PuR (aQ base v (s.getD k 0::s.drop (k+1))) (some ((0:Int),some (2:Int),())):=by
    intro hd;simp only[aQ,hd];exact PuR.bad (.inr rfl)
   generalize hbb:s.getD k 0=b at *;have hb1:=LZ b;have dig1:(48:Int)<=b.toNat->(b.toNat:Int)<=57->iq b=some (b.toNat-48):=fun h1 h2=>by unfold iq;rw[if_pos (by omega)]
   have dig2:¬((48:Int)<=b.toNat/\(b.toNat:Int)<=57)->(97:Int)<=fG b.toNat->fG b.toNat<=(122:Int)->∃d,iq b=some d/\d<36/\IntKind.u8.wrap (IntKind.u8.wrap (fG b.toNat-97)+10)=(d:Int):=fun h1 h2 h3=>by
    rw[w8u (x:=fG b.toNat-97) (by omega),w8u (by omega)];unfold fG at h2 h3⊢;unfold iq;rw[if_neg (by omega)];split at h2;·rw[if_pos (by omega)] at h3;rw[if_pos (by omega),if_pos (by omega)];exact⟨_,rfl,by omega,by omega⟩
    ·rw[if_neg (by omega)] at h3;rw[if_neg (by omega),if_pos (by omega),if_neg (by omega)];exact⟨_,rfl,by omega,by omega⟩
   have dig3:¬((48:Int)<=b.toNat/\(b.toNat:Int)<=57)->¬((97:Int)<=fG b.toNat/\fG b.toNat<=(122:Int))->iq b=none:=fun h1 h2=>by
    unfold fG at h2;unfold iq;rw[if_neg (by omega)];split at h2;·rw[if_neg (by omega),if_neg (by omega)]
    ·rw[if_neg (by omega),if_neg (by omega)]
   have wr:(48:Int)<=b.toNat->(b.toNat:Int)<=57->IntKind.u8.wrap ((b.toNat:Int)-48)=((b.toNat-48:Nat):Int):=fun h1 h2=>by rw[w8u (by omega)];omega
   have lets:¬((48:Int)<=b.toNat/\(b.toNat:Int)<=57)->PuR (aQ base v (b::s.drop (k+1))) (if(97:Int)<=fG b.toNat then(if fG b.toNat<=(122:Int) then Zaa.j46 n (Zaa.l36 n m) base false s9 cutoff 4294967295 false v (IntKind.u8.wrap (IntKind.u8.wrap (fG b.toNat-97)+10)) (s.map fun b=>(b.toNat:Int)) ((s.map fun b=>(b.toNat:Int)).length:Int) k
     else some ((0:Int),some (2:Int),())) else some ((0:Int),some (2:Int),())):=by
    intro h0;by_cases h1:(97:Int)<=fG b.toNat
    ·rw[if_pos h1];by_cases h2:fG b.toNat<=(122:Int)
     ·rw[if_pos h2];obtain⟨d,hd,hd36,he⟩:=dig2 h0 h1 h2;rw[he];exact step d hd hd36
     ·rw[if_neg h2];exact bad (dig3 h0 fun h=>h2 h.2)
    ·rw[if_neg h1];exact bad (dig3 h0 fun h=>h1 h.1)
   have rest:PuR (aQ base v (b::s.drop (k+1))) (if(48:Int)<=b.toNat then(if(b.toNat:Int)<=57 then Zaa.j46 n (Zaa.l36 n m) base false s9 cutoff 4294967295 false v (IntKind.u8.wrap ((b.toNat:Int)-48)) (s.map fun b=>(b.toNat:Int)) ((s.map fun b=>(b.toNat:Int)).length:Int) k
     else(if(97:Int)<=fG b.toNat then(if fG b.toNat<=(122:Int) then Zaa.j46 n (Zaa.l36 n m) base false s9 cutoff 4294967295 false v (IntKind.u8.wrap (IntKind.u8.wrap (fG b.toNat-97)+10)) (s.map fun b=>(b.toNat:Int)) ((s.map fun b=>(b.toNat:Int)).length:Int) k
     else some ((0:Int),some (2:Int),())) else some ((0:Int),some (2:Int),())))
     else(if(97:Int)<=fG b.toNat then(if fG b.toNat<=(122:Int) then Zaa.j46 n (Zaa.l36 n m) base false s9 cutoff 4294967295 false v (IntKind.u8.wrap (IntKind.u8.wrap (fG b.toNat-97)+10)) (s.map fun b=>(b.toNat:Int)) ((s.map fun b=>(b.toNat:Int)).length:Int) k
     else some ((0:Int),some (2:Int),())) else some ((0:Int),some (2:Int),()))):=by
    by_cases h1:(48:Int)<=b.toNat
    ·rw[if_pos h1];by_cases h2:(b.toNat:Int)<=57
     ·rw[if_pos h2,wr h1 h2];exact step _ (dig1 h1 h2) (by omega)
     ·rw[if_neg h2];exact lets fun h=>h2 h.2
    ·rw[if_neg h1];exact lets fun h=>h1 h.1
   split;·exact rest
   ·exact rest
  ·have:k=s.length:=by omega
   subst this;rw[if_neg (by simp),Qe];simp only[Bool.false_eq_true,if_false];exact⟨fun v' e=>by simp only[aQ,Po] at e;rw[e],fun e=>by simp[aQ] at e⟩
theorem Dj(s:Str)(base:Nat)(hb:base=10\/base=16)(hs:s.length<9223372036854775807):PuR (if s=[] then none else aQ base 0 s) (Zaa.g s base 32):=by
 unfold Zaa.g Zaa.f;simp only[dt,df];by_cases h0:s=[]
 ·rw[if_pos h0,if_pos h0];exact PuR.bad (.inr rfl)
 ·rw[if_neg h0,if_neg h0,if_pos (by omega),if_pos (by omega)];have hb0:decide ((base:Int)=0)=false:=by simp;omega
  rw[hb0];unfold Zaa.j21;simp only[dt,df];rw[if_neg (by omega),if_pos (by omega),if_neg (by omega)];unfold Zaa.j25;simp only[dt,df];have fin:∀cutoff:Int,4294967296<=cutoff->PuR (aQ base 0 s) (Zaa.j32 (1000+s.length+(base:Int).toNat+(32:Int).toNat) s base 32 false s cutoff):=by
   intro cutoff hc;unfold Zaa.j32;have e1:IntKind.u64.wrap 32=32:=wB (by omega);rw[e1,if_neg (by omega)];have e2:IntKind.u64.wrap (IntKind.u64.wrap (1*2 ^ min (32:Int).toNat IntKind.u64.bits)-1)=4294967295:=by decide
   rw[e2];have:=M4 s s base cutoff hb hc hs (1000+s.length+(base:Int).toNat+(32:Int).toNat) (1000+s.length+(base:Int).toNat+(32:Int).toNat) 0 0 (by omega) (by omega) (by omega);simpa using this
  rcases hb with rfl|rfl;·rw[if_pos (by omega)];exact fin _ (by omega)
  ·rw[if_neg (by omega),if_pos (by omega)];exact fin _ (by omega)
theorem KD(s:Str)(base:Nat)(hb:base=10\/base=16)(hs:s.length<=281474976710656):(∀v,(if s=[] then none else aQ base 0 s)=some v->Zcb.g s base 32=some ((v:Int),true,())) /\
  ((if s=[] then none else aQ base 0 s)=none->∃x,Zcb.g s base 32=some (x,false,())):=by
 obtain⟨h1,h2⟩:=Dj s base hb (by omega);refine⟨fun v hv=>?_,fun hn=>?_⟩;·unfold Zcb.g Zcb.f;rw[h1 v hv];rfl
 ·obtain⟨x,e,he,hc⟩:=h2 hn;unfold Zcb.g Zcb.f;rw[he];simp only[Pn,Option.isNone_some,Bool.not_false,if_true,L.toErrorO,Po];rw[if_pos ⟨hs,hc⟩];exact⟨x,rfl⟩
theorem rH:∀{s:Str}{c:UInt8},Lib.contains s [c]=true->c∈s
 |[],c,h=>by simp[Lib.contains,Lib.index] at h
 |b::l,c,h=>by
  by_cases hb:c=b;·simp[hb]
  ·have:Lib.contains l [c]=true:=by
    simp only[Lib.contains,Lib.index,List.isPrefixOf,Bool.and_true,beq_iff_eq,Pw] at h⊢;rw[if_neg hb] at h;split at h;·omega
    ·have:=Lib.index_ge l [c];rename_i hne;have:¬Lib.index l [c]=-1:=by simpa using hne
     omega
   exact PE _ (rH this)
theorem uU{base:Nat}:∀{s:Str}{v:Nat},(95:UInt8)∈s->aQ base v s=none
 |[],_,h=>by cases h
 |c::r,v,h=>by
  simp only[aQ];rcases Py.1 h with h|h
  ·rw[<- h];have:iq 95=none:=by decide
   rw[this]
  ·(repeat' split)<;>first|rfl|exact uU h
theorem qp{base:Nat}:∀{s:Str}{v w:Nat},v<4294967296->aQ base v s=some w->w<4294967296
 |[],_,_,hv,h=>by simp only[aQ,Po] at h;omega
 |c::r,v,w,hv,h=>by
  simp only[aQ] at h;split at h
  ·split at h
   ·split at h
    ·exact qp (by assumption) h
    ·cases h
   ·cases h
  ·cases h
def num(s:Str):Option Nat:=
 if([48,120]:Str).isPrefixOf s then(if s.drop 2=[] then none else aQ 16 0 (s.drop 2)) else if s=[] then none else aQ 10 0 s
theorem NQ{s:Str}{v:Nat}(h:num s=some v):v<4294967296:=by
 unfold num at h;split at h<;>split at h<;>first|(cases h;done)|exact qp (by omega) h
theorem uV(s:Str)(base:Nat)(n:Nat)(hb:base=10\/base=16)(hs:s.length<=1000000) :
  (∀v,(if s=[] then none else aQ base 0 s)=some v->Zbk.j5 n s base=some ((v:Int),true,()))/\((if s=[] then none else aQ base 0 s)=none->∃x,Zbk.j5 n s base=some (x,false,())):=by
 have hcO:L.containsO s [95]=some (Lib.contains s [95],()):=by unfold L.containsO;rw[if_pos (by omega)]
 unfold Zbk.j5;rw[hcO,Pn];obtain⟨h1,h2⟩:=KD s base hb (by omega);by_cases hc:Lib.contains s [95]=true
 ·simp only[hc,if_true];have hm:=rH hc;have hne:s≠[]:=by rintro rfl;cases hm
  rw[if_neg hne,uU hm];exact⟨fun v e=>(by cases e),fun _=>⟨_,rfl⟩⟩
 ·simp only[hc,Bool.false_eq_true,if_false];refine⟨fun v hv=>?_,fun hn=>?_⟩
  ·have hlt:v<4294967296:=by
    split at hv;·cases hv
    ·exact qp (by omega) hv
   rw[h1 v hv,Pn,Pm (by omega)]
  ·obtain⟨x,hx⟩:=h2 hn;rw[hx,Pn];exact⟨_,rfl⟩
theorem number_eq(s:Str)(hs:s.length<=1000000):(∀v,num s=some v->Zbk.g s=some ((v:Int),true,()))/\(num s=none->∃x,Zbk.g s=some (x,false,())):=by
 unfold Zbk.g Zbk.f num L.cutIs L.cutRest Lib.trimPrefix Lib.hasPrefix;by_cases hp:([48,120]:Str).isPrefixOf s=true;·simp only[hp,if_true];exact uV (s.drop 2) 16 _ (.inr rfl) (by simp;omega)
 ·have hp':([48,120]:Str).isPrefixOf s=false:=Bool.eq_false_iff.2 hp;simp only[hp',Bool.false_eq_true,if_false];exact uV s 10 _ (.inl rfl) hs
abbrev Tok:=Int×Int×Str×Int×Unit
def isS(c:UInt8):Bool:=([44,58,43,45,42,40,41,61]:Str).contains c
def iB(c:UInt8)(r:Str):Except Int (Nat×Int×Str×Int):=
 if isL c then .ok (0,1,aW (c::r),0)
 else if isD c then match num (aW (c::r)) with
  |some v=>.ok (0,2,aW (c::r),v)
  |none=>.error 21
 else if c=46/\(∃d∈r.head?,isL d) then .ok (1,4,aW r,0)
 else if isS c then .ok (0,3,[c],0)
 else .error 20
def aH(k:Int):Str->Except Int (List Tok)
 |[]=>.ok []
 |c::r=>
  if c=59 then .ok []
  else if c=32\/c=9 then aH (k+1) r
  else match iB c r with
   | .error e=>.error e
   | .ok (d,q,t,v)=>match aH (k+d+t.length) (r.drop (d+t.length-1)) with
    | .error e=>.error e
    | .ok l=>.ok ((q,k,t,v,())::l)
termination_by s=>s.length
decreasing_by
 all_goals simp
 all_goals omega
theorem kX(k:Int):aH k []=.ok []:=by rw[aH]
theorem d9(k:Int)(c:UInt8)(r:Str):aH k (c::r)=if c=59 then .ok [] else if c=32\/c=9 then aH (k+1) r else match iB c r with
   | .error e=>.error e
   | .ok (d,q,t,v)=>match aH (k+d+t.length) (r.drop (d+t.length-1)) with
    | .error e=>.error e
    | .ok l=>.ok ((q,k,t,v,())::l):=by rw[aH]
theorem KZ:((List.range 256).all fun n=>decide ((0<=L.indexByte ([44,58,43,45,42,40,41,61]:Str) (n:Int))=(isS (UInt8.ofNat n)=true)))=true:=by decide +kernel
theorem Nc(b:UInt8):(0<=L.indexByte ([44,58,43,45,42,40,41,61]:Str) (b.toNat:Int))=(isS b=true):=by
 have:=PT.1 KZ b.toNat (by have:=b.toNat_lt;simpa using this)
 have h:=of_decide_eq_true this;simpa using h
def aX(out:List Tok):Except Int (List Tok)->List Tok×Int×Unit
 | .ok l=>(out++l,0,())
 | .error e=>([],e,())
theorem Bz(out:List Tok)(t:Tok)(x:Except Int (List Tok)):aX (out++[t]) x=aX out (match x with | .error e=>.error e | .ok l=>.ok (t::l)):=by
 cases x<;>simp[aX]
theorem uh(s:Str):(aW s).length<=s.length:=(List.takeWhile_prefix isW).length_le
theorem xH{c:UInt8}{r:Str}(h:isW c=true):1<=(aW (c::r)).length:=by
 simp[aW,List.takeWhile_cons,h]
theorem G9(s:Str)(hs:s.length<=1000000)(n:Nat):∀(m k:Nat) (out:List Tok),k<=s.length->s.length-k<m->out.length<=k->Zag.g0 n m s out (k:Int)=some (aX out (aH k (s.drop k))):=by
 intro m
 induction m with
 |zero=>intro k out _ h;omega
 |succ m ih=>
  intro k out hk hm hout;have e1:IntKind.i64.wrap ((k:Int)+1)=((k+1:Nat):Int):=by rw[w64 (by omega)];omega
  by_cases hlt:k<s.length
  ·have tok:∀(d:Nat) (q:Int) (t:Str) (v:Int),1<=d+t.length->k+d+t.length<=s.length->Zag.j23 n (Zag.g0 n m) s out ((k+d:Nat):Int) q (k:Int) t v=some (aX out (match aH ((k:Int)+d+t.length) ((s.drop (k+1)).drop (d+t.length-1)) with
     | .error e=>.error e
     | .ok l=>.ok ((q,k,t,v,())::l))):=by
    intro d q t v h1 h2;unfold Zag.j23;rw[if_pos (by simp;omega),w64 (by omega)];have:=ih (k+d+t.length) (out++[(q,(k:Int),t,v,())]) h2 (by omega) (by simp;omega);rw[Bz] at this;rw[show((k+d:Nat):Int)+(t.length:Int)=((k+d+t.length:Nat):Int) by omega,List.drop_drop,show k+1+(d+t.length-1)=k+d+t.length by omega,show(k:Int)+(d:Int)+(t.length:Int)=((k+d+t.length:Nat):Int) by omega];exact this
   have tok0:=fun q t v h1 h2=>tok 0 q t v h1 h2
   simp only[Nat.add_zero,Nat.zero_add] at tok0;have tok1:=fun q t v h1 h2=>tok 1 q t v h1 h2
   have skip:Zag.g0 n m s out ((k+1:Nat):Int)=some (aX out (aH ((k:Int)+1) (s.drop (k+1)))):=by
    rw[show(k:Int)+1=((k+1:Nat):Int) by omega];exact ih (k+1) out (by omega) (by omega) (by omega)
   rw[dK hlt,d9];simp only[Zag.g0,dt,df];simp only[e1,rD,letter_eq,digit_eq,Pn,PN,List.take_length,Nc];rw[if_pos (by omega),if_pos (by omega)];have hw0:=ED (s.drop k) (by simp;omega);have hw1:=ED (s.drop (k+1)) (by simp;omega);rw[hw0,hw1,dK hlt];have hl0:=uh (s.drop k);have hl1:=uh (s.drop (k+1));rw[dK hlt] at hl0;have hd0:(s.drop (k+1)).length=s.length-(k+1):=by simp
   have hd1:(s.getD k 0::s.drop (k+1)).length=s.length-k:=by simp;omega
   have hsign:(s.take (k+1)).drop k=[s.getD k 0]:=by
    rw[List.drop_take,dK hlt];simp[show k+1-k=1 by omega]
   have hhead:(∃d∈(s.drop (k+1)).head?,isL d=true)↔k+1<s.length/\isL (s.getD (k+1) 0)=true:=by
    by_cases h:k+1<s.length;·rw[dK h];simp[h]
    ·rw[List.drop_eq_nil_of_le (by omega)];simp[h]
   have hwp:=@xH (s.getD k 0) (s.drop (k+1));have hwq:k+1<s.length->isL (s.getD (k+1) 0)=true->1<=(aW (s.drop (k+1))).length:=fun h h'=>by
    rw[dK h];exact xH (by unfold isW;rw[h'];rfl)
   rw[hsign];have b59:(((s.getD k 0).toNat:Int)=59)=(s.getD k 0=59):=jR _ 59 (by decide);have b32:(((s.getD k 0).toNat:Int)=32)=(s.getD k 0=32):=jR _ 32 (by decide);have b9:(((s.getD k 0).toNat:Int)=9)=(s.getD k 0=9):=jR _ 9 (by decide);have b46:(((s.getD k 0).toNat:Int)=46)=(s.getD k 0=46):=jR _ 46 (by decide);generalize s.getD k 0=b at *;by_cases h59:b=59;·rw[if_pos (by rw[h59];rfl),if_pos h59];simp[aX]
   ·rw[if_neg (fun h=>h59 (b59.mp h)),if_neg h59,if_pos (by omega)];by_cases h32:b=32
    ·rw[if_neg (fun h=>h (b32.mpr h32)),if_pos (.inl h32)];exact skip
    ·rw[if_pos (fun h=>h32 (b32.mp h))];by_cases h9:b=9
     ·rw[if_pos (b9.mpr h9),if_pos (.inr h9)];exact skip
     ·rw[if_neg (fun h=>h9 (b9.mp h)),if_neg (show ¬(b=32\/b=9) from fun h=>h.elim h32 h9)];unfold iB;by_cases hL:isL b=true
      ·rw[if_pos hL,if_pos hL,if_pos (by omega)];simp only[Pn];rw[tok0 _ _ _ (hwp (by simp[isW,hL])) (by omega)];simp
      ·rw[if_neg hL,if_neg hL];by_cases hD:isD b=true
       ·rw[if_pos hD,if_pos hD,if_pos (by omega)];simp only[Pn];obtain⟨h1,h2⟩:=number_eq (aW (b::s.drop (k+1))) (by omega);cases hn:num (aW (b::s.drop (k+1))) with
        |none=>
         obtain⟨x,hx⟩:=h2 hn;rw[hx];simp[aX]
        |some v=>
         rw[h1 v hn];simp only[Pn,Bool.not_true,Bool.false_eq_true,if_false];rw[tok0 _ _ _ (hwp (by simp[isW,hD])) (by omega)];simp
       ·rw[if_neg hD,if_neg hD];have sgn:(if isS b=true then(if 0<=((k+1:Nat):Int)/\((k+1:Nat):Int)<=(s.length:Int) then(if 0<=(k:Int)/\(k:Int)<=((k+1:Nat):Int) then Zag.j23 n (Zag.g0 n m) s out k 3 k [b] 0 else none) else none) else some ([],20,())) =
          some (aX out (match (if isS b=true then Except.ok (0,3,[b],0) else Except.error 20:Except Int (Nat×Int×Str×Int)) with
           | .error e=>.error e
           | .ok (d,q,t,v)=>match aH (k+d+t.length) ((s.drop (k+1)).drop (d+t.length-1)) with
            | .error e=>.error e
            | .ok l=>.ok ((q,k,t,v,())::l))):=by
         by_cases hS:isS b=true;·rw[if_pos hS,if_pos hS,if_pos (by omega),if_pos (by omega),tok0 _ _ _ (by simp) (by simp;omega)];simp
         ·rw[if_neg hS,if_neg hS];simp[aX]
        by_cases h46:b=46
        ·rw[if_pos (b46.mpr h46)];by_cases hk1:k+1<s.length
         ·rw[if_pos (by omega),if_pos (by omega)];by_cases hL1:isL (s.getD (k+1) 0)=true
          ·rw[if_pos hL1,if_pos (by omega),if_pos ⟨h46,hhead.mpr ⟨hk1,hL1⟩⟩];simp only[Pn];have:=hwq hk1 hL1;rw[tok1 _ _ _ (by omega) (by omega)]
          ·rw[if_neg hL1,if_neg (show ¬(b=46/\∃d∈(s.drop (k+1)).head?,isL d=true) from fun h=>hL1 (hhead.mp h.2).2)];exact sgn
         ·rw[if_neg (by omega),if_neg (show ¬(b=46/\∃d∈(s.drop (k+1)).head?,isL d=true) from fun h=>hk1 (hhead.mp h.2).1)];exact sgn
        ·rw[if_neg (fun h=>h46 (b46.mp h)),if_neg (show ¬(b=46/\∃d∈(s.drop (k+1)).head?,isL d=true) from fun h=>h46 h.1)];exact sgn
  ·have:k=s.length:=by omega
   subst this;simp only[Zag.g0,dt,df];rw[if_neg (by omega),Qe,kX];simp[aX]
theorem ut(s:Str)(hs:s.length<=1000000):Zag.g s=some (aX [] (aH 0 s)):=by
 unfold Zag.g Zag.f;have:=G9 s hs (1000+s.length) (1000+s.length) 0 [] (by omega) (by omega) (by simp);simpa using this
end Rv
namespace Rv
open Go
def shift(j:Int)(t:Tok):Tok:=(t.1,t.2.1+j,t.2.2)
theorem zY{s:Str}:(59:UInt8) ∉ s.takeWhile isW:=by
 intro h;have h1:(s.takeWhile isW).all isW=true:=List.all_takeWhile;have:=PT.1 h1 59 h;exact absurd this (by decide)
theorem LD(s:Str):s.take (s.takeWhile isW).length=s.takeWhile isW:=(List.prefix_iff_eq_take.1 (List.takeWhile_prefix isW)).symm
theorem Lc{c:UInt8}{r:Str}{d:Nat}{q:Int}{t:Str}{v:Int}(h:iB c r=.ok (d,q,t,v)):1<=d+t.length/\d+t.length-1<=r.length/\(59:UInt8) ∉ r.take (d+t.length-1):=by
 have wc:isW c=true->1<=0+(aW (c::r)).length/\0+(aW (c::r)).length-1<=r.length/\(59:UInt8) ∉ r.take (0+(aW (c::r)).length-1):=by
  intro hc;have:aW (c::r)=c::r.takeWhile isW:=by simp[aW,List.takeWhile_cons,hc]
  rw[this];have hl:=(List.takeWhile_prefix isW (l:=r)).length_le;simp only[PG];refine⟨by omega,by omega,?_⟩;rw[show 0+((r.takeWhile isW).length+1)-1=(r.takeWhile isW).length by omega,LD];exact zY
 unfold iB at h;split at h;·rename_i hL;simp only[Except.ok.injEq,Pv] at h;obtain⟨rfl,rfl,rfl,rfl⟩:=h;exact wc (by simp[isW,hL])
 ·split at h
  ·rename_i hD;split at h
   ·simp only[Except.ok.injEq,Pv] at h;obtain⟨rfl,rfl,rfl,rfl⟩:=h;exact wc (by simp[isW,hD])
   ·cases h
  ·split at h
   ·simp only[Except.ok.injEq,Pv] at h;obtain⟨rfl,rfl,rfl,rfl⟩:=h;have hl:=uh r;refine⟨by omega,by omega,?_⟩;rw[show 1+(aW r).length-1=(r.takeWhile isW).length by unfold aW;omega,LD];exact zY
   ·split at h
    ·simp only[Except.ok.injEq,Pv] at h;obtain⟨rfl,rfl,rfl,rfl⟩:=h;simp
    ·cases h
theorem IL{s:Str}{b:UInt8}{y:Str}(hb:isW b=false):(s++b::y).takeWhile isW=s.takeWhile isW:=by
 induction s with
 |nil=>simp[List.takeWhile_cons,hb]
 |cons c s ih=>
  simp only[List.cons_append,List.takeWhile_cons];rw[ih]
theorem sj:∀(n:Nat) (k:Int) (s:Str) (l:List Tok),s.length<=n->aH k s=.ok l->l.length<=s.length
 |_,k,[],l,_,h=>by rw[kX] at h;cases h;simp
 |0,k,c::r,l,hn,_=>by simp at hn
 |n+1,k,c::r,l,hn,h=>by
  simp only[PG] at hn⊢;rw[d9] at h;split at h;·cases h;simp
  ·split at h
   ·have:=sj n (k+1) r l (by omega) h;omega
   ·split at h
    ·cases h
    ·split at h
     ·cases h
     ·rename_i l' hl;cases h;have:=sj n _ _ l' (by simp;omega) hl;simp at this⊢;omega
theorem nU{k:Int}{s:Str}:(aX [] (aH k s)).1.length<=s.length:=by
 cases h:aH k s with
 |error e=>simp[aX]
 |ok l=>simpa[aX] using sj s.length k s l (Px _) h
end Rv
namespace Rv
open Go
theorem xG{s:Str}(h:s.all isW=true):aW s=s:=by
 unfold aW
 induction s with
 |nil=>rfl
 |cons c r ih=>
  rw[Qj,Ps] at h;rw[List.takeWhile_cons,if_pos h.1,ih h.2]
theorem CO{c:UInt8}(h:isW c=true):c≠59/\¬(c=32\/c=9):=by
 refine⟨fun e=>?_,fun e=>?_⟩;·subst e;exact absurd h (by decide)
 ·rcases e with rfl|rfl<;>exact absurd h (by decide)
end Rv
namespace Rv
open Go
end Rv
namespace Rv
open Go
def oZ(s:Str):Bool:=decide (s.getD 0 0=82)&&(decide (s.length=2)||decide (s.length=3))&&(s.drop 1).all isD
def az(s:Str):Bool:=decide (s≠[])&&decide (s.length<=12)&&!isD (s.getD 0 0)&&s.all isW&&!oZ s
def Fj(b:Int):Bool:=
 if bQ .or .u8 b 32<97\/122<bQ .or .u8 b 32\/b<65 then decide (b=95)||(!decide (b<48)&&!decide (57<b)) else true
theorem JX:((List.range 256).all fun k=>Fj k == isW (UInt8.ofNat k))=true:=by decide +kernel
theorem MJ(b:UInt8):Fj b.toNat=isW b:=by
 have h:=PT.1 JX b.toNat (by simp;exact b.toNat_lt)
 simpa using h
theorem H7(p:Prop):p=True\/p=False:=(Classical.em p).imp eq_true eq_false
theorem Fq(s:Str)(n m:Nat)(i:Nat)(h1:i<s.length)(X:Option (Bool×Unit))(hX:Zad.j9 n (Zad.l4 n m) s (s.length:Int) (i:Int)=X) :
  Zad.l4 n (m+1) s (s.length:Int) (i:Int)=if Fj (bt s i)=true then X else some (false,()):=by
 have hc:(0:Int)<=i/\(i:Int)<s.length:=by omega
 have hc2:(i:Int)<s.length:=hc.2;simp only[Zad.l4,dt,df,hX,Fj];by_cases a1:bQ .or .u8 (bt s i) 32<97<;>by_cases a2:122<bQ .or .u8 (bt s i) 32<;>by_cases a3:bt s i<65<;>rcases H7 (bt s i=95) with a4|a4<;>by_cases a5:bt s i<48<;>by_cases a6:57<bt s i<;>
  simp only[hc,hc2,a1,a2,a3,a4,a5,a6,if_true,if_false,not_true_eq_false,not_false_eq_true,ne_eq,true_or,or_true,or_false,false_or,or_self,and_self,true_and,decide_true,decide_false,Bool.true_or,Bool.false_or,Bool.not_true,Bool.not_false,Bool.and_true,Bool.and_false,Bool.false_and,Bool.true_and,Bool.or_self,Bool.or_false,Bool.or_true,Bool.false_eq_true]
theorem Fp(s:Str)(hs:s.length<=12)(n:Nat):∀(m i:Nat),i<=s.length->s.length-i<m ->
  Zad.l4 n m s (s.length:Int) (i:Int)=if(s.drop i).all isW=true then Zad.l4 n 1 s (s.length:Int) (s.length:Int) else some (false,()):=by
 intro m
 induction m with
 |zero=>intro i _ h;omega
 |succ m ih=>
  intro i hi hm;by_cases h1:i<s.length
  ·have hnext:Zad.j9 n (Zad.l4 n m) s (s.length:Int) (i:Int)=if(s.drop (i+1)).all isW=true then Zad.l4 n 1 s (s.length:Int) (s.length:Int) else some (false,()):=by
    unfold Zad.j9;rw[w64 (by omega),show(i:Int)+1=((i+1:Nat):Int) by omega];exact ih (i+1) (by omega) (by omega)
   rw[Fq s n m i h1 _ hnext,rD,MJ,dK h1,Qj];cases hw:isW (s.getD i 0);·rfl
   ·rw[if_pos rfl,Bool.true_and]
  ·have hi':i=s.length:=by omega
   subst hi';rw[Qe,List.all_nil,if_pos rfl];have hlt:¬((s.length:Int)<s.length):=by omega
   simp only[Zad.l4,dt,hlt,if_false]
theorem Gx(b:UInt8):L.isDig b=isD b:=by simp[L.isDig,isD]
theorem oG{p:UInt8->Bool}:∀{l:Str}{a:UInt8}{r:Str},l.dropWhile p=a::r->p a=false
 |[],_,_,h=>by simp at h
 |b::l,a,r,h=>by
  rw[List.dropWhile_cons] at h;cases hb:p b;·rw[hb] at h;simp only[Bool.false_eq_true,if_false,List.cons.injEq] at h;rw[<- h.1];exact hb
  ·rw[hb] at h;exact oG (l:=l) (by simpa using h)
theorem CG(s:Str):(L.trimDig s=[])=(s.all isD=true):=by
 have gen:∀l:Str,(l.dropWhile L.isDig=[])↔l.all isD=true:=fun l=>by
  induction l with
  |nil=>simp
  |cons a l ih=>
   simp only[List.dropWhile_cons,Qj,Gx];cases h:isD a;·simp
   ·simp[ih]
 unfold L.trimDig;apply propext;rw[gen];constructor
 ·intro h;have h0:(s.reverse.dropWhile L.isDig)=[]:=by
   cases hr:s.reverse.dropWhile L.isDig with
   |nil=>rfl
   |cons a r=>
    exfalso;rw[hr] at h;have ha:isD a=true:=PT.1 h a (by simp);rw[<- Gx,oG hr] at ha;cases ha
  rw[gen] at h0;simpa using h0
 ·intro h;have h0:s.reverse.dropWhile L.isDig=[]:=(gen _).2 (by simpa using h);rw[h0];rfl
theorem mD(s:Str):Zad.g s=some (az s,()):=by
 unfold Zad.g Zad.f;simp only[dt,df];by_cases h0:s=[]
 ·subst h0;rw[if_neg (by simp)];rfl
 ·rw[if_pos h0];have hl0:0<s.length:=List.length_pos_iff.2 h0;by_cases h12:s.length<=12
  ·rw[if_pos (by omega),if_pos (by omega)];have hj:¬isD (s.getD 0 0)=true->Zad.j3 (1000+s.length) s=some (az s,()):=fun hd=>by
    unfold Zad.j3;have:=Fp s h12 (1000+s.length) (1000+s.length) 0 (by omega) (by omega);rw[PZ] at this;rw[show((0:Nat):Int)=0 from rfl] at this;rw[this];by_cases hw:s.all isW=true
    ·rw[if_pos hw];simp only[Zad.l4,dt,df,rD];rw[if_neg (by omega),if_pos (by omega)];have hbt:bt s 0=((s.getD 0 0).toNat:Int):=rfl;simp only[hbt];have h82:(((s.getD 0 0).toNat:Int)=82)=(s.getD 0 0=82):=jR _ 82 (by omega);simp only[h82];have htake:(s.take (s.length:Int).toNat).drop (1:Int).toNat=s.drop 1:=by
      rw[show(s.length:Int).toNat=s.length by omega,List.take_length];rfl
     have htrim:s.length<=3->L.trimO ((s.take (s.length:Int).toNat).drop (1:Int).toNat) [48,49,50,51,52,53,54,55,56,57]=some (L.trimDig (s.drop 1),()):=fun h=>by
      rw[htake];unfold L.trimO;rw[if_pos ⟨rfl,by simp;omega⟩]
     have hL:az s=!oZ s:=by
      unfold az;rw[decide_eq_true (show s≠[] from h0),decide_eq_true h12,show isD (s.getD 0 0)=false by simpa using hd,hw];rfl
     have hT:decide (L.trimDig (s.drop 1)=[])=(s.drop 1).all isD:=by
      rw[Bool.eq_iff_iff,Pw,CG]
     rw[hL];unfold oZ;by_cases hR:s.getD 0 0=82
     ·rw[if_pos hR,decide_eq_true hR];by_cases h2:s.length=2
      ·rw[if_neg (by omega),if_pos (by omega),htrim (by omega),Pn,decide_eq_true h2];dsimp only;rw[hT];rfl
      ·rw[if_pos (by omega),decide_eq_false h2];by_cases h3:s.length=3
       ·rw[if_pos (by omega),if_pos (by omega),htrim (by omega),Pn,decide_eq_true h3];dsimp only;rw[hT];rfl
       ·rw[if_neg (by omega),decide_eq_false h3];rfl
     ·rw[if_neg hR,decide_eq_false hR];rfl
    ·rw[if_neg hw];simp[az,hw]
   have hbt:bt s 0=((s.getD 0 0).toNat:Int):=rfl;simp only[hbt];by_cases h48:(48:Int)<=(s.getD 0 0).toNat
   ·rw[if_pos h48,if_pos (by omega)];by_cases h57:((s.getD 0 0).toNat:Int)<=57
    ·rw[if_pos h57];have hd:isD (s.getD 0 0)=true:=by unfold isD;rw[Pw];omega
     unfold az;rw[hd,decide_eq_true (show s≠[] from h0),decide_eq_true h12];rfl
    ·rw[if_neg h57];exact hj (by unfold isD;rw[Pw];omega)
   ·rw[if_neg h48];exact hj (by unfold isD;rw[Pw];omega)
  ·rw[if_neg (by omega)];simp[az,h12]
end Rv
namespace Rv
open Go
def isA(b:UInt8):Bool:=decide (65<=b.toNat/\b.toNat<=90\/97<=b.toNat/\b.toNat<=122)
theorem OE(b:UInt8):isL b=(isA b||decide (b.toNat=95)):=by
 unfold isL isA;rw[Bool.eq_iff_iff];simp only[Pw,Bool.or_eq_true];omega
def dB(s:Str):Bool:=decide (s≠[])&&decide (s.length<=12)&&isA (s.getD 0 0)&&!oZ s&&s.all isW
end Rv
namespace Rv
open Go
theorem J2:((List.range 256).all fun k=>decide (Zbp.g (k:Int) true=some (isA (UInt8.ofNat k),()))&&decide (Zbp.g (k:Int) false=some (isW (UInt8.ofNat k),())))=true:=by decide +kernel
theorem DX(b:UInt8)(f:Bool):Zbp.g (b.toNat:Int) f=some (if f then isA b else isW b,()):=by
 have h:=PT.1 J2 b.toNat (by simp;exact b.toNat_lt)
 simp at h;cases f;·exact h.2
 ·exact h.1
theorem CX(s:Str)(hs:s.length<=12)(n:Nat):∀(m i:Nat),1<=i->i<=s.length->s.length-i<m ->
  Zaq.l4 n m s (s.length:Int) (i:Int)=if(s.drop i).all isW=true then Zaq.l4 n 1 s (s.length:Int) (s.length:Int) else some (false,()):=by
 intro m
 induction m with
 |zero=>intro i _ _ h;omega
 |succ m ih=>
  intro i h0 hi hm;by_cases h1:i<s.length;·rw[Zaq.l4,if_pos (by simp;omega),if_pos (by omega),rD,DX,Pn,dK h1,Qj];dsimp only;rw[if_neg (show ¬decide ((i:Int)=0)=true by simp;omega),w64 (by omega),show(i:Int)+1=((i+1:Nat):Int) by omega,ih (i+1) (by omega) (by omega) (by omega)];cases isW (s.getD i 0)<;>simp
  ·have hi':i=s.length:=by omega
   subst hi';rw[Qe,List.all_nil,if_pos rfl];have hlt:¬((s.length:Int)<s.length):=by omega
   simp only[Zaq.l4,dt,hlt,if_false]
theorem si(s:Str):Zaq.g s=some (dB s,()):=by
 unfold Zaq.g Zaq.f;simp only[dt,df];by_cases h0:s=[]
 ·subst h0;rw[if_neg (by simp)];rfl
 ·have hl0:0<s.length:=List.length_pos_iff.2 h0;rw[if_pos (by omega)];by_cases h12:s.length<=12
  ·rw[if_neg (by omega)];obtain⟨m,hm⟩:∃m,1000+s.length=m+1:=⟨999+s.length,by omega⟩
   rw[show Zaq.l4 (1000+s.length) (1000+s.length) s (s.length:Int) 0=Zaq.l4 (1000+s.length) (m+1) s (s.length:Int) 0 by rw[hm],Zaq.l4,if_pos (by simp;omega),if_pos (by omega)];have hb0:bt s 0=((s.getD 0 0).toNat:Int):=rfl;rw[hb0,DX,Pn];dsimp only;have hdd:decide ((0:Int)=0)=true:=rfl;rw[hdd,if_pos (show true=true from rfl),show IntKind.i64.wrap ((0:Int)+1)=((1:Nat):Int) from rfl,CX s h12 (1000+s.length) m 1 (by omega) (by omega) (by omega)];have hall:s.all isW=(isW (s.getD 0 0)&&(s.drop 1).all isW):=by
    have:=dK (s:=s) (k:=0) hl0;rw[PZ] at this
    conv=>lhs;rw[this]
    rw[Qj]
   unfold dB;rw[decide_eq_true h0,decide_eq_true h12,hall];have hAW:isA (s.getD 0 0)=true->isW (s.getD 0 0)=true:=fun h=>by unfold isW;rw[OE,h];rfl
   cases hA:isA (s.getD 0 0) with
   |false=>rw[if_pos (by simp)];simp
   |true=>
    rw[if_neg (by simp),hAW hA];by_cases hw:(s.drop 1).all isW=true
    ·rw[if_pos hw,hw];simp only[Zaq.l4,dt,df];rw[if_neg (by omega),if_pos (by omega),hb0];have h82:(((s.getD 0 0).toNat:Int)=82)=(s.getD 0 0=82):=jR _ 82 (by omega);simp only[h82];have htake:(s.take (s.length:Int).toNat).drop (1:Int).toNat=s.drop 1:=by
      rw[show(s.length:Int).toNat=s.length by omega,List.take_length];rfl
     have htrim:s.length<=3->L.trimO ((s.take (s.length:Int).toNat).drop (1:Int).toNat) [48,49,50,51,52,53,54,55,56,57]=some (L.trimDig (s.drop 1),()):=fun h=>by
      rw[htake];unfold L.trimO;rw[if_pos ⟨rfl,by simp;omega⟩]
     have hT:decide (L.trimDig (s.drop 1)=[])=(s.drop 1).all isD:=by
      rw[Bool.eq_iff_iff,Pw,CG]
     unfold oZ;by_cases hR:s.getD 0 0=82
     ·rw[if_pos hR,decide_eq_true hR];by_cases h2:s.length=2
      ·rw[if_neg (by omega),if_pos (by omega),htrim (by omega),Pn,decide_eq_true h2];dsimp only;rw[hT];simp
      ·rw[if_pos (by omega),decide_eq_false h2];by_cases h3:s.length=3
       ·rw[if_pos (by omega),if_pos (by omega),htrim (by omega),Pn,decide_eq_true h3];dsimp only;rw[hT];simp
       ·rw[if_neg (by omega),decide_eq_false h3];simp
     ·rw[if_neg hR,decide_eq_false hR];simp
    ·rw[if_neg hw,Bool.eq_false_iff.2 hw];simp
  ·rw[if_pos (by omega)];unfold dB;rw[decide_eq_false h12];simp
end Rv
namespace Rv
open Go
end Rv
namespace Rv
open Go
end Rv
namespace Rv
open Go
theorem MS:∀e∈L.nameTbl,L.mnemR e.2.1.1 e.2.1.2.1 e.2.1.2.2=e.2.2/\L.ofR e.2.2=(e.2.1.1,e.2.1.2.1,e.2.1.2.2,true,())/\e.2.2≠[]:=by decide +kernel
theorem Ko:∀e∈L.nameTbl,1<=e.2.1.1/\e.2.1.1<=10/\0<=e.2.1.2.1/\e.2.1.2.1<=15:=by decide +kernel
theorem vP{k o:Int}{u:Bool}(h:L.mnemR k o u≠[]):∃e∈L.nameTbl,e.2.1=(k,o,u)/\e.2.2=L.mnemR k o u:=by
 unfold L.mnemR at h⊢;cases hf:L.nameTbl.find? fun e=>e.2.1 == (k,o,u) with
 |none=>rw[hf] at h;exact absurd rfl h
 |some e=>
  have h1:=List.mem_of_find?_eq_some hf;have h2:e.2.1=(k,o,u):=by simpa using List.find?_some hf
  exact⟨e,h1,h2,rfl⟩
theorem MO{k o:Int}{u:Bool}(h:L.mnemR k o u≠[]):L.ofR (L.mnemR k o u)=(k,o,u,true,())/\1<=k/\k<=10/\0<=o/\o<=15:=by
 obtain⟨e,he,hk,hs⟩:=vP h;obtain⟨h1,h2,h3⟩:=MS e he;have h4:=Ko e he;rw[hk] at h2 h4;rw[<- hs];exact⟨h2,h4⟩
theorem Ki{k o:Int}(u:Bool)(hk:-9223372036854775808<=k/\k<=9223372036854775807)(ho:-9223372036854775808<=o/\o<=9223372036854775807):L.mnemO k o u=some (L.mnemR k o u,()):=by
 unfold L.mnemO;rw[if_pos ⟨hk.1,hk.2,ho.1,ho.2⟩]
end Rv
namespace Rv
open Go
set_option maxRecDepth 100000
def okE(r:Option (Int×Option Int×Unit)):Prop:=∃v e,r=some (v,e,())/\(e=none\/e=some 1\/e=some 2)
theorem vU{v:Int}:okE (some (v,none,())):=⟨_,_,rfl,.inl rfl⟩
theorem oP{v:Int}:okE (some (v,some 1,())):=⟨_,_,rfl,.inr (.inl rfl)⟩
theorem dR{v:Int}:okE (some (v,some 2,())):=⟨_,_,rfl,.inr (.inr rfl)⟩
theorem Fw(c:Int):Zak.g c=some (bQ .or .u8 c 32,()):=rfl
theorem M0(s09:Str)(c mv:Int)(l:List Int)(hl:l.length<=1000000)(n:Nat):∀(m i:Nat),i<=l.length->l.length-i<m->∀v,okE (Zaa.l36 n m 10 false s09 c mv false v l (l.length:Int) (i:Int)):=by
 intro m
 induction m with
 |zero=>intro i _ h;omega
 |succ m ih=>
  intro i hi hm v;unfold Zaa.l36;by_cases hlt:i<l.length
  ·rw[if_pos (by simp;omega),if_pos (by omega)];have w1:IntKind.i64.wrap ((i:Int)+1)=((i+1:Nat):Int):=by rw[w64 (by omega)];omega
   have h46:∀d,okE (Zaa.j46 n (Zaa.l36 n m) 10 false s09 c mv false v d l (l.length:Int) (i:Int)):=by
    intro d;unfold Zaa.j46;split;·exact dR
    ·split
     ·exact oP
     ·split
      ·split
       ·exact oP
       ·unfold Zaa.j55;rw[w1];exact ih (i+1) (by omega) (by omega) _
      ·exact oP
   simp only[Fw,Pn,Bool.false_eq_true,if_false];generalize hb:l.getD (i:Int).toNat 0=b;by_cases e1:b=95
   ·rw[if_pos (by simp[e1])];split
    ·split
     ·exact h46 _
     ·split
      ·split
       ·exact h46 _
       ·exact dR
      ·exact dR
    ·split
     ·split
      ·exact h46 _
      ·exact dR
     ·exact dR
   ·rw[if_neg (by simp[e1])];split
    ·split
     ·exact h46 _
     ·split
      ·split
       ·exact h46 _
       ·exact dR
      ·exact dR
    ·split
     ·split
      ·exact h46 _
      ·exact dR
     ·exact dR
  ·rw[if_neg (by simp;omega)];simp only[Bool.false_eq_true,if_false];exact vU
theorem OM(s:Str)(hs:s.length<=1000000):okE (Zaa.g s 10 0):=by
 unfold Zaa.g Zaa.f;by_cases h0:s=[]
 ·rw[if_pos (by simp[h0])];exact dR
 ·rw[if_neg (by simp[h0]),if_pos (by decide),if_pos (by decide)];unfold Zaa.j21;rw[if_pos (by decide)];unfold Zaa.j25;rw[if_pos (by decide)];unfold Zaa.j32;rw[if_neg (by decide)];have hd:decide ((10:Int)=0)=false:=by decide
  rw[hd];have hz:(0:Int)=((0:Nat):Int):=rfl;have:=M0 s 1844674407370955162 (IntKind.u64.wrap ((IntKind.u64.wrap ((1:Int)*2 ^ (min (IntKind.u64.wrap 64).toNat IntKind.u64.bits)))-(1:Int))) (s.map fun b=>(b.toNat:Int)) (by simpa using hs) (1000+s.length+(10:Int).toNat+(0:Int).toNat) (1000+s.length+(10:Int).toNat+(0:Int).toNat) 0 (by simp) (by simp;omega) 0;exact this
theorem NY(n:Nat)(g:Bool)(v:Int):okE (Zai.j21 n g v):=by
 unfold Zai.j21;split<;>exact vU
theorem NW(n:Nat)(g:Bool)(v c:Int):okE (Zai.j19 n g v c):=by
 unfold Zai.j19;split
 ·split
  ·exact oP
  ·exact NY _ _ _
 ·exact NY _ _ _
theorem Pg(n:Nat)(g:Bool)(v:Int):okE (Zai.j16 n 64 g v):=by
 unfold Zai.j16;have h:¬IntKind.u64.wrap (IntKind.i64.wrap (64-1))<0:=by rw[w64 (by omega),wB (by omega)];omega
 rw[if_neg h];generalize IntKind.u64.wrap ((1:Int)*2 ^ (min (IntKind.u64.wrap (IntKind.i64.wrap (64-1))).toNat IntKind.u64.bits))=c;split
 ·split
  ·exact oP
  ·exact NW _ _ _ _
 ·exact NW _ _ _ _
theorem NV(n:Nat)(g:Bool)(v:Int):okE (Zai.j14 n 0 g v):=by
 unfold Zai.j14;rw[if_pos (by decide)];exact Pg _ _ _
theorem OL(s:Str)(hs:s.length<=1000000):okE (Zai.g s 10 0):=by
 unfold Zai.g Zai.f;generalize 1000+s.length+(10:Int).toNat+(0:Int).toNat=n;have h10:∀(t:Str) g,t.length<=1000000->okE (Zai.j10 n t 10 0 g):=fun t g ht=>by
  unfold Zai.j10;obtain⟨v,e,he,h⟩:=OM t ht;rw[he,Pn];dsimp only;rcases h with rfl|rfl|rfl;·rw[if_neg (by decide)];exact NV _ _ _
  ·rw[if_pos (by decide),if_neg (by simp)];exact NV _ _ _
  ·rw[if_pos (by decide),if_pos (by simp)];exact dR
 by_cases h0:s=[]
 ·rw[if_pos (by simp[h0])];exact dR
 ·rw[if_neg (by simp[h0])];have hlen:0<s.length:=List.length_pos_iff.2 h0;have ht:((s.take ((s.length:Int)).toNat).drop ((1:Int)).toNat).length<=1000000:=by simp;omega
  rw[if_pos (by omega)];split;·rw[if_pos (by omega)];exact h10 _ _ ht
  ·split
   ·rw[if_pos (by omega)];exact h10 _ _ ht
   ·exact h10 _ _ hs
theorem at_loop(s05:Str)(h5:s05≠[])(l:List Int)(hl:l.length<=1000000)(n:Nat):∀(m i:Nat),i<=l.length->l.length-i<m->∀v,okE (Zao.l10 n m s05 v l (l.length:Int) (i:Int)):=by
 intro m
 induction m with
 |zero=>intro i _ h;omega
 |succ m ih=>
  intro i hi hm v;unfold Zao.l10;by_cases hlt:i<l.length
  ·rw[if_pos (by simp;omega),if_pos (by omega)];have w1:IntKind.i64.wrap ((i:Int)+1)=((i+1:Nat):Int):=by rw[w64 (by omega)];omega
   split;·exact dR
   ·rw[w1];exact ih (i+1) (by omega) (by omega) _
  ·rw[if_neg (by simp;omega)];have hlen:0<s05.length:=List.length_pos_iff.2 h5;rw[if_pos (by omega)];split<;>exact vU
theorem OD(s:Str)(hs:s.length<=1000000):okE (Zao.g s):=by
 unfold Zao.g Zao.f;obtain⟨n,hn⟩:∃n,1000+s.length=n:=⟨_,rfl⟩
 rw[hn];have h8:∀t:Str,t.length<=s.length->s≠[]->okE (Zao.j8 n t s):=fun t ht h0=>by
  unfold Zao.j8;have:=at_loop s h0 (t.map fun b=>(b.toNat:Int)) (by simp;omega) n n 0 (by simp) (by simp;omega) 0;exact this
 have h20:okE (Zao.j20 n s):=by
  unfold Zao.j20;obtain⟨v,e,he,h⟩:=OL s hs;rw[he,Pn];exact⟨v,e,rfl,h⟩
 by_cases h0:s=[]
 ·rw[if_neg (by simp[h0])];exact h20
 ·have hlen:0<s.length:=List.length_pos_iff.2 h0;have ht:((s.take ((s.length:Int)).toNat).drop ((1:Int)).toNat).length<=s.length:=by simp
  have h6:okE (Zao.j6 n ((s.take ((s.length:Int)).toNat).drop ((1:Int)).toNat) s):=by
   unfold Zao.j6;split;·exact dR
   ·exact h8 _ ht h0
  rw[if_pos (by simp;omega)];split
  ·rw[if_pos (by omega)];split
   ·rw[if_pos (by omega)];split
    ·rw[if_pos (by omega)];exact h6
    ·exact h8 _ (Px _) h0
   ·rw[if_pos (by omega)];exact h6
  ·exact h20
theorem Gm(s:Str)(hs:s.length<=1000000):∃v b,Zdb.g s=some (v,b,()):=by
 unfold Zdb.g Zdb.f;obtain⟨v,e,he,h⟩:=OD s hs;rw[he,Pn];dsimp only;rcases h with rfl|rfl|rfl;·exact⟨_,_,rfl⟩
 ·have:L.toErrorO ([65,116,111,105]:Str) s 0 0 (some 1)=some (false,()):=by unfold L.toErrorO;rw[if_pos ⟨by omega,Or.inl rfl⟩]
  rw[if_pos (by decide),this];exact⟨_,_,rfl⟩
 ·have:L.toErrorO ([65,116,111,105]:Str) s 0 0 (some 2)=some (false,()):=by unfold L.toErrorO;rw[if_pos ⟨by omega,Or.inr rfl⟩]
  rw[if_pos (by decide),this];exact⟨_,_,rfl⟩
end Rv
namespace Rv
open Go
def fH(k:Nat):Str:=if k<10 then[82,UInt8.ofNat (48+k)] else[82,49,UInt8.ofNat (38+k)]
def bN(s:Str):Int×Bool:=match (List.range 16).find? (fun k=>fH k == s) with|some k=>((k:Int),true)|none=>(0,false)
theorem Im:((List.range 16).all fun k=>decide (Zaw.g (k:Int)=some (fH k,()))&&decide (Zbs.g (fH k)=some ((k:Int),true,())))=true:=by decide +kernel
theorem wu(k:Nat)(hk:k<16):Zaw.g (k:Int)=some (fH k,())/\Zbs.g (fH k)=some ((k:Int),true,()):=by
 have:=PT.1 Im k (List.mem_range.2 hk);simpa[and_assoc] using this
theorem Dq{v:Int}(h:v<0\/16<=v):Zaw.g v=some ([],()):=by
 unfold Zaw.g Zaw.f;by_cases h0:v<0;·rw[if_neg (by simp;omega)]
 ·rw[if_pos (by simp;omega),if_pos (by simp;omega)]
theorem Aj(v:Int):∃s,Zaw.g v=some (s,())/\(s≠[]->∃k:Nat,k<16/\v=(k:Int)/\s=fH k):=by
 by_cases h:v<0\/16<=v;·exact⟨[],Dq h,fun e=>absurd rfl e⟩
 ·obtain⟨k,rfl⟩:∃k:Nat,v=(k:Int):=⟨v.toNat,by omega⟩
  have hk:k<16:=by omega
  exact⟨fH k,(wu k hk).1,fun _=>⟨k,hk,rfl,rfl⟩⟩
theorem Mc{s p:Str}(h:L.cutIs s p=true)(hp:p≠[]):s≠[]:=by
 rintro rfl;cases p with
 |nil=>exact hp rfl
 |cons a l=>simp[L.cutIs,Lib.hasPrefix] at h
theorem qE{s:Str}{k:Nat}(h:(List.range 16).find? (fun k=>fH k == s)=some k):k<16/\fH k=s:=by
 have h1:=List.mem_of_find?_eq_some h;have h2:=List.find?_some h;exact⟨List.mem_range.1 h1,by simpa using h2⟩
theorem Il(s:Str)(hs:s.length<=1000000):Zbs.g s=some ((bN s).1,(bN s).2,()):=by
 unfold bN;cases hf:(List.range 16).find? (fun k=>fH k == s) with
 |some k=>
  obtain⟨h1,h2⟩:=qE hf;have:=(wu k h1).2;rw[h2] at this;exact this
 |none=>
  have hno:∀k,k<16->fH k≠s:=fun k hk e=>by
   have:=List.find?_eq_none.1 hf k (List.mem_range.2 hk);simp[e] at this
  unfold Zbs.g Zbs.f;obtain⟨v,b,hvb⟩:=Gm (L.cutRest s [82]) (by
   unfold L.cutRest Lib.trimPrefix;split;·rw[P7];omega
   ·omega)
  rw[hvb,Pn];dsimp only;cases hc:L.cutIs s [82] with
  |false=>rfl
  |true=>
   rw[if_pos (by decide)];cases b with
   |false=>rfl
   |true=>
    rw[if_pos (by decide)];obtain⟨t,ht,hk⟩:=Aj v;rw[ht,Pn];dsimp only;by_cases e:t=s;·have hne:=Mc hc (by decide);obtain⟨k,hk1,_,hk2⟩:=hk (by rw[e];exact hne);exact absurd (hk2.symm.trans e) (hno k hk1)
    ·rw[if_pos (by simp[e])]
end Rv
namespace Rv
open Go
abbrev Item:=Int×Int×Str×Unit
def aC(x:Item):Int×Bool:=
 if x.1=1 then(0,decide (x.2.2.1=[]))
 else if x.1=2 then(0,decide (x.2.1=0)&&az x.2.2.1)
 else if x.1=3 then(1,decide (x.2.1=0)&&decide (x.2.2.1=[]))
 else if x.1=4\/x.1=5\/x.1=6 then(2,decide (x.2.1=0)&&decide (x.2.2.1=[]))
 else(0,false)
theorem mK(a b:Int)(c:Str):Zbo.g a b c=some ((aC (a,b,c,())).1,(aC (a,b,c,())).2,()):=by
 unfold Zbo.g Zbo.f;simp only[Zbo.j2,dt,mD,Pn];unfold aC;dsimp only;rcases H7 (b=0) with hb|hb
 all_goals
  by_cases h1:a=1;·subst h1;simp only[hb,if_true,if_false,decide_true,decide_false]
  by_cases h2:a=2;·subst h2;simp only[hb,if_true,if_false,decide_true,decide_false,Bool.true_and,Bool.false_and,show ¬((2:Int)=1) by decide]
  by_cases h3:a=3;·subst h3;simp only[hb,if_true,if_false,decide_true,decide_false,Bool.true_and,Bool.false_and,show ¬((3:Int)=1) by decide,show ¬((3:Int)=2) by decide]
  by_cases h4:a=4;·subst h4;simp only[hb,if_true,if_false,decide_true,decide_false,Bool.true_and,Bool.false_and,true_or,show ¬((4:Int)=1) by decide,show ¬((4:Int)=2) by decide,show ¬((4:Int)=3) by decide]
  by_cases h5:a=5;·subst h5;simp only[hb,if_true,if_false,decide_true,decide_false,Bool.true_and,Bool.false_and,true_or,or_true,show ¬((5:Int)=1) by decide,show ¬((5:Int)=2) by decide,show ¬((5:Int)=3) by decide,show ¬((5:Int)=4) by decide]
  by_cases h6:a=6;·subst h6;simp only[hb,if_true,if_false,decide_true,decide_false,Bool.true_and,Bool.false_and,true_or,or_true,show ¬((6:Int)=1) by decide,show ¬((6:Int)=2) by decide,show ¬((6:Int)=3) by decide,show ¬((6:Int)=4) by decide,show ¬((6:Int)=5) by decide]
  simp only[hb,h1,h2,h3,h4,h5,h6,if_true,if_false,or_self]
def iX:Int->List Item->Bool
 |t,[]=>decide (t=1)
 |t,x::r=>(aC x).2&&(!decide (t<(aC x).1)&&iX (t+(1-(aC x).1)) r)
def well(e:List Item):Bool:=iX 0 e&&decide (e.length<=64)
theorem Df(x:Item):0<=(aC x).1/\(aC x).1<=2:=by
 unfold aC;split;·simp
 ·split
  ·simp
  ·split
   ·simp
   ·split<;>simp
theorem I5(e:List Item)(he:e.length<=4611686018427387904)(n:Nat):∀(m i:Nat) (t:Int),i<=e.length->e.length-i<m->0<=t->t<=i ->
  Zaz.l3 n m e t e (e.length:Int) (i:Int)=some (iX t (e.drop i)&&decide (e.length<=64),()):=by
 intro m
 induction m with
 |zero=>intro i t _ h;omega
 |succ m ih=>
  intro i t hi hm h0 ht;by_cases h1:i<e.length
  ·have hx:e.drop i=e.getD i ((0:Int),((0:Int),(([]:Str),())))::e.drop (i+1):=by
    rw[P5 h1,PM,PI h1];rfl
   rw[hx];simp only[Zaz.l3,dt,df,mK,Pn];rw[if_pos (by omega),if_pos (by omega),PN];generalize e.getD i ((0:Int),((0:Int),(([]:Str),())))=x;obtain⟨a,b,c,u⟩:=x;cases u;have hr:=Df (a,b,c,());simp only[iX];generalize aC (a,b,c,())=y at *;obtain⟨k,ok⟩:=y;simp only at hr⊢;cases ok;·rfl
   ·rw[if_pos (show(!true)=false from rfl)];by_cases h2:t<k
    ·rw[if_pos h2];simp[h2]
    ·rw[if_neg h2,w64 (x:=1-k) (by omega),w64 (x:=t+(1-k)) (by omega),w64 (x:=(i:Int)+1) (by omega),show(i:Int)+1=((i+1:Nat):Int) by omega];rw[ih (i+1) (t+(1-k)) (by omega) (by omega) (by omega) (by omega)];simp[h2]
  ·have hi':i=e.length:=by omega
   subst hi';simp only[Zaz.l3,dt];rw[if_neg (by omega),Qe];simp only[iX];by_cases h3:t=1;·rw[if_pos h3];simp[h3];omega
   ·rw[if_neg h3];simp[h3]
theorem yJ(e:List Item)(he:e.length<=4611686018427387904):Zaz.g e=some (well e,()):=by
 unfold Zaz.g Zaz.f;exact I5 e he _ _ 0 0 (by omega) (by omega) (by omega) (by omega)
end Rv
namespace Rv
open Go
def enough:Int->List Item->Option Int
 |t,[]=>some t
 |t,x::r=>if(aC x).2=true/\¬t<(aC x).1 then enough (t+(1-(aC x).1)) r else none
theorem mW:∀(e:List Item) (t:Int),(iX t e=true)=(enough t e=some 1)
 |[],t=>by simp[iX,enough]
 |x::r,t=>by
  simp only[iX,enough,Ps,Bool.not_eq_true',decide_eq_false_iff_not];by_cases h:(aC x).2=true/\¬t<(aC x).1;·rw[if_pos h,<- mW r];simp[h.1,h.2]
  ·rw[if_neg h];apply propext;constructor
   ·intro h';exact absurd ⟨h'.1,h'.2.1⟩ h
   ·intro h';cases h'
theorem lu:∀(a b:List Item) (t:Int),enough t (a++b)=(enough t a).bind fun k=>enough k b
 |[],b,t=>rfl
 |x::a,b,t=>by
  simp only[List.cons_append,enough];split;·exact lu a b _
  ·rfl
def gM(e:List Item):Prop:=enough 0 e=some 1
theorem rO:∀(e:List Item) (t k j:Int),0<=j->enough t e=some k->enough (t+j) e=some (k+j)
 |[],t,k,j,_,h=>by
  simp only[enough,Po] at h⊢;omega
 |x::e,t,k,j,hj,h=>by
  simp only[enough] at h⊢;split at h;·rename_i hc;rw[if_pos ⟨hc.1,by omega⟩,show t+j+(1-(aC x).1)=(t+(1-(aC x).1))+j by omega];exact rO e _ k j hj h
  ·cases h
theorem EC{e:List Item}(h:gM e)(hl:e.length<=64):well e=true:=by
 unfold well;rw[Ps,Pw,mW];exact⟨h,hl⟩
theorem Lh{a b:List Item}(ha:gM a)(hb:gM b)(x:Item)(hx:aC x=(2,true)):gM (a++b++[x]):=by
 unfold gM at *;have h1:enough 1 b=some 2:=rO b 0 1 1 (by omega) hb;rw[lu,lu,ha,Pn,h1,Pn];simp[enough,hx]
theorem Lg{a:List Item}(ha:gM a)(x:Item)(hx:aC x=(1,true)):gM (a++[x]):=by
 unfold gM at *;rw[lu,ha,Pn];simp[enough,hx]
end Rv
namespace Rv
open Go
def vJ(x:Item):Prop:=0<=x.2.1/\x.2.1<=4294967295/\(aC x).2=true
end Rv
namespace Rv
open Go
end Rv
namespace Rv
open Go
end Rv
namespace Rv
open Go
abbrev ai:=Int×Int×Str×Int×Unit
def jr(ts:List ai):Except Int (List ai)->Except Int (List ai)
 | .error e=>.error e
 | .ok l=>.ok (ts++l)
theorem gL(a b:List ai)(x:Except Int (List ai)):jr (a++b) x=jr a (jr b x):=by cases x<;>simp[jr]
def okR(r:Str):Prop:=r=[]\/∃b y,r=b::y/\isW b=false
theorem qO{s r:Str}(hs:s.all isW=true)(hr:okR r):aW (s++r)=s:=by
 rcases hr with rfl|⟨b,y,rfl,hb⟩;·rw[P8];exact xG hs
 ·unfold aW;rw[IL hb];exact xG hs
theorem sw{s:Str}{c:UInt8}{t:Str}(hs:s=c::t)(ha:s.all isW=true){q v:Int}(hk:∀r,okR r->iB c (t++r)=.ok (0,q,s,v))(k:Int){r:Str}(hr:okR r):aH k (s++r)=jr [(q,k,s,v,())] (aH (k+s.length) r):=by
 subst hs;have hW:isW c=true:=by simp only[Qj,Ps] at ha;exact ha.1
 obtain⟨h1,h2⟩:=CO hW;rw[List.cons_append,d9,if_neg h1,if_neg h2,hk r hr];dsimp only;have hd:(t++r).drop (0+(c::t).length-1)=r:=by
  rw[PG,show 0+(t.length+1)-1=t.length by omega];exact List.drop_left' rfl
 rw[hd,show k+((0:Nat):Int)+((c::t).length:Int)=k+((c::t).length:Int) by omega];cases aH (k+((c::t).length:Int)) r<;>rfl
theorem mF(c:UInt8)(hc:c∈([40,41,42,43,45]:Str))(k:Int)(r:Str):aH k (c::r)=jr [(3,k,[c],0,())] (aH (k+1) r):=by
 have step:isL c=false/\isD c=false/\c≠46/\isS c=true/\c≠59/\c≠32/\c≠9:=by
  simp only[Py,Qn,or_false] at hc;rcases hc with rfl|rfl|rfl|rfl|rfl<;>decide
 obtain⟨h1,h2,h3,h4,h5,h6,h7⟩:=step;rw[d9,if_neg h5,if_neg (fun h=>h.elim h6 h7)];unfold iB;rw[if_neg (by simp[h1]),if_neg (by simp[h2]),if_neg (fun h=>h3 h.1),if_pos h4];dsimp only;rw[show k+((0:Nat):Int)+(([c]:Str).length:Int)=k+1 by simp,show 0+([c]:Str).length-1=0 from rfl,PZ];cases aH (k+1) r<;>rfl
theorem qf(k:Int)(r:Str):aH k (32::r)=aH (k+1) r:=by
 rw[d9,if_neg (by decide),if_pos (.inl rfl)]
end Rv
namespace Rv
open Go
inductive Opr
 |add|sub|mul
def Opr.kind:Opr->Int
 | .add=>4 | .sub=>5 | .mul=>6
def Opr.byte:Opr->UInt8
 | .add=>43 | .sub=>45 | .mul=>42
def Opr.tight:Opr->Nat
 | .mul=>1|_=>0
inductive Tr
 |num (n:Int)|nam (s:Str)|neg (x:Tr)|bin (o:Opr) (a b:Tr)|br (x:Tr)
namespace Tr
def post:Tr->List Item
 | .num n=>[(1,n,[],())]
 | .nam s=>[(2,0,s,())]
 | .neg x=>x.post++[(3,0,[],())]
 | .bin o a b=>a.post++b.post++[(o.kind,0,[],())]
 | .br x=>x.post
def ok:Tr->Prop
 | .num n=>0<=n/\n<=4294967295
 | .nam s=>az s=true
 | .neg x=>x.ok
 | .bin _ a b=>a.ok/\b.ok
 | .br x=>x.ok
def plain:Tr->Prop
 | .neg x=>x.plain
 | .bin _ a b=>a.plain/\b.plain
 | .br _=>False
 |_=>True
def tight:Tr->Nat
 | .bin o _ _=>o.tight
 |_=>2
end Tr
abbrev Bt:=Int×Str×Int
def bare(t:ai):Bt:=(t.1,t.2.2.1,t.2.2.2.1)
def tLp:Bt:=(3,[40],0)
def tRp:Bt:=(3,[41],0)
def tOp(o:Opr):Bt:=(3,[o.byte],0)
def yF:Bt:=(3,[45],0)
def brk(b:Bool)(l:List Bt):List Bt:=if b then tLp::(l++[tRp]) else l
namespace Tr
def toks:Tr->List Bt
 | .num n=>[(2,Lib.itoa n,n)]
 | .nam s=>[(1,s,0)]
 | .neg x=>yF::brk (decide (x.tight<2)) x.toks
 | .bin o a b=>brk (decide (a.tight<o.tight)) a.toks++tOp o::brk (decide (b.tight<o.tight+1)) b.toks
 | .br x=>tLp::(x.toks++[tRp])
def toksA(lv:Nat)(x:Tr):List Bt:=brk (decide (x.tight<lv)) x.toks
def dep:Tr->Nat
 | .num _=>0
 | .nam _=>0
 | .neg x=>1+(x.dep+if x.tight<2 then 1 else 0)
 | .bin o a b=>max (a.dep+if a.tight<o.tight then 1 else 0) (b.dep+if b.tight<o.tight+1 then 1 else 0)
 | .br x=>1+x.dep
def depA(lv:Nat)(x:Tr):Nat:=x.dep+if x.tight<lv then 1 else 0
theorem post_pos:∀x:Tr,1<=x.post.length
 | .num _=>by simp[post]
 | .nam _=>by simp[post]
 | .neg _=>by simp[post]
 | .bin _ _ _=>by simp[post];omega
 | .br x=>post_pos x
def cnt(l:List Bt):Nat:=l.countP fun b=>decide (b.2.1=[45])||decide (b.2.1=[40])
end Tr
theorem Ff{x:Item}(h:(aC x).2=true):(∃n,x=(1,n,[],()))\/(∃s,x=(2,0,s,())/\az s=true)\/x=(3,0,[],())\/∃o:Opr,x=(o.kind,0,[],()):=by
 obtain⟨a,b,c,u⟩:=x;cases u;unfold aC at h;dsimp only at h;split at h;·rename_i h1;simp only[Pw] at h;exact .inl ⟨b,by rw[h1,h]⟩
 ·split at h
  ·rename_i h2;simp only[Ps,Pw] at h;exact .inr (.inl ⟨c,by rw[h2,h.1],h.2⟩)
  ·split at h
   ·rename_i h3;simp only[Ps,Pw] at h;exact .inr (.inr (.inl (by rw[h3,h.1,h.2])))
   ·split at h
    ·rename_i h4;simp only[Ps,Pw] at h;obtain⟨rfl,rfl⟩:=h;rcases h4 with rfl|rfl|rfl
     ·exact .inr (.inr (.inr ⟨.add,rfl⟩))
     ·exact .inr (.inr (.inr ⟨.sub,rfl⟩))
     ·exact .inr (.inr (.inr ⟨.mul,rfl⟩))
    ·cases h
theorem F4(l:List Tr):l=[]\/∃a x,l=a++[x]:=by
 rcases List.eq_nil_or_concat l with h|⟨a,x,h⟩;·exact .inl h
 ·exact .inr ⟨a,x,by simpa using h⟩
def posts(st:List Tr):List Item:=(st.map Tr.post).flatten
theorem nE(a b:List Tr):posts (a++b)=posts a++posts b:=by simp[posts]
theorem lc(x:Tr):posts [x]=x.post:=by simp[posts]
theorem CE:∀(e:List Item) (st:List Tr) (k:Int),enough (st.length:Int) e=some k->(∀x∈e,vJ x)->(∀x∈st,x.ok/\x.plain) ->
  ∃st':List Tr,(st'.length:Int)=k/\posts st++e=posts st'/\∀x∈st',x.ok/\x.plain
 |[],st,k,h,_,ho=>by
  simp only[enough,Po] at h;exact⟨st,h,by simp,ho⟩
 |x::e,st,k,h,hg,ho=>by
  have hgx:=hg x (by simp);unfold enough at h;split at h
  case isFalse=>cases h
  rename_i hc;have push:∀(l:List Tr) (t:Tr),(∀y∈l,y.ok/\y.plain)->t.ok/\t.plain->((l.length:Int)+1=st.length+(1-(aC x).1))->posts st++[x]=posts l++t.post->∃st':List Tr,(st'.length:Int)=k/\posts st++x::e=posts st'/\∀x∈st',x.ok/\x.plain:=by
   intro l t hl ht hlen hp;obtain⟨st',h1,h2,h3⟩:=CE e (l++[t]) k (by rw[show((l++[t]).length:Int)=st.length+(1-(aC x).1) by rw[<- hlen];simp];exact h) (fun y hy=>hg y (by simp[hy])) (fun y hy=>by
    rcases PL.1 hy with hy|hy;·exact hl y hy
    ·rw[PV] at hy;subst hy;exact ht)
   refine⟨st',h1,?_,h3⟩;rw[<- h2,nE,lc,<- hp];simp
  rcases Ff hc.1 with⟨n,rfl⟩|⟨s,rfl,hs⟩|rfl|⟨o,rfl⟩;·exact push st (.num n) ho ⟨⟨hgx.1,hgx.2.1⟩,trivial⟩ (by rw[show(aC (1,n,[],())).1=0 from rfl];omega) rfl
  ·exact push st (.nam s) ho ⟨hs,trivial⟩ (by rw[show(aC (2,0,s,())).1=0 from rfl];omega) rfl
  ·have e1:(aC (3,0,[],())).1=1:=rfl;rcases F4 st with rfl|⟨l,v,rfl⟩
   ·exact absurd hc.2 (by rw[e1];simp)
   ·have hv:=ho v (by simp);exact push l (.neg v) (fun y hy=>ho y (by simp[hy])) hv (by rw[e1];simp<;>omega) (by rw[nE,lc];simp[Tr.post])
  ·have e2:(aC (o.kind,0,[],())).1=2:=by cases o<;>rfl
   rcases F4 st with rfl|⟨l0,v,rfl⟩;·exact absurd hc.2 (by rw[e2];simp)
   ·rcases F4 l0 with rfl|⟨l,w,rfl⟩
    ·exact absurd hc.2 (by rw[e2];simp)
    ·exact push l (.bin o w v) (fun y hy=>ho y (by simp[hy])) ⟨⟨(ho w (by simp)).1,(ho v (by simp)).1⟩,(ho w (by simp)).2,(ho v (by simp)).2⟩ (by rw[e2];simp<;>omega) (by rw[nE,nE,lc,lc];simp[Tr.post])
theorem Nk{e:List Item}(h:gM e)(hg:∀x∈e,vJ x):∃t:Tr,t.post=e/\t.ok/\t.plain:=by
 obtain⟨st,h1,h2,h3⟩:=CE e [] 1 h hg (fun x hx=>by cases hx)
 match st,h1,h2,h3 with
 |[t],_,h2,h3=>exact⟨t,by rw[lc] at h2;exact h2.symm,h3 t (by simp)⟩
 |[],h1,_,_=>simp at h1
 |_::_::_,h1,_,_=>simp at h1;omega
end Rv
namespace Rv
open Go
def dch(d:Nat):UInt8:=if d<10 then UInt8.ofNat (48+d) else UInt8.ofNat (87+d)
theorem Md:((List.range 16).all fun d=>decide (iq (dch d)=some d)&&isW (dch d)&&(decide (10<=d)||isD (dch d))&&decide ((([48,49,50,51,52,53,54,55,56,57,97,98,99,100,101,102]:Str).take (d+1)).drop d=[dch d]))=true:=by decide +kernel
theorem yP{d:Nat}(h:d<16):iq (dch d)=some d/\isW (dch d)=true/\(d<10->isD (dch d)=true)/\(([48,49,50,51,52,53,54,55,56,57,97,98,99,100,101,102]:Str).take (d+1)).drop d=[dch d]:=by
 have:=PT.1 Md d (by simpa using h);simp only[Ps,Pw,Bool.or_eq_true] at this;obtain⟨⟨⟨h1,h2⟩,h3⟩,h4⟩:=this;exact⟨h1,h2,fun h=>h3.resolve_left (by omega),h4⟩
theorem uT(b:Nat):∀(s t:Str) (v:Nat),aQ b v (s++t)=(aQ b v s).bind fun w=>aQ b w t
 |[],t,v=>rfl
 |c::s,t,v=>by
  simp only[List.cons_append,aQ];cases iq c with
  |none=>rfl
  |some d=>
   simp only;split
   ·split
    ·exact uT b s t _
    ·rfl
   ·rfl
end Rv
namespace Rv
open Go
def brkT(b:Bool)(s:Str):Str:=if b then 40::(s++[41]) else s
namespace Tr
def txt:Tr->Str
 | .num n=>Lib.itoa n
 | .nam s=>s
 | .neg x=>45::brkT (decide (x.tight<2)) x.txt
 | .bin o a b=>brkT (decide (a.tight<o.tight)) a.txt++([32,o.byte,32]++brkT (decide (b.tight<o.tight+1)) b.txt)
 | .br x=>40::(x.txt++[41])
end Tr
theorem Me:∀(n:Nat),n<4294967296->aQ 10 0 (Lib.decDigits n)=some n:=by
 intro n
 induction n using Nat.strongRecOn with
 |_ n ih=>
  intro hn;rw[Lib.decDigits];have hd:∀d,d<10->iq (UInt8.ofNat (48+d))=some d:=fun d h=>by
   have:=(yP (show d<16 by omega)).1;unfold dch at this
   rwa [if_pos h] at this
  split;·rename_i h;simp only[aQ,hd n h];rw[if_pos h,if_pos (by omega)];simp
  ·rename_i h;rw[uT,ih (n / 10) (by omega) (by omega),Pn];simp only[aQ,hd (n % 10) (by omega)];have e:n / 10*10+n % 10=n:=by omega
   rw[if_pos (by omega),e,if_pos hn]
theorem uk:∀(n:Nat),(Lib.decDigits n).all isD=true/\Lib.decDigits n≠[]:=by
 intro n
 induction n using Nat.strongRecOn with
 |_ n ih=>
  rw[Lib.decDigits];have hd:∀d,d<10->isD (UInt8.ofNat (48+d))=true:=fun d h=>by
   have:=(yP (show d<16 by omega)).2.2.1 h;unfold dch at this
   rwa [if_pos h] at this
  split;·rename_i h;exact⟨by rw[Qj,hd n h];rfl,by simp⟩
  ·rename_i h;exact⟨by rw[List.all_append,(ih (n / 10) (by omega)).1,Qj,hd (n % 10) (by omega)];rfl,by simp⟩
theorem DF:∀(k n:Nat),n<10 ^ (k+1)->(Lib.decDigits n).length<=k+1
 |0,n,h=>by
  rw[Lib.decDigits,dif_pos (by simpa using h)];simp
 |k+1,n,h=>by
  rw[Lib.decDigits];split;·simp
  ·have:=DF k (n / 10) (by rw[Nat.div_lt_iff_lt_mul (by omega),<- Nat.pow_succ];exact h);simp;omega
theorem J4(n:Int)(h:0<=n/\n<=4294967295)(k:Int){r:Str}(hr:okR r):aH k (Lib.itoa n++r)=jr [(2,k,Lib.itoa n,n,())] (aH (k+(Lib.itoa n).length) r):=by
 obtain⟨m,rfl⟩:∃m:Nat,n=m:=⟨n.toNat,by omega⟩
 have hi:Lib.itoa (m:Int)=Lib.decDigits m:=by unfold Lib.itoa;rw[if_neg (by omega)];rfl
 obtain⟨hD,hne⟩:=uk m;rw[hi];obtain⟨c,t,hs⟩:∃c t,Lib.decDigits m=c::t:=by
  cases hd:Lib.decDigits m with
  |nil=>exact absurd hd hne
  |cons c t=>exact⟨c,t,rfl⟩
 have hW:(Lib.decDigits m).all isW=true:=by
  rw[PT] at hD⊢;intro x hx;have:=hD x hx;simp[isW,this]
 have hc:isD c=true:=PT.1 hD c (by rw[hs];simp);refine sw hs hW (fun r hr=>?_) k hr;have hL:¬isL c=true:=by
  intro h;unfold isL at h;unfold isD at hc;simp only[Pw] at h hc;omega
 have hword:aW (c::(t++r))=Lib.decDigits m:=by
  rw[<- List.cons_append,<- hs];exact qO hW hr
 have hnum:num (Lib.decDigits m)=some m:=by
  unfold num;have:¬([48,120]:Str).isPrefixOf (Lib.decDigits m)=true:=by
   intro hp;rw[hs] at hp hD;cases t with
   |nil=>simp[List.isPrefixOf] at hp
   |cons b t=>
    have hb:isD b=true:=PT.1 hD b (by simp);simp only[List.isPrefixOf,Bool.and_true,Ps,beq_iff_eq] at hp;rw[<- hp.2] at hb;exact absurd hb (by decide)
  rw[if_neg this,if_neg hne];exact Me m (by omega)
 unfold iB;rw[if_neg hL,if_pos hc,hword,hnum]
theorem w9{s:Str}(h:az s=true)(k:Int){r:Str}(hr:okR r):aH k (s++r)=jr [(1,k,s,0,())] (aH (k+s.length) r):=by
 unfold az at h;simp only[Ps,Pw,Bool.not_eq_true'] at h;obtain⟨⟨⟨⟨hne,_⟩,hD⟩,hW⟩,_⟩:=h;obtain⟨c,t,hs⟩:∃c t,s=c::t:=by
  cases s with
  |nil=>exact absurd rfl hne
  |cons c t=>exact⟨c,t,rfl⟩
 have hc:isL c=true:=by
  have h1:isW c=true:=PT.1 hW c (by rw[hs];simp);rw[hs] at hD;have h2:isD c=false:=hD;simpa[isW,h2] using h1
 refine sw hs hW (fun r hr=>?_) k hr;have hword:aW (c::(t++r))=s:=by
  rw[<- List.cons_append,<- hs];exact qO hW hr
 unfold iB;rw[if_pos hc,hword]
def bG(s:Str)(b:List Bt):Prop:=∀k:Int,∃ts:List ai,ts.map bare=b/\∀r,okR r->aH k (s++r)=jr ts (aH (k+s.length) r)
theorem bG.sig(c:UInt8)(hc:c∈([40,41,42,43,45]:Str)):∀k:Int,∃ts:List ai,ts.map bare=[(3,[c],0)]/\∀r,aH k ([c]++r)=jr ts (aH (k+([c]:Str).length) r):=fun k=>
 ⟨[(3,k,[c],0,())],rfl,fun r=>mF c hc k r⟩
theorem bG.brk{s:Str}{b:List Bt}(h:bG s b):bG (40::(s++[41])) (tLp::(b++[tRp])):=fun k=>by
 obtain⟨ts,h1,h2⟩:=h (k+1);refine⟨[(3,k,[40],0,())]++ts++[(3,k+1+s.length,[41],0,())],?_,fun r hr=>?_⟩;·rw[P9,P9,h1];rfl
 ·have e:(40::(s++[41]))++r=40::(s++(41::r)):=by simp
  rw[e,mF 40 (by simp),h2 _ (.inr ⟨41,r,rfl,by decide⟩),mF 41 (by simp),<- gL,<- gL];congr 2;simp;omega
theorem bG.brkT{s:Str}{b:List Bt}(h:bG s b)(x:Bool):bG (Rv.brkT x s) (Rv.brk x b):=by
 unfold Rv.brkT Rv.brk;cases x with
 |false=>exact h
 |true=>exact h.brk
theorem iW:∀t:Tr,t.ok->bG t.txt t.toks
 | .num n,h=>fun k=>⟨_,rfl,fun r hr=>J4 n h k hr⟩
 | .nam s,h=>fun k=>⟨_,rfl,fun r hr=>w9 h k hr⟩
 | .neg x,h=>fun k=>by
  obtain⟨ts,h1,h2⟩:=(iW x h).brkT (decide (x.tight<2)) (k+1);refine⟨[(3,k,[45],0,())]++ts,?_,fun r hr=>?_⟩;·rw[P9,h1];rfl
  ·show aH k (45::(Rv.brkT (decide (x.tight<2)) x.txt++r))=_;rw[mF 45 (by simp),h2 r hr,<- gL];congr 2;simp[Tr.txt];omega
 | .br x,h=>(iW x h).brk
 | .bin o a b,h=>fun k=>by
  obtain⟨t1,h1,h2⟩:=(iW a h.1).brkT (decide (a.tight<o.tight)) k;obtain⟨t2,h3,h4⟩:=(iW b h.2).brkT (decide (b.tight<o.tight+1)) (k+(Rv.brkT (decide (a.tight<o.tight)) a.txt).length+3);refine⟨t1++[(3,k+(Rv.brkT (decide (a.tight<o.tight)) a.txt).length+1,[o.byte],0,())]++t2,?_,fun r hr=>?_⟩;·rw[P9,P9,h1,h3,Pz];rfl
  ·have e:(Tr.bin o a b).txt++r=Rv.brkT (decide (a.tight<o.tight)) a.txt++(32::o.byte::32::(Rv.brkT (decide (b.tight<o.tight+1)) b.txt++r)):=by simp[Tr.txt]
   rw[e,h2 _ (.inr ⟨32,_,rfl,by decide⟩),qf,mF o.byte (by cases o<;>simp[Opr.byte]),qf];rw[show k+((Rv.brkT (decide (a.tight<o.tight)) a.txt).length:Int)+1+1+1=k+(Rv.brkT (decide (a.tight<o.tight)) a.txt).length+3 by omega,h4 r hr,<- gL,<- gL];congr 2;simp[Tr.txt];omega
theorem iD(b:Bool)(s:Str):(brkT b s).length<=s.length+2:=by unfold brkT;split<;>simp
theorem gu:∀t:Tr,t.ok->t.plain->t.txt.length<=20*t.post.length
 | .num n,h,_=>by
  obtain⟨m,rfl⟩:∃m:Nat,n=m:=⟨n.toNat,by have:=h.1;omega⟩
  have hi:Lib.itoa (m:Int)=Lib.decDigits m:=by unfold Lib.itoa;rw[if_neg (by omega)];rfl
  have:=DF 9 m (by have h2:=h.2;omega);show(Lib.itoa (m:Int)).length<=20*1;rw[hi];omega
 | .nam s,h,_=>by
  have h:az s=true:=h;unfold az at h;simp only[Ps,Pw] at h;have:=h.1.1.1.2;show s.length<=20*1;omega
 | .neg x,h,hp=>by
  have h1:=gu x h hp;have h2:=iD (decide (x.tight<2)) x.txt;simp[Tr.txt,Tr.post];omega
 | .br x,_,hp=>hp.elim
 | .bin o a b,h,hp=>by
  have h1:=gu a h.1 hp.1;have h2:=gu b h.2 hp.2;have h3:=iD (decide (a.tight<o.tight)) a.txt;have h4:=iD (decide (b.tight<o.tight+1)) b.txt;simp[Tr.txt,Tr.post];omega
end Rv
