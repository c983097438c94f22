/- Texts put together. -/
import Derived.Test.YtfhnodllolpjgaaGreatDoorR1
import Derived.Test.YtfhnodllolpjgaaGreatDoorC6
import Derived.Test.YtfhnodllolpjgaaGreatDoorC1
import Derived.IntWalk
set_option linter.all false
namespace Rv
open Go Go.Proofs
noncomputable section
set_option maxRecDepth 100000
set_option maxHeartbeats 2000000
variable {ad:LQ}
abbrev u0:Ty:=.pair (.int .i64) (.pair (.int .i64) (.pair .str (.pair (.int .u32) .nil)))
abbrev u1:Ty:=.pair (.int .i64) (.pair (.int .u32) (.pair .str .nil))
abbrev u2:Ty:=.pair .str (.pair (.pair (.int .i64) (.pair (.int .i64) (.pair (.int .i64) (.pair (.int .i64) (.pair (.int .i64) (.pair .bool (.pair (.sl (.pair (.int .i64) (.pair (.int .u32) (.pair .str .nil)))) (.pair .str .nil)))))))) .nil)
abbrev u3:Ty:=.pair .str (.pair (.int .i64) .nil)
abbrev u4:Ty:=.pair (.int .u32) (.pair (.int .i64) .nil)
abbrev u5:Ty:=.pair (.int .i64) (.pair (.int .i64) (.pair (.int .i64) .nil))
abbrev u6:Ty:=.pair (.sl (.int .u32)) (.pair (.sl (.int .i64)) (.pair (.sl (.pair .str (.pair (.int .i64) .nil))) .nil))
abbrev u7:Ty:=.pair (.int .i64) (.pair (.int .i64) (.pair (.int .i64) (.pair (.int .i64) (.pair (.int .i64) (.pair .bool (.pair (.sl (.pair (.int .i64) (.pair (.int .u32) (.pair .str .nil)))) (.pair .str .nil)))))))
abbrev u8:Ty:=.pair (.pair (.int .i64) (.pair (.int .i64) (.pair (.int .i64) (.pair (.int .i64) (.pair (.int .i64) (.pair .bool (.pair (.sl (.pair (.int .i64) (.pair (.int .u32) (.pair .str .nil)))) (.pair .str .nil)))))))) (.pair (.pair (.int .i64) (.pair (.int .i64) (.pair (.int .i64) (.pair (.int .i64) (.pair (.int .i64) (.pair .bool (.pair (.sl (.pair (.int .i64) (.pair (.int .u32) (.pair .str .nil)))) (.pair .str .nil)))))))) (.pair (.pair (.int .i64) (.pair (.int .i64) (.pair (.int .i64) (.pair (.int .i64) (.pair (.int .i64) (.pair .bool (.pair (.sl (.pair (.int .i64) (.pair (.int .u32) (.pair .str .nil)))) (.pair .str .nil)))))))) (.pair (.pair (.int .i64) (.pair (.int .i64) (.pair (.int .i64) (.pair (.int .i64) (.pair (.int .i64) (.pair .bool (.pair (.sl (.pair (.int .i64) (.pair (.int .u32) (.pair .str .nil)))) (.pair .str .nil)))))))) (.pair (.pair (.int .i64) (.pair (.int .i64) (.pair (.int .i64) (.pair (.int .i64) (.pair (.int .i64) (.pair .bool (.pair (.sl (.pair (.int .i64) (.pair (.int .u32) (.pair .str .nil)))) (.pair .str .nil)))))))) (.pair (.pair (.int .i64) (.pair (.int .i64) (.pair (.int .i64) (.pair (.int .i64) (.pair (.int .i64) (.pair .bool (.pair (.sl (.pair (.int .i64) (.pair (.int .u32) (.pair .str .nil)))) (.pair .str .nil)))))))) (.pair (.pair (.int .i64) (.pair (.int .i64) (.pair (.int .i64) (.pair (.int .i64) (.pair (.int .i64) (.pair .bool (.pair (.sl (.pair (.int .i64) (.pair (.int .u32) (.pair .str .nil)))) (.pair .str .nil)))))))) (.pair (.pair (.int .i64) (.pair (.int .i64) (.pair (.int .i64) (.pair (.int .i64) (.pair (.int .i64) (.pair .bool (.pair (.sl (.pair (.int .i64) (.pair (.int .u32) (.pair .str .nil)))) (.pair .str .nil)))))))) .nil)))))))
abbrev u9:Ty:=.pair (.int .i64) (.pair (.int .i64) (.pair (.int .i64) (.pair (.int .i64) (.pair (.int .i64) (.pair (.int .i64) (.pair (.int .i64) (.pair (.int .i64) .nil)))))))
abbrev u10:Ty:=.pair (.sl (.int .i64)) (.pair (.sl (.pair .str (.pair (.int .i64) .nil))) (.pair (.sl (.pair (.int .u32) (.pair (.int .i64) .nil))) (.pair (.int .i64) (.pair (.int .i64) .nil))))
abbrev u11:Ty:=.pair (.pair (.sl (.int .i64)) (.pair (.sl (.pair .str (.pair (.int .i64) .nil))) (.pair (.sl (.pair (.int .u32) (.pair (.int .i64) .nil))) (.pair (.int .i64) (.pair (.int .i64) .nil))))) (.pair (.pair (.sl (.int .u32)) (.pair (.sl (.int .i64)) (.pair (.sl (.pair .str (.pair (.int .i64) .nil))) .nil))) .nil)
abbrev u12:Ty:=.pair (.int .i64) (.pair (.int .i64) (.pair (.int .i64) (.pair (.int .i64) (.pair (.int .i64) (.pair (.int .i64) (.pair .bool .nil))))))
abbrev u13:Ty:=.pair .fn (.pair .fn .nil)
abbrev u14:Ty:=.pair (.int .i64) (.pair (.int .i64) .nil)
abbrev u15:Ty:=.pair (.sl (.pair (.int .i64) (.pair (.int .i64) (.pair .str (.pair (.int .u32) .nil))))) (.pair (.int .i64) (.pair (.int .i64) .nil))
abbrev u16:Ty:=.pair (.sl (.pair (.int .i64) (.pair (.int .i64) (.pair .str (.pair (.int .u32) .nil))))) (.pair (.int .i64) (.pair (.sl (.pair (.int .i64) (.pair (.int .u32) (.pair .str .nil)))) (.pair (.int .i64) .nil)))
abbrev c0:List CD:=[ki,ki,ki,ki,ki,.bool,.sl u1,.str]
abbrev c1:List CD:=[.sl u0,ki,.row 44 u1,ki]
abbrev c2:List CD:=[.str,ki,ki,ki,ki,ki,.bool,.sl u1,.str]
abbrev c3:List CD:=[.row 3 (.int .i64),.row 75 u3,.sl u4,ki,ki]
abbrev c4:List CD:=[.sl (.int .i64),.sl u3,.sl u4,ki,ki,.row 42 (.int .u32),.row 3 (.int .i64),.row 75 u3]
abbrev c5:List CD:=[ki,ki,ki,ki,ki,ki,.bool]
abbrev c6:List CD:=[.row 42 (.int .u32),.row 3 (.int .i64),.row 75 u3]
abbrev c7:List CD:=[.sl (.int .i64),.sl u3,.sl u4,ki,ki]
abbrev c8:List CD:=[ki,ki,ki,ki,ki,ki,ki,ki]
def types:List (TypeId×TI):=[
 tI 2 .i64 8,
 tI 3 .i64 8,
 tB 4 1,
 tI 5 .u8 1,
 tS 9 16,
 tI 21 .i32 4,
 tL 22 41 u2,
 tL 24 42 (.int .u32),
 tL 25 3 (.int .i64),
 tL 26 75 u3,
 (28,⟨3,true,72,[.nilS,.nilS,.nilS],[(0,1,false),(1,1,false),(2,1,false)],none,some u6,none,false,false,false,none,none⟩),
 tI 29 .i64 8,
 tL 37 44 u1,
 (39,⟨8,true,88,[.int .i64 0,.int .i64 0,.int .i64 0,.int .i64 0,.int .i64 0,.bool false,.nilS,.str []],[(0,1,false),(1,1,false),(2,1,false),(3,1,false),(4,1,false),(5,1,false),(6,1,false),(7,1,false)],none,some u7,none,false,false,false,none,none⟩),
 (41,⟨9,true,104,[.str [],.int .i64 0,.int .i64 0,.int .i64 0,.int .i64 0,.int .i64 0,.bool false,.nilS,.str []],[(0,1,false),(1,8,true)],none,some u2,none,false,false,false,none,none⟩),
 tI 42 .u32 4,
 (44,⟨3,true,32,[.int .i64 0,.int .u32 0,.str []],[(0,1,false),(1,1,false),(2,1,false)],none,some u1,none,false,false,false,none,none⟩),
 (45,⟨64,true,704,[.int .i64 0,.int .i64 0,.int .i64 0,.int .i64 0,.int .i64 0,.bool false,.nilS,.str [],.int .i64 0,.int .i64 0,.int .i64 0,.int .i64 0,.int .i64 0,.bool false,.nilS,.str [],.int .i64 0,.int .i64 0,.int .i64 0,.int .i64 0,.int .i64 0,.bool false,.nilS,.str [],.int .i64 0,.int .i64 0,.int .i64 0,.int .i64 0,.int .i64 0,.bool false,.nilS,.str [],.int .i64 0,.int .i64 0,.int .i64 0,.int .i64 0,.int .i64 0,.bool false,.nilS,.str [],.int .i64 0,.int .i64 0,.int .i64 0,.int .i64 0,.int .i64 0,.bool false,.nilS,.str [],.int .i64 0,.int .i64 0,.int .i64 0,.int .i64 0,.int .i64 0,.bool false,.nilS,.str [],.int .i64 0,.int .i64 0,.int .i64 0,.int .i64 0,.int .i64 0,.bool false,.nilS,.str []],[],none,some u8,none,false,false,false,none,some 8⟩),
 (46,⟨8,true,64,[.int .i64 0,.int .i64 0,.int .i64 0,.int .i64 0,.int .i64 0,.int .i64 0,.int .i64 0,.int .i64 0],[],none,some u9,none,false,false,false,none,some 8⟩),
 tL 53 5 (.int .u8),
 tL 60 70 u4,
 (62,⟨5,true,88,[.nilS,.nilS,.nilS,.int .i64 0,.int .i64 0],[(0,1,false),(1,1,false),(2,1,false),(3,1,false),(4,1,false)],none,some u10,none,false,false,false,none,none⟩),
 (65,⟨1,false,8,[.raw (.pointer none)],[],none,none,none,false,false,false,none,none⟩),
 (67,⟨8,true,160,[.nilS,.nilS,.nilS,.int .i64 0,.int .i64 0,.nilS,.nilS,.nilS],[(0,5,true),(5,3,true)],none,some u11,none,false,false,false,none,none⟩),
 (70,⟨2,true,16,[.int .u32 0,.int .i64 0],[(0,1,false),(1,1,false)],none,some u4,none,false,false,false,some u4,none⟩),
 (75,⟨2,true,24,[.str [],.int .i64 0],[(0,1,false),(1,1,false)],none,some u3,none,false,false,false,none,none⟩),
 tL 81 9 .str,
 tL 106 167 u0,
 (112,⟨1,false,8,[.raw .nilFunc],[],none,some .fn,none,false,false,false,none,none⟩),
 tL 117 112 .fn,
 (121,⟨7,true,56,[.int .i64 0,.int .i64 0,.int .i64 0,.int .i64 0,.int .i64 0,.int .i64 0,.bool false],[(0,1,false),(1,1,false),(2,1,false),(3,1,false),(4,1,false),(5,1,false),(6,1,false)],none,some u12,none,false,false,false,some u12,none⟩),
 tL 142 147 u13,
 (144,⟨1,false,8,[.raw .nilFunc],[],none,some .fn,none,false,false,false,none,none⟩),
 (147,⟨2,true,16,[.raw .nilFunc,.raw .nilFunc],[(0,1,false),(1,1,false)],none,some u13,none,false,false,false,none,none⟩),
 (153,⟨1,false,16,[.raw .nilIface],[],none,none,none,false,true,false,none,none⟩),
 tI 158 .u64 8,
 (167,⟨4,true,40,[.int .i64 0,.int .i64 0,.str [],.int .u32 0],[(0,1,false),(1,1,false),(2,1,false),(3,1,false)],none,some u0,none,false,false,false,none,none⟩),
 tL 177 70 u4,
 (185,⟨2,true,16,[.int .i64 0,.int .i64 0],[],none,some u14,none,false,false,false,none,some 2⟩),
 (192,⟨3,true,40,[.nilS,.int .i64 0,.int .i64 0],[(0,1,false),(1,1,false),(2,1,false)],none,some u15,none,false,false,false,none,none⟩),
 (203,⟨1,false,8,[.raw .nilFunc],[],none,some .fn,none,false,false,false,none,none⟩),
 tI 229 .u64 8,
 (243,⟨3,true,24,[.int .i64 0,.int .i64 0,.int .i64 0],[],none,some u5,none,false,false,false,none,some 3⟩),
 (253,⟨1,false,8,[.raw (.pointer none)],[],none,none,none,false,false,false,none,none⟩),
 (255,⟨4,true,64,[.nilS,.int .i64 0,.nilS,.int .i64 0],[(0,1,false),(1,1,false),(2,1,false),(3,1,false)],none,some u16,none,false,false,false,none,none⟩),
 tL 266 243 u5,
 tI 273 .i64 8]
theorem types_ok:(types.all fun p=>checkTI P p.1 p.2)=true:=by kernel_rfl
def internal_strconv_underscoreOK.T (ad:LQ):TF P (LW ad):=⟨242,[],internal_strconv_underscoreOK.sp,internal_strconv_underscoreOK.sat,internal_strconv_underscoreOK.enter⟩
def strconv_toError.T (ad:LQ):TF P (LW ad):=⟨218,[],strconv_toError.sp,strconv_toError.sat,strconv_toError.enter⟩
def strings_CutPrefix.T (ad:LQ):TF P (LW ad):=⟨181,[],strings_CutPrefix.sp,strings_CutPrefix.sat,strings_CutPrefix.enter⟩
def strings_Contains.T (ad:LQ):TF P (LW ad):=⟨182,[],strings_Contains.sp,strings_Contains.sat,strings_Contains.enter⟩
def strings_IndexByte.T (ad:LQ):TF P (LW ad):=⟨138,[],strings_IndexByte.sp,strings_IndexByte.sat,strings_IndexByte.enter⟩
def strings_Trim.T (ad:LQ):TF P (LW ad):=⟨106,[],strings_Trim.sp,strings_Trim.sat,strings_Trim.enter⟩
def strconv_Itoa.T (ad:LQ):TF P (LW ad):=⟨187,[],strconv_Itoa.sp,strconv_Itoa.sat,strconv_Itoa.enter⟩
def name_Of.T (ad:LQ):TF P (LW ad):=⟨140,[],name_Of.sp,name_Of.sat,name_Of.enter⟩
def stmt_operands.T (ad:LQ):TF P (LW ad):=⟨97,[],stmt_operands.sp,stmt_operands.sat,stmt_operands.enter⟩
def strings_Split.T (ad:LQ):TF P (LW ad):=⟨36,[],strings_Split.sp,strings_Split.sat,strings_Split.enter⟩
def strings_Compare.T (ad:LQ):TF P (LW ad):=⟨125,[],strings_Compare.sp,strings_Compare.sat,strings_Compare.enter⟩
def slices_Insert_api_Sym_api_Sym.T (ad:LQ):TF P (LW ad):=⟨126,[],slices_Insert_api_Sym_api_Sym.sp,slices_Insert_api_Sym_api_Sym.sat,slices_Insert_api_Sym_api_Sym.enter⟩
def mkF (ad:LQ):=@mkT P (LW ad) types mixed types_ok maps maps_ok
def mkFa (ad:LQ):=@mkTa P (LW ad) types mixed types_ok maps maps_ok
namespace Zcd
def sp:Spec:=mkSp ⟨[(0,Sb)],[]⟩ ⟨[(0,SB)],[]⟩ g
noncomputable def T (ad:LQ):=mkF ad 134 [] sp [] t0 t0 t0 21 [] f (fun a=>1000+a.toNat) (by kernel_rfl)
end Zcd
namespace Zcq
def sp:Spec:=mkSp ⟨[(0,Sb)],[]⟩ ⟨[(0,SB)],[]⟩ g
noncomputable def T (ad:LQ):=mkF ad 136 [] sp [] t0 t0 t0 9 [] f (fun a=>1000+a.toNat) (by kernel_rfl)
end Zcq
namespace Zbe
def sp:Spec:=mkSp ⟨[(0,Ss)],[]⟩ ⟨[(0,Ss)],[]⟩ g
noncomputable def T (ad:LQ):=mkF ad 135 [] sp [Zcd.T ad,Zcq.T ad] (fun n=>tj 3 ⟨[(0,Ss),(3,Si)],[]⟩ (fun ms=>j3 n (l2 n ms.head!)) <| tj 4 ⟨[(0,Ss),(3,Si)],[]⟩ (fun _=>j4 n) <| tn) (fun n=>tl 2 ⟨[(0,Ss),(3,Si)],[]⟩ (fun _=>l2 n) <| tn) t0 25 [] f (fun a=>1000+a.length) (by kernel_rfl)
end Zbe
namespace Zak
def sp:Spec:=mkSp ⟨[(0,Sb)],[]⟩ ⟨[(0,Sb)],[]⟩ g
noncomputable def T (ad:LQ):=mkF ad 241 [] sp [] t0 t0 t0 5 [] f (fun a=>1000+a.toNat) (by kernel_rfl)
end Zak
namespace Zab
def sp:Spec:=mkSp ⟨[(0,Ss),(1,Si),(2,Si)],[]⟩ ⟨[(0,.c kq),(1,.c (.ifo 273 .i64))],[]⟩ g
noncomputable def T (ad:LQ):=mkF ad 217 [] sp [Zak.T ad,internal_strconv_underscoreOK.T ad] (fun n=>tj 55 ⟨[(1,Si),(8,SB),(9,Ss),(10,.c kq),(11,.c kq),(12,SB),(13,.c kq),(99,.c (.sl (.int .u8))),(100,Si),(101,Si)],[]⟩ (fun ms=>j55 n (l36 n ms.head!)) <| tj 46 ⟨[(1,Si),(8,SB),(9,Ss),(10,.c kq),(11,.c kq),(12,SB),(13,.c kq),(16,Sb),(99,.c (.sl (.int .u8))),(100,Si),(101,Si)],[]⟩ (fun ms=>j46 n (l36 n ms.head!)) <| tj 32 ⟨[(0,Ss),(1,Si),(2,Si),(8,SB),(9,Ss),(10,.c kq)],[]⟩ (fun _=>j32 n) <| tj 25 ⟨[(0,Ss),(1,Si),(2,Si),(8,SB),(9,Ss)],[]⟩ (fun _=>j25 n) <| tj 21 ⟨[(0,Ss),(1,Si),(2,Si),(8,SB),(9,Ss)],[]⟩ (fun _=>j21 n) <| tj 17 ⟨[(0,Ss),(1,Si),(2,Si),(8,SB),(9,Ss)],[]⟩ (fun _=>j17 n) <| tj 20 ⟨[(0,Ss),(1,Si),(2,Si),(8,SB),(9,Ss)],[]⟩ (fun _=>j20 n) <| tj 11 ⟨[(0,Ss),(1,Si),(2,Si),(8,SB),(9,Ss)],[]⟩ (fun _=>j11 n) <| tj 9 ⟨[(0,Ss),(1,Si),(2,Si),(8,SB),(9,Ss)],[]⟩ (fun _=>j9 n) <| tn) (fun n=>tl 36 ⟨[(1,Si),(8,SB),(9,Ss),(10,.c kq),(11,.c kq),(12,SB),(13,.c kq),(99,.c (.sl (.int .u8))),(100,Si),(101,Si)],[]⟩ (fun _=>l36 n) <| tn) t0 172 [] f (fun a b c=>1000+a.length+b.toNat+c.toNat) (by kernel_rfl)
end Zab
namespace Zde
def sp:Spec:=mkSp ⟨[(0,Ss),(1,Si),(2,Si)],[]⟩ ⟨[(0,.c kq),(1,Se)],[]⟩ g
noncomputable def T (ad:LQ):=mkF ad 183 [] sp [Zab.T ad,strconv_toError.T ad] t0 t0 t0 26 [] f (fun a b c=>1000+a.length+b.toNat+c.toNat) (by kernel_rfl)
end Zde
namespace Zcr
def sp:Spec:=mkSp ⟨[(0,Ss)],[]⟩ ⟨[(0,Su),(1,SB)],[]⟩ g
noncomputable def T (ad:LQ):=mkF ad 137 [] sp [strings_CutPrefix.T ad,strings_Contains.T ad,Zde.T ad] (fun n=>tj 5 ⟨[(0,Ss),(4,Si)],[]⟩ (fun _=>j5 n) <| tn) t0 t0 28 [] f (fun a=>1000+a.length) (by kernel_rfl)
end Zcr
namespace Zan
def sp:Spec:=mkSp ⟨[(0,Ss)],[]⟩ ⟨[(0,.c (.row 167 u0)),(1,Si)],[]⟩ g
noncomputable def T (ad:LQ):=mkF ad 90 [] sp [Zcd.T ad,Zbe.T ad,Zcq.T ad,Zcr.T ad,strings_IndexByte.T ad] (fun n=>tj 23 ⟨[(0,Ss),(4,.c (.row 167 u0)),(5,Si),(6,Sp 0 0)],[(some 3,[ki,ki,.str,ku])]⟩ (fun ms=>j23 n (g0 n ms.head!)) <| tn) t0 (fun n=>tl 0 ⟨[(0,Ss),(4,.c (.row 167 u0)),(5,Si)],[]⟩ (fun _=>g0 n) <| tn) 108 [] f (fun a=>1000+a.length) (by kernel_rfl)
end Zan
namespace Zad
def sp:Spec:=mkSp ⟨[(0,Ss)],[]⟩ ⟨[(0,SB)],[]⟩ g
noncomputable def T (ad:LQ):=mkF ad 92 [] sp [strings_Trim.T ad] (fun n=>tj 9 ⟨[(0,Ss),(24,Si),(25,Si)],[]⟩ (fun ms=>j9 n (l4 n ms.head!)) <| tj 3 ⟨[(0,Ss)],[]⟩ (fun _=>j3 n) <| tn) (fun n=>tl 4 ⟨[(0,Ss),(24,Si),(25,Si)],[]⟩ (fun _=>l4 n) <| tn) t0 84 [] f (fun a=>1000+a.length) (by kernel_rfl)
end Zad
namespace Zau
def sp:Spec:=mkSp ⟨[(0,Sp 0 0),(1,SB)],[(some 0,[.sl u0,ki,ki])]⟩ ⟨[],[(none,[.sl u0,ki,ki])]⟩ g
noncomputable def T (ad:LQ):=mkF ad 139 [] sp [] t0 t0 t0 16 [] f (fun _ b c d=>1000+b.length+c.toNat+d.toNat) (by kernel_rfl)
end Zau
namespace Zdh
def sp:Spec:=mkSp ⟨[(0,Si)],[]⟩ ⟨[(0,SB)],[]⟩ g
noncomputable def T (ad:LQ):=mkF ad 96 [] sp [] t0 t0 t0 9 [] f (fun a=>1000+a.toNat) (by kernel_rfl)
end Zdh
namespace Zcv
def sp:Spec:=mkSp ⟨[(0,Sp 0 0),(1,Si)],[(some 0,[.sl u0,ki,ki])]⟩ ⟨[(0,Ss)],[(none,[.sl u0,ki,ki])]⟩ g
noncomputable def T (ad:LQ):=mkF ad 185 [] sp [] t0 t0 t0 48 [] f (fun a b c d=>1000+a.toNat+b.length+c.toNat+d.toNat) (by kernel_rfl)
end Zcv
namespace Zbr
def sp:Spec:=mkSp ⟨[(0,Sp 0 0),(1,Si)],[(some 0,[.sl u0,ki,ki])]⟩ ⟨[(0,Ss)],[(none,[.sl u0,ki,ki])]⟩ g
noncomputable def T (ad:LQ):=mkF ad 141 [] sp [Zcv.T ad] t0 t0 t0 17 [] f (fun a b c d=>1000+a.toNat+b.length+c.toNat+d.toNat) (by kernel_rfl)
end Zbr
namespace Zax
def sp:Spec:=mkSp ⟨[(0,Ss),(1,Si),(2,Si)],[]⟩ ⟨[(0,Si),(1,.c (.ifo 273 .i64))],[]⟩ g
noncomputable def T (ad:LQ):=mkF ad 266 [] sp [Zab.T ad] (fun n=>tj 21 ⟨[(8,SB),(9,.c kq)],[]⟩ (fun _=>j21 n) <| tj 19 ⟨[(8,SB),(9,.c kq),(10,.c kq)],[]⟩ (fun _=>j19 n) <| tj 16 ⟨[(2,Si),(8,SB),(9,.c kq)],[]⟩ (fun _=>j16 n) <| tj 14 ⟨[(2,Si),(8,SB),(9,.c kq)],[]⟩ (fun _=>j14 n) <| tj 10 ⟨[(0,Ss),(1,Si),(2,Si),(8,SB)],[]⟩ (fun _=>j10 n) <| tn) t0 t0 73 [] f (fun a b c=>1000+a.length+b.toNat+c.toNat) (by kernel_rfl)
end Zax
namespace Zbh
def sp:Spec:=mkSp ⟨[(0,Ss)],[]⟩ ⟨[(0,Si),(1,.c (.ifo 273 .i64))],[]⟩ g
noncomputable def T (ad:LQ):=mkF ad 247 [] sp [Zax.T ad] (fun n=>tj 8 ⟨[(0,Ss),(5,Ss)],[]⟩ (fun _=>j8 n) <| tj 6 ⟨[(0,Ss),(5,Ss)],[]⟩ (fun _=>j6 n) <| tj 20 ⟨[(0,Ss)],[]⟩ (fun _=>j20 n) <| tn) (fun n=>tl 10 ⟨[(5,Ss),(6,Si),(47,.c (.sl (.int .u8))),(48,Si),(49,Si)],[]⟩ (fun _=>l10 n) <| tn) t0 77 [] f (fun a=>1000+a.length) (by kernel_rfl)
end Zbh
namespace Zdf
def sp:Spec:=mkSp ⟨[(0,Ss)],[]⟩ ⟨[(0,Si),(1,Se)],[]⟩ g
noncomputable def T (ad:LQ):=mkF ad 220 [] sp [Zbh.T ad,strconv_toError.T ad] t0 t0 t0 18 [] f (fun a=>1000+a.length) (by kernel_rfl)
end Zdf
namespace Zdg
def sp:Spec:=mkSp ⟨[(0,Si)],[]⟩ ⟨[(0,Ss)],[]⟩ g
noncomputable def T (ad:LQ):=mkF ad 144 [] sp [strconv_Itoa.T ad] t0 t0 t0 12 [] f (fun a=>1000+a.toNat) (by kernel_rfl)
end Zdg
namespace Zcs
def sp:Spec:=mkSp ⟨[(0,Ss)],[]⟩ ⟨[(0,Si),(1,SB)],[]⟩ g
noncomputable def T (ad:LQ):=mkF ad 186 [] sp [strings_CutPrefix.T ad,Zdf.T ad,Zdg.T ad] t0 t0 t0 31 [] f (fun a=>1000+a.length) (by kernel_rfl)
end Zcs
namespace Zdi
def sp:Spec:=mkSp ⟨[(0,Sp 0 0),(1,Sp 1 0)],[(some 0,[.sl u0,ki,ki]),(some 1,c0)]⟩ ⟨[],[(none,[.sl u0,ki,ki]),(none,c0)]⟩ g
noncomputable def T (ad:LQ):=mkF ad 142 [] sp [Zcv.T ad,Zcs.T ad] t0 t0 t0 50 [] f (fun a b c d e i j k _ o p=>1000+a.length+b.toNat+c.toNat+d.toNat+e.toNat+i.toNat+j.toNat+k.toNat+o.length+p.length) (by kernel_rfl)
end Zdi
namespace Zdj
def sp:Spec:=mkSp ⟨[(0,Sp 0 0)],[(some 0,c0)]⟩ ⟨[(0,Sp 0 2)],[(none,c0)]⟩ g
noncomputable def T (ad:LQ):=mkF ad 148 [] sp [] t0 t0 t0 6 [] f (fun a b c d e _ j k=>1000+a.toNat+b.toNat+c.toNat+d.toNat+e.toNat+j.length+k.length) (by kernel_rfl)
end Zdj
namespace Zdk
def sp:Spec:=mkSp ⟨[(0,Sp 0 0)],[(some 0,c0)]⟩ ⟨[(0,Sp 0 3)],[(none,c0)]⟩ g
noncomputable def T (ad:LQ):=mkF ad 149 [] sp [] t0 t0 t0 6 [] f (fun a b c d e _ j k=>1000+a.toNat+b.toNat+c.toNat+d.toNat+e.toNat+j.length+k.length) (by kernel_rfl)
end Zdk
namespace Zdl
def sp:Spec:=mkSp ⟨[(0,Sp 0 0)],[(some 0,c0)]⟩ ⟨[(0,Sp 0 4)],[(none,c0)]⟩ g
noncomputable def T (ad:LQ):=mkF ad 150 [] sp [] t0 t0 t0 6 [] f (fun a b c d e _ j k=>1000+a.toNat+b.toNat+c.toNat+d.toNat+e.toNat+j.length+k.length) (by kernel_rfl)
end Zdl
namespace Zcw
def sp:Spec:=mkSp ⟨[(0,Sp 0 0),(1,Sp 1 0),(2,.c (.pp .fn))],[(some 0,[.sl u0,ki,ki]),(some 1,c0)]⟩ ⟨[],[(none,[.sl u0,ki,ki]),(none,c0)]⟩ g
noncomputable def T (ad:LQ):=mkF ad 193 [] sp [Zbr.T ad,Zcs.T ad,Zau.T ad,Zdj.T ad,Zdk.T ad,Zdl.T ad] t0 t0 t0 21 [K.atA,K.atB,K.atC] f (fun _ b c d e i j k l _ p q=>1000+b.length+c.toNat+d.toNat+e.toNat+i.toNat+j.toNat+k.toNat+l.toNat+p.length+q.length) (by kernel_rfl)
end Zcw
namespace Zbi
def sp:Spec:=mkSp ⟨[(0,Sp 0 0),(1,Si)],[(some 0,c1)]⟩ ⟨[],[(none,c1)]⟩ g
noncomputable def T (ad:LQ):=mkF ad 275 [] sp [] t0 t0 t0 13 [] f (fun a b c d e=>1000+a.toNat+b.length+c.toNat+d.length+e.toNat) (by kernel_rfl)
end Zbi
namespace Zce
def sp:Spec:=mkSp ⟨[(0,Sp 0 0)],[(some 0,c1)]⟩ ⟨[(0,.agg [ki,ki,.str,ku]),(1,SB)],[(none,c1)]⟩ g
noncomputable def T (ad:LQ):=mkF ad 276 [] sp [] t0 t0 t0 39 [] f (fun a b c d=>1000+a.length+b.toNat+c.length+d.toNat) (by kernel_rfl)
end Zce
namespace Zao
def sp:Spec:=mkSp ⟨[(0,Sp 0 0),(1,.c (.sl .str))],[(some 0,c1)]⟩ ⟨[(0,Ss),(1,SB)],[(none,c1)]⟩ g
noncomputable def T (ad:LQ):=mkF ad 273 [] sp [Zce.T ad] (fun n=>tj 8 ⟨[(0,Sp 0 0),(6,Sp 1 0),(7,SB),(15,.c (.sl .str)),(16,Si),(17,Si)],[(none,c1),(some 1,[ki,ki,.str,ku])]⟩ (fun ms=>j8 n (l3 n ms.head!)) <| tn) (fun n=>tl 3 ⟨[(0,Sp 0 0),(6,Sp 1 0),(7,SB),(15,.c (.sl .str)),(16,Si),(17,Si)],[(none,c1),(some 1,[ki,ki,.str,ku])]⟩ (fun _=>l3 n) <| tn) t0 42 [] f (fun a b c d e=>1000+a.length+b.length+c.toNat+d.length+e.toNat) (by kernel_rfl)
end Zao
namespace Zbb
def sp:Spec:=mkSp ⟨[(0,Sp 0 0),(1,.agg [ki,ku,.str])],[(some 0,c1)]⟩ ⟨[],[(none,c1)]⟩ g
noncomputable def T (ad:LQ):=mkF ad 274 [] sp [] t0 t0 t0 14 [] f (fun a b c d e i j=>1000+a.toNat+b.toNat+c.length+d.length+e.toNat+i.length+j.toNat) (by kernel_rfl)
end Zbb
def expr_parser_sum.spq (q:Nat):Spec:=mkSp ⟨[(0,Sp 0 0),(1,Si)],[(some 0,c1)]⟩ ⟨[],[(none,c1)]⟩ (rec_expr_parser_sum q).expr_parser_sum
def expr_parser_row_c256.spq (q:Nat):Spec:=mkSp ⟨[(0,Sp 0 0),(1,.clo 256 [.ptr 1 0,.ptr 2 0]),(2,.c (.sl .str))],[(some 0,c1),(some 1,[.ptr 0 0]),(some 2,[ki])]⟩ ⟨[],[(none,c1),(none,[.ptr 0 0]),(none,[ki])]⟩ (rec_expr_parser_sum q).expr_parser_row_c256
def expr_parser_sum_1.spq (q:Nat):Spec:=mkSp ⟨[(0,Sp 0 0),(1,Sp 1 0)],[(some 0,[.ptr 2 0]),(some 1,[ki]),(some 2,c1)]⟩ ⟨[],[(none,[.ptr 2 0]),(none,[ki]),(none,c1)]⟩ (rec_expr_parser_sum q).expr_parser_sum_1
def expr_parser_row_c257.spq (q:Nat):Spec:=mkSp ⟨[(0,Sp 0 0),(1,.clo 257 [.ptr 1 0,.ptr 2 0]),(2,.c (.sl .str))],[(some 0,c1),(some 1,[.ptr 0 0]),(some 2,[ki])]⟩ ⟨[],[(none,c1),(none,[.ptr 0 0]),(none,[ki])]⟩ (rec_expr_parser_sum q).expr_parser_row_c257
def expr_parser_sum_1_1.spq (q:Nat):Spec:=mkSp ⟨[(0,Sp 0 0),(1,Sp 1 0)],[(some 0,[.ptr 2 0]),(some 1,[ki]),(some 2,c1)]⟩ ⟨[],[(none,[.ptr 2 0]),(none,[ki]),(none,c1)]⟩ (rec_expr_parser_sum q).expr_parser_sum_1_1
def expr_parser_factor.spq (q:Nat):Spec:=mkSp ⟨[(0,Sp 0 0),(1,Si)],[(some 0,c1)]⟩ ⟨[],[(none,c1)]⟩ (rec_expr_parser_sum q).expr_parser_factor
namespace expr_parser_sum
theorem step (q:Nat) (ih:Sat P (LW ad) 229 (expr_parser_sum.spq q)∧Sat P (LW ad) 255 (expr_parser_row_c256.spq q)∧Sat P (LW ad) 256 (expr_parser_sum_1.spq q)∧Sat P (LW ad) 255 (expr_parser_row_c257.spq q)∧Sat P (LW ad) 257 (expr_parser_sum_1_1.spq q)∧Sat P (LW ad) 258 (expr_parser_factor.spq q)∧True):Sat P (LW ad) 229 (spq (q+1)):=sat_q mixed types_ok maps_ok 229 (spq (q+1)) [((255,[256]),expr_parser_row_c256.spq q)] (specs_cons ih.2.1 (enter_of (by kernel_rfl)) specs_nil) t0 t0 t0 8 [] (fun n=>f n (rec_expr_parser_sum q)) (fun a b c d e=>1000+a.toNat+b.length+c.toNat+d.length+e.toNat) (by kernel_rfl) (by kernel_rfl)
end expr_parser_sum
namespace expr_parser_row_c256
theorem step (q:Nat) (ih:Sat P (LW ad) 229 (expr_parser_sum.spq q)∧Sat P (LW ad) 255 (expr_parser_row_c256.spq q)∧Sat P (LW ad) 256 (expr_parser_sum_1.spq q)∧Sat P (LW ad) 255 (expr_parser_row_c257.spq q)∧Sat P (LW ad) 257 (expr_parser_sum_1_1.spq q)∧Sat P (LW ad) 258 (expr_parser_factor.spq q)∧True):Sat P (LW ad) 255 (spq (q+1)):=sat_q mixed types_ok maps_ok 255 (spq (q+1)) [((256,[]),expr_parser_sum_1.spq q),(Zao.T ad).kv,(Zbb.T ad).kv] (specs_cons ih.2.2.1 (enter_of (by kernel_rfl)) (specs_T (Zao.T ad) (specs_T (Zbb.T ad) specs_nil))) t0 (fun n=>tl 1 ⟨[(0,Sp 0 0),(1,.clo 256 [.ptr 1 0,.ptr 2 0]),(2,.c (.sl .str))],[(none,c1),(none,[.ptr 0 0]),(none,[ki])]⟩ (fun _=>l1 n (rec_expr_parser_sum q)) <| tn) t0 26 [] (fun n=>f n (rec_expr_parser_sum q)) (fun a b c d e i=>1000+a.length+b.length+c.toNat+d.length+e.toNat+i.toNat) (by kernel_rfl) (by kernel_rfl)
end expr_parser_row_c256
namespace expr_parser_sum_1
theorem step (q:Nat) (ih:Sat P (LW ad) 229 (expr_parser_sum.spq q)∧Sat P (LW ad) 255 (expr_parser_row_c256.spq q)∧Sat P (LW ad) 256 (expr_parser_sum_1.spq q)∧Sat P (LW ad) 255 (expr_parser_row_c257.spq q)∧Sat P (LW ad) 257 (expr_parser_sum_1_1.spq q)∧Sat P (LW ad) 258 (expr_parser_factor.spq q)∧True):Sat P (LW ad) 256 (spq (q+1)):=sat_q mixed types_ok maps_ok 256 (spq (q+1)) [((255,[257]),expr_parser_row_c257.spq q)] (specs_cons ih.2.2.2.1 (enter_of (by kernel_rfl)) specs_nil) t0 t0 t0 6 [] (fun n=>f n (rec_expr_parser_sum q)) (fun a b c d e=>1000+a.toNat+b.length+c.toNat+d.length+e.toNat) (by kernel_rfl) (by kernel_rfl)
end expr_parser_sum_1
namespace expr_parser_row_c257
theorem step (q:Nat) (ih:Sat P (LW ad) 229 (expr_parser_sum.spq q)∧Sat P (LW ad) 255 (expr_parser_row_c256.spq q)∧Sat P (LW ad) 256 (expr_parser_sum_1.spq q)∧Sat P (LW ad) 255 (expr_parser_row_c257.spq q)∧Sat P (LW ad) 257 (expr_parser_sum_1_1.spq q)∧Sat P (LW ad) 258 (expr_parser_factor.spq q)∧True):Sat P (LW ad) 255 (spq (q+1)):=sat_q mixed types_ok maps_ok 255 (spq (q+1)) [((257,[]),expr_parser_sum_1_1.spq q),(Zao.T ad).kv,(Zbb.T ad).kv] (specs_cons ih.2.2.2.2.1 (enter_of (by kernel_rfl)) (specs_T (Zao.T ad) (specs_T (Zbb.T ad) specs_nil))) t0 (fun n=>tl 1 ⟨[(0,Sp 0 0),(1,.clo 257 [.ptr 1 0,.ptr 2 0]),(2,.c (.sl .str))],[(none,c1),(none,[.ptr 0 0]),(none,[ki])]⟩ (fun _=>l1 n (rec_expr_parser_sum q)) <| tn) t0 26 [] (fun n=>f n (rec_expr_parser_sum q)) (fun a b c d e i=>1000+a.length+b.length+c.toNat+d.length+e.toNat+i.toNat) (by kernel_rfl) (by kernel_rfl)
end expr_parser_row_c257
namespace expr_parser_sum_1_1
theorem step (q:Nat) (ih:Sat P (LW ad) 229 (expr_parser_sum.spq q)∧Sat P (LW ad) 255 (expr_parser_row_c256.spq q)∧Sat P (LW ad) 256 (expr_parser_sum_1.spq q)∧Sat P (LW ad) 255 (expr_parser_row_c257.spq q)∧Sat P (LW ad) 257 (expr_parser_sum_1_1.spq q)∧Sat P (LW ad) 258 (expr_parser_factor.spq q)∧True):Sat P (LW ad) 257 (spq (q+1)):=sat_q mixed types_ok maps_ok 257 (spq (q+1)) [((258,[]),expr_parser_factor.spq q)] (specs_cons ih.2.2.2.2.2.1 (enter_of (by kernel_rfl)) specs_nil) t0 t0 t0 5 [] (fun n=>f n (rec_expr_parser_sum q)) (fun a b c d e=>1000+a.toNat+b.length+c.toNat+d.length+e.toNat) (by kernel_rfl) (by kernel_rfl)
end expr_parser_sum_1_1
namespace expr_parser_factor
theorem step (q:Nat) (ih:Sat P (LW ad) 229 (expr_parser_sum.spq q)∧Sat P (LW ad) 255 (expr_parser_row_c256.spq q)∧Sat P (LW ad) 256 (expr_parser_sum_1.spq q)∧Sat P (LW ad) 255 (expr_parser_row_c257.spq q)∧Sat P (LW ad) 257 (expr_parser_sum_1_1.spq q)∧Sat P (LW ad) 258 (expr_parser_factor.spq q)∧True):Sat P (LW ad) 258 (spq (q+1)):=sat_q mixed types_ok maps_ok 258 (spq (q+1)) [(Zbi.T ad).kv,(Zao.T ad).kv,((258,[]),expr_parser_factor.spq q),(Zbb.T ad).kv,((229,[]),expr_parser_sum.spq q),(Zce.T ad).kv,(Zad.T ad).kv] (specs_T (Zbi.T ad) (specs_T (Zao.T ad) (specs_cons ih.2.2.2.2.2.1 (enter_of (by kernel_rfl)) (specs_T (Zbb.T ad) (specs_cons ih.1 (enter_of (by kernel_rfl)) (specs_T (Zce.T ad) (specs_T (Zad.T ad) specs_nil))))))) (fun n=>tj 19 ⟨[(0,Sp 0 0)],[(none,c1)]⟩ (fun _=>j19 n (rec_expr_parser_sum q)) <| tn) t0 t0 94 [] (fun n=>f n (rec_expr_parser_sum q)) (fun a b c d e=>1000+a.toNat+b.length+c.toNat+d.length+e.toNat) (by kernel_rfl) (by kernel_rfl)
end expr_parser_factor
theorem rec_expr_parser_sum_sat:∀ q,Sat P (LW ad) 229 (expr_parser_sum.spq q)∧Sat P (LW ad) 255 (expr_parser_row_c256.spq q)∧Sat P (LW ad) 256 (expr_parser_sum_1.spq q)∧Sat P (LW ad) 255 (expr_parser_row_c257.spq q)∧Sat P (LW ad) 257 (expr_parser_sum_1_1.spq q)∧Sat P (LW ad) 258 (expr_parser_factor.spq q)∧True
 | 0=>⟨sat_none fun _=>rfl,sat_none fun _=>rfl,sat_none fun _=>rfl,sat_none fun _=>rfl,sat_none fun _=>rfl,sat_none fun _=>rfl,trivial⟩
 | q+1=>⟨expr_parser_sum.step q (rec_expr_parser_sum_sat q),expr_parser_row_c256.step q (rec_expr_parser_sum_sat q),expr_parser_sum_1.step q (rec_expr_parser_sum_sat q),expr_parser_row_c257.step q (rec_expr_parser_sum_sat q),expr_parser_sum_1_1.step q (rec_expr_parser_sum_sat q),expr_parser_factor.step q (rec_expr_parser_sum_sat q),trivial⟩
def expr_parser_sum.sp:Spec:=mkSp ⟨[(0,Sp 0 0),(1,Si)],[(some 0,c1)]⟩ ⟨[],[(none,c1)]⟩ expr_parser_sum.g
noncomputable def expr_parser_sum.T (ad:LQ):TF P (LW ad):=⟨229,[],expr_parser_sum.sp,sat_fq (F:=fun q=>(rec_expr_parser_sum q).expr_parser_sum) (fun a b c d e=>1000+a.toNat+b.length+c.toNat+d.length+e.toNat) (fun q=>(rec_expr_parser_sum_sat q).1) (fun _=>by kernel_rfl),enter_of (by kernel_rfl)⟩
def expr_parser_row_c256.sp:Spec:=mkSp ⟨[(0,Sp 0 0),(1,.clo 256 [.ptr 1 0,.ptr 2 0]),(2,.c (.sl .str))],[(some 0,c1),(some 1,[.ptr 0 0]),(some 2,[ki])]⟩ ⟨[],[(none,c1),(none,[.ptr 0 0]),(none,[ki])]⟩ expr_parser_row_c256.g
noncomputable def expr_parser_row_c256.T (ad:LQ):TF P (LW ad):=⟨255,[256],expr_parser_row_c256.sp,sat_fq (F:=fun q=>(rec_expr_parser_sum q).expr_parser_row_c256) (fun a b c d e i=>1000+a.length+b.length+c.toNat+d.length+e.toNat+i.toNat) (fun q=>(rec_expr_parser_sum_sat q).2.1) (fun _=>by kernel_rfl),enter_of (by kernel_rfl)⟩
def expr_parser_sum_1.sp:Spec:=mkSp ⟨[(0,Sp 0 0),(1,Sp 1 0)],[(some 0,[.ptr 2 0]),(some 1,[ki]),(some 2,c1)]⟩ ⟨[],[(none,[.ptr 2 0]),(none,[ki]),(none,c1)]⟩ expr_parser_sum_1.g
noncomputable def expr_parser_sum_1.T (ad:LQ):TF P (LW ad):=⟨256,[],expr_parser_sum_1.sp,sat_fq (F:=fun q=>(rec_expr_parser_sum q).expr_parser_sum_1) (fun a b c d e=>1000+a.toNat+b.length+c.toNat+d.length+e.toNat) (fun q=>(rec_expr_parser_sum_sat q).2.2.1) (fun _=>by kernel_rfl),enter_of (by kernel_rfl)⟩
def expr_parser_row_c257.sp:Spec:=mkSp ⟨[(0,Sp 0 0),(1,.clo 257 [.ptr 1 0,.ptr 2 0]),(2,.c (.sl .str))],[(some 0,c1),(some 1,[.ptr 0 0]),(some 2,[ki])]⟩ ⟨[],[(none,c1),(none,[.ptr 0 0]),(none,[ki])]⟩ expr_parser_row_c257.g
noncomputable def expr_parser_row_c257.T (ad:LQ):TF P (LW ad):=⟨255,[257],expr_parser_row_c257.sp,sat_fq (F:=fun q=>(rec_expr_parser_sum q).expr_parser_row_c257) (fun a b c d e i=>1000+a.length+b.length+c.toNat+d.length+e.toNat+i.toNat) (fun q=>(rec_expr_parser_sum_sat q).2.2.2.1) (fun _=>by kernel_rfl),enter_of (by kernel_rfl)⟩
def expr_parser_sum_1_1.sp:Spec:=mkSp ⟨[(0,Sp 0 0),(1,Sp 1 0)],[(some 0,[.ptr 2 0]),(some 1,[ki]),(some 2,c1)]⟩ ⟨[],[(none,[.ptr 2 0]),(none,[ki]),(none,c1)]⟩ expr_parser_sum_1_1.g
noncomputable def expr_parser_sum_1_1.T (ad:LQ):TF P (LW ad):=⟨257,[],expr_parser_sum_1_1.sp,sat_fq (F:=fun q=>(rec_expr_parser_sum q).expr_parser_sum_1_1) (fun a b c d e=>1000+a.toNat+b.length+c.toNat+d.length+e.toNat) (fun q=>(rec_expr_parser_sum_sat q).2.2.2.2.1) (fun _=>by kernel_rfl),enter_of (by kernel_rfl)⟩
def expr_parser_factor.sp:Spec:=mkSp ⟨[(0,Sp 0 0),(1,Si)],[(some 0,c1)]⟩ ⟨[],[(none,c1)]⟩ expr_parser_factor.g
noncomputable def expr_parser_factor.T (ad:LQ):TF P (LW ad):=⟨258,[],expr_parser_factor.sp,sat_fq (F:=fun q=>(rec_expr_parser_sum q).expr_parser_factor) (fun a b c d e=>1000+a.toNat+b.length+c.toNat+d.length+e.toNat) (fun q=>(rec_expr_parser_sum_sat q).2.2.2.2.2.1) (fun _=>by kernel_rfl),enter_of (by kernel_rfl)⟩
namespace Zcf
def sp:Spec:=mkSp ⟨[(0,.c (.sl u0)),(1,Si)],[]⟩ ⟨[(0,.c (.row 44 u1)),(1,Si),(2,Si)],[]⟩ g
noncomputable def T (ad:LQ):=mkF ad 196 [] sp [expr_parser_sum.T ad] (fun n=>tj 5 ⟨[(7,Sp 0 0)],[(some 0,c1)]⟩ (fun _=>j5 n) <| tn) t0 t0 47 [] f (fun a b=>1000+a.length+b.toNat) (by kernel_rfl)
end Zcf
namespace Zcg
def sp:Spec:=mkSp ⟨[(0,Sp 0 0),(1,Sp 1 0),(2,.c (.pp .str))],[(some 0,[.sl u0,ki,ki]),(some 1,c0)]⟩ ⟨[],[(none,[.sl u0,ki,ki]),(none,c0)]⟩ g
noncomputable def T (ad:LQ):=mkF ad 195 [] sp [Zbr.T ad,Zau.T ad,Zcf.T ad] (fun n=>tj 2 ⟨[(0,Sp 0 0),(1,Sp 1 0)],[(none,[.sl u0,ki,ki]),(none,c0)]⟩ (fun _=>j2 n) <| tn) t0 t0 40 [] f (fun a b c d e i j k l _ p q=>1000+a.length+b.length+c.toNat+d.toNat+e.toNat+i.toNat+j.toNat+k.toNat+l.toNat+p.length+q.length) (by kernel_rfl)
end Zcg
namespace Zbl
def sp:Spec:=mkSp ⟨[(0,Sb),(1,SB)],[]⟩ ⟨[(0,SB)],[]⟩ g
noncomputable def T (ad:LQ):=mkF ad 105 [] sp [] (fun n=>tj 4 ⟨[(0,Sb),(1,SB)],[]⟩ (fun _=>j4 n) <| tn) t0 t0 32 [] f (fun a _=>1000+a.toNat) (by kernel_rfl)
end Zbl
namespace Zap
def sp:Spec:=mkSp ⟨[(0,Ss)],[]⟩ ⟨[(0,SB)],[]⟩ g
noncomputable def T (ad:LQ):=mkF ad 55 [] sp [Zbl.T ad,strings_Trim.T ad] t0 (fun n=>tl 4 ⟨[(0,Ss),(14,Si),(15,Si)],[]⟩ (fun _=>l4 n) <| tn) t0 47 [] f (fun a=>1000+a.length) (by kernel_rfl)
end Zap
namespace Zdm
def sp:Spec:=mkSp ⟨[(0,Sp 0 0),(1,Sp 1 0)],[(some 0,[.sl u0,ki,ki]),(some 1,c0)]⟩ ⟨[],[(none,[.sl u0,ki,ki]),(none,c0)]⟩ g
noncomputable def T (ad:LQ):=mkF ad 152 [] sp [Zbr.T ad,Zap.T ad,Zau.T ad] t0 t0 t0 16 [] f (fun a b c d e i j k _ o p=>1000+a.length+b.toNat+c.toNat+d.toNat+e.toNat+i.toNat+j.toNat+k.toNat+o.length+p.length) (by kernel_rfl)
end Zdm
namespace Zag
def sp:Spec:=mkSp ⟨[(0,.c (.sl u0))],[]⟩ ⟨[(0,Ss),(1,.agg c0),(2,Si)],[]⟩ g
noncomputable def T (ad:LQ):=mkF ad 91 [] sp [Zad.T ad,Zau.T ad,name_Of.T ad,Zdh.T ad,stmt_operands.T ad,Zbr.T ad,Zdi.T ad,Zcw.T ad,Zcg.T ad,Zdm.T ad] (fun n=>tj 20 ⟨[(0,.c (.sl u0)),(2,Ss),(3,Sp 0 0),(5,Sp 1 0),(8,Si),(11,Si),(116,Si),(117,Si)],[(some 2,c0),(some 3,[.sl u0,ki,ki])]⟩ (fun ms=>j20 n (l13 n ms.head!)) <| tj 19 ⟨[(0,.c (.sl u0)),(2,Ss),(3,Sp 0 0),(5,Sp 1 0),(8,Si),(11,Si),(12,Si),(116,Si),(117,Si)],[(some 2,c0),(some 3,[.sl u0,ki,ki])]⟩ (fun ms=>j19 n (l13 n ms.head!)) <| tj 17 ⟨[(0,.c (.sl u0)),(2,Ss),(3,Sp 0 0),(5,Sp 1 0),(8,Si),(11,Si),(12,Si),(116,Si),(117,Si)],[(some 2,c0),(some 3,[.sl u0,ki,ki])]⟩ (fun ms=>j17 n (l13 n ms.head!)) <| tj 22 ⟨[(2,Ss),(3,Sp 0 0),(5,Sp 1 0)],[(some 1,c0),(some 2,[.sl u0,ki,ki])]⟩ (fun _=>j22 n) <| tj 9 ⟨[(0,.c (.sl u0)),(2,Ss),(3,Sp 0 0),(5,Sp 1 0),(7,Si),(8,Si),(9,SB)],[(some 2,c0),(some 3,[.sl u0,ki,ki])]⟩ (fun _=>j9 n) <| tj 5 ⟨[(0,.c (.sl u0)),(2,Ss),(3,Sp 0 0),(5,Sp 1 0)],[(some 2,c0),(some 3,[.sl u0,ki,ki])]⟩ (fun _=>j5 n) <| tn) (fun n=>tl 13 ⟨[(0,.c (.sl u0)),(2,Ss),(3,Sp 0 0),(5,Sp 1 0),(8,Si),(11,Si),(116,Si),(117,Si)],[(some 2,c0),(some 3,[.sl u0,ki,ki])]⟩ (fun _=>l13 n) <| tn) t0 165 [K.rdA,K.rdB,K.rdC,K.rdE,K.rdQ,K.rdN] f (fun a=>1000+a.length) (by kernel_rfl)
end Zag
namespace Zdn
def sp:Spec:=mkSp ⟨[(0,Ss)],[]⟩ ⟨[(0,.agg c2),(1,Si)],[]⟩ g
noncomputable def T (ad:LQ):=mkF ad 38 [] sp [Zan.T ad,Zag.T ad] t0 t0 t0 27 [] f (fun a=>1000+a.length) (by kernel_rfl)
end Zdn
namespace Zcy
def sp:Spec:=mkSp ⟨[(0,.c (.sl .str)),(1,.c (.raw (.func (.func 38) #[] #[])))],[]⟩ ⟨[(0,.c (.row 41 u2)),(1,Si),(2,Si)],[]⟩ g
noncomputable def T (ad:LQ):=mkF ad 37 [] sp [Zdn.T ad] t0 (fun n=>tl 5 ⟨[(1,.c (.raw (.func (.func 38) #[] #[]))),(7,.c (.row 41 u2)),(15,.c (.sl .str)),(16,Si),(17,Si)],[]⟩ (fun _=>l5 n) <| tn) t0 39 [] f (fun a=>1000+a.length) (by kernel_rfl)
end Zcy
namespace Zcz
def sp:Spec:=mkSp ⟨[(0,Ss)],[]⟩ ⟨[(0,.c (.row 41 u2)),(1,Si),(2,Si)],[]⟩ g
noncomputable def T (ad:LQ):=mkF ad 17 [] sp [strings_Split.T ad,Zcy.T ad] (fun n=>tj 7 ⟨[(5,.c (.sl .str))],[]⟩ (fun _=>j7 n) <| tn) t0 t0 28 [] f (fun a=>1000+a.length) (by kernel_rfl)
end Zcz
namespace Zct
def sp:Spec:=mkSp ⟨[(0,.agg [.str,ki]),(1,Sp 0 0)],[(some 2,[.str])]⟩ ⟨[(0,SB)],[(none,[.str])]⟩ g
noncomputable def T (ad:LQ):=mkF ad 117 [] sp [] t0 t0 t0 8 [] f (fun a b c=>1000+a.length+b.toNat+c.length) (by kernel_rfl)
end Zct
namespace Zbn
def sp:Spec:=mkSp ⟨[(0,.c (.sl u3)),(1,.clo 117 [.ptr 0 0])],[(some 1,[.str])]⟩ ⟨[(0,Si)],[(none,[.str])]⟩ g
noncomputable def T (ad:LQ):=mkF ad 108 [117] sp [Zct.T ad] t0 (fun n=>tl 2 ⟨[(0,.c (.sl u3)),(1,.clo 117 [.ptr 0 0]),(7,Si),(8,Si)],[(none,[.str])]⟩ (fun _=>l2 n) <| tn) t0 19 [] f (fun a b=>1000+a.length+b.length) (by kernel_rfl)
end Zbn
namespace Zbo
def sp:Spec:=mkSp ⟨[(0,.c (.sl u3)),(1,Ss)],[]⟩ ⟨[(0,Si),(1,SB)],[]⟩ g
noncomputable def T (ad:LQ):=mkF ad 62 [] sp [Zbn.T ad] t0 t0 t0 17 [] f (fun a b=>1000+a.length+b.length) (by kernel_rfl)
end Zbo
namespace Zcl
def sp:Spec:=mkSp ⟨[(0,.agg c0)],[]⟩ ⟨[(0,Si)],[]⟩ g
noncomputable def T (ad:LQ):=mkF ad 63 [] sp [] t0 t0 t0 8 [] f (fun a b c d e _ j k=>1000+a.toNat+b.toNat+c.toNat+d.toNat+e.toNat+j.length+k.length) (by kernel_rfl)
end Zcl
namespace Zbu
def sp:Spec:=mkSp ⟨[(0,.agg c2),(1,Sp 0 0)],[(some 9,c3)]⟩ ⟨[(0,Si)],[(none,c3)]⟩ g
noncomputable def T (ad:LQ):=mkF ad 61 [] sp [Zbo.T ad,Zcl.T ad] (fun n=>tj 7 ⟨[(1,Sp 0 0),(2,Sp 1 0)],[(none,c3),(some 1,c2)]⟩ (fun _=>j7 n) <| tn) t0 t0 43 [] f (fun a b c d e i _ k l o p q r s=>1000+a.length+b.toNat+c.toNat+d.toNat+e.toNat+i.toNat+k.length+l.length+o.length+p.length+q.length+r.toNat+s.toNat) (by kernel_rfl)
end Zbu
namespace Zbx
def sp:Spec:=mkSp ⟨[(0,.c (.sl u2)),(1,.clo 61 [.ptr 0 0])],[(some 1,c3)]⟩ ⟨[(0,Si),(1,Si)],[(none,c3)]⟩ g
noncomputable def T (ad:LQ):=mkF ad 67 [61] sp [Zbu.T ad] t0 (fun n=>tl 2 ⟨[(1,.clo 61 [.ptr 0 0]),(9,.c (.sl u2)),(10,Si),(11,Si)],[(none,c3)]⟩ (fun _=>l2 n) <| tn) t0 25 [] f (fun a b c d e i=>1000+a.length+b.length+c.length+d.length+e.toNat+i.toNat) (by kernel_rfl)
end Zbx
namespace Zbq
def sp:Spec:=mkSp ⟨[(0,.agg [ki,ku,.str])],[]⟩ ⟨[(0,Si),(1,SB)],[]⟩ g
noncomputable def T (ad:LQ):=mkF ad 170 [] sp [Zad.T ad] (fun n=>tj 2 ⟨[(1,Sp 0 0),(4,SB)],[(some 0,[ki,ku,.str])]⟩ (fun _=>j2 n) <| tn) t0 t0 38 [] f (fun a b c=>1000+a.toNat+b.toNat+c.length) (by kernel_rfl)
end Zbq
namespace Zbj
def sp:Spec:=mkSp ⟨[(0,.c (.sl u1))],[]⟩ ⟨[(0,SB)],[]⟩ g
noncomputable def T (ad:LQ):=mkF ad 118 [] sp [Zbq.T ad] t0 (fun n=>tl 3 ⟨[(0,.c (.sl u1)),(3,Si),(8,.c (.sl u1)),(9,Si),(10,Si)],[]⟩ (fun _=>l3 n) <| tn) t0 38 [] f (fun a=>1000+a.length) (by kernel_rfl)
end Zbj
namespace Zbc
def sp:Spec:=mkSp ⟨[(0,Sp 0 0)],[(some 0,[.row 70 u4])]⟩ ⟨[(0,.agg [ku,ki])],[(none,[.row 70 u4])]⟩ g
noncomputable def T (ad:LQ):=mkF ad 120 [] sp [] t0 t0 t0 24 [] f (fun a=>1000+a.length) (by kernel_rfl)
end Zbc
namespace Zca
def sp:Spec:=mkSp ⟨[(0,.agg [ku,ki]),(1,Si)],[]⟩ ⟨[(0,.agg [ku,ki])],[]⟩ g
noncomputable def T (ad:LQ):=mkF ad 119 [] sp [] t0 t0 t0 15 [] f (fun a b c=>1000+a.toNat+b.toNat+c.toNat) (by kernel_rfl)
end Zca
namespace Zcu
def sp:Spec:=mkSp ⟨[(0,.agg [ku,ki]),(1,.agg [ku,ki])],[]⟩ ⟨[(0,.agg [ku,ki])],[]⟩ g
noncomputable def T (ad:LQ):=mkF ad 121 [] sp [] t0 t0 t0 16 [] f (fun a b c d=>1000+a.toNat+b.toNat+c.toNat+d.toNat) (by kernel_rfl)
end Zcu
namespace Zae
def sp:Spec:=mkSp ⟨[(0,.c (.sl u1)),(1,.c (.sl u3))],[]⟩ ⟨[(0,.agg [ku,ki]),(1,Si)],[]⟩ g
noncomputable def T (ad:LQ):=mkF ad 65 [] sp [Zbj.T ad,Zbo.T ad,Zbc.T ad,Zca.T ad,Zcu.T ad] (fun n=>tj 27 ⟨[(1,.c (.sl u3)),(4,Sp 0 0),(6,Sp 1 0),(9,Sp 2 0),(20,.c (.sl u1)),(21,Si),(22,Si)],[(some 1,[ku,ki]),(some 2,[.row 70 u4]),(some 3,[ku,ki])]⟩ (fun ms=>j27 n (l5 n ms.head!)) <| tn) (fun n=>tl 5 ⟨[(1,.c (.sl u3)),(4,Sp 0 0),(6,Sp 1 0),(20,.c (.sl u1)),(21,Si),(22,Si)],[(some 1,[ku,ki]),(some 2,[.row 70 u4])]⟩ (fun _=>l5 n) <| tn) t0 92 [] f (fun a b=>1000+a.length+b.length) (by kernel_rfl)
end Zae
namespace Zda
def sp:Spec:=mkSp ⟨[(0,.c (.sl u4))],[]⟩ ⟨[(0,.c (.slc u4))],[]⟩ g
noncomputable def T (ad:LQ):=mkF ad 122 [] sp [] t0 t0 t0 9 [] f (fun a=>1000+a.length) (by kernel_rfl)
end Zda
namespace Zbg
def sp:Spec:=mkSp ⟨[(0,.c (.sl u4)),(1,.agg [ku,ki])],[]⟩ ⟨[(0,.c (.sl u4)),(1,Si)],[]⟩ g
noncomputable def T (ad:LQ):=mkF ad 66 [] sp [Zda.T ad] t0 (fun n=>tl 2 ⟨[(0,.c (.sl u4)),(3,Sp 0 0),(8,.c (.sl u4)),(9,Si),(10,Si)],[(some 1,[ku,ki])]⟩ (fun _=>l2 n) <| tn) t0 28 [] f (fun a b c=>1000+a.length+b.toNat+c.toNat) (by kernel_rfl)
end Zbg
namespace Zcm
def sp:Spec:=mkSp ⟨[(0,.agg c2),(1,Sp 0 0)],[(some 9,c3)]⟩ ⟨[(0,Si)],[(none,c3)]⟩ g
noncomputable def T (ad:LQ):=mkF ad 64 [] sp [Zae.T ad,Zbg.T ad] t0 t0 t0 40 [] f (fun a b c d e i _ k l o p q r s=>1000+a.length+b.toNat+c.toNat+d.toNat+e.toNat+i.toNat+k.length+l.length+o.length+p.length+q.length+r.toNat+s.toNat) (by kernel_rfl)
end Zcm
namespace Zby
def sp:Spec:=mkSp ⟨[(0,.c (.sl u2)),(1,.clo 64 [.ptr 0 0])],[(some 1,c3)]⟩ ⟨[(0,Si),(1,Si)],[(none,c3)]⟩ g
noncomputable def T (ad:LQ):=mkF ad 67 [64] sp [Zcm.T ad] t0 (fun n=>tl 2 ⟨[(1,.clo 64 [.ptr 0 0]),(9,.c (.sl u2)),(10,Si),(11,Si)],[(none,c3)]⟩ (fun _=>l2 n) <| tn) t0 25 [] f (fun a b c d e i=>1000+a.length+b.length+c.length+d.length+e.toNat+i.toNat) (by kernel_rfl)
end Zby
namespace Zaw
def sp:Spec:=mkSp ⟨[(0,.c (.sl u2))],[]⟩ ⟨[(0,.agg c3),(1,Si),(2,Si)],[]⟩ g
noncomputable def T (ad:LQ):=mkF ad 25 [] sp [Zbx.T ad,Zby.T ad] (fun n=>tj 7 ⟨[(0,.c (.sl u2)),(2,Sp 0 0),(3,Si),(4,Si),(13,.c (.clr 0 [61,64])),(14,Si),(15,Si)],[(some 1,c3)]⟩ (fun ms=>j7 n (l4 n ms.head!)) <| tn) (fun n=>tl 4 ⟨[(0,.c (.sl u2)),(2,Sp 0 0),(13,.c (.clr 0 [61,64])),(14,Si),(15,Si)],[(some 1,c3)]⟩ (fun _=>l4 n) <| tn) t0 44 [] f (fun a=>1000+a.length) (by kernel_rfl)
end Zaw
namespace Zdb
def sp:Spec:=mkSp ⟨[(0,.agg [.str,ki]),(1,Ss)],[]⟩ ⟨[(0,Si)],[]⟩ g
noncomputable def T (ad:LQ):=mkF ad 124 [] sp [strings_Compare.T ad] t0 t0 t0 9 [] f (fun a b c=>1000+a.length+b.toNat+c.length) (by kernel_rfl)
end Zdb
namespace Zbm
def sp:Spec:=mkSp ⟨[(0,.c (.sl u3)),(1,Ss),(2,.c (.raw (.func (.func 124) #[] #[])))],[]⟩ ⟨[(0,Si),(1,SB)],[]⟩ g
noncomputable def T (ad:LQ):=mkF ad 123 [] sp [Zdb.T ad] t0 (fun n=>tl 3 ⟨[(0,.c (.sl u3)),(1,Ss),(2,.c (.raw (.func (.func 124) #[] #[]))),(8,Si),(9,Si),(10,Si)],[]⟩ (fun _=>l3 n) <| tn) t0 49 [] f (fun a b=>1000+a.length+b.length) (by kernel_rfl)
end Zbm
namespace Zcn
def sp:Spec:=mkSp ⟨[(0,Sp 0 0),(1,Ss)],[(some 0,c4)]⟩ ⟨[(0,Si)],[(none,c4)]⟩ g
noncomputable def T (ad:LQ):=mkF ad 69 [] sp [Zbo.T ad,Zbm.T ad,Zap.T ad,slices_Insert_api_Sym_api_Sym.T ad] t0 t0 t0 53 [] f (fun a b c d e i j k l=>1000+a.length+b.length+c.length+d.length+e.toNat+i.toNat+j.length+k.length+l.length) (by kernel_rfl)
end Zcn
namespace Zai
def sp:Spec:=mkSp ⟨[(0,.c (.sl u1)),(1,.c (.sl u3)),(2,Si),(3,Si)],[]⟩ ⟨[(0,Si),(1,Si)],[]⟩ g
noncomputable def T (ad:LQ):=mkF ad 70 [] sp [Zae.T ad] (fun n=>tj 11 ⟨[(2,Si),(3,Si),(35,.agg [ki,ki]),(36,Si)],[]⟩ (fun ms=>j11 n (l7 n ms.head!)) <| tn) (fun n=>tl 7 ⟨[(2,Si),(3,Si),(35,.agg [ki,ki]),(36,Si)],[]⟩ (fun _=>l7 n) <| tn) t0 49 [] f (fun a b c d=>1000+a.length+b.length+c.toNat+d.toNat) (by kernel_rfl)
end Zai
namespace Zbv
def sp:Spec:=mkSp ⟨[(0,Si),(1,Si),(2,Si)],[]⟩ ⟨[(0,SB)],[]⟩ g
noncomputable def T (ad:LQ):=mkF ad 188 [] sp [] t0 t0 t0 15 [] f (fun a b c=>1000+a.toNat+b.toNat+c.toNat) (by kernel_rfl)
end Zbv
namespace Zdd
def sp:Spec:=mkSp ⟨[(0,SB)],[]⟩ ⟨[(0,Su)],[]⟩ g
noncomputable def T (ad:LQ):=mkF ad 238 [] sp [] t0 t0 t0 4 [] f (fun _=>(1000:Nat)) (by kernel_rfl)
end Zdd
namespace Zaz
def sp:Spec:=mkSp ⟨[(0,Si),(1,SB),(2,SB)],[]⟩ ⟨[(0,.agg [ki,ki,ki])],[]⟩ g
noncomputable def T (ad:LQ):=mkF ad 211 [] sp [Zdd.T ad] t0 t0 t0 19 [] f (fun a _ _=>1000+a.toNat) (by kernel_rfl)
end Zaz
namespace Zch
def sp:Spec:=mkSp ⟨[(0,Si),(1,Si),(2,Sp 0 0),(3,Sp 1 0)],[(some 2,[ku]),(some 3,[ku])]⟩ ⟨[],[(none,[ku]),(none,[ku])]⟩ g
noncomputable def T (ad:LQ):=mkF ad 263 [] sp [] t0 t0 t0 17 [] f (fun a b c d=>1000+a.toNat+b.toNat+c.toNat+d.toNat) (by kernel_rfl)
end Zch
namespace Zbs
def sp:Spec:=mkSp ⟨[(0,Si),(1,Si),(2,.clo 263 [.ptr 0 0,.ptr 1 0])],[(some 2,[ku]),(some 3,[ku])]⟩ ⟨[],[(none,[ku]),(none,[ku])]⟩ g
noncomputable def T (ad:LQ):=mkF ad 249 [263] sp [Zch.T ad] t0 (fun n=>tl 2 ⟨[(0,Si),(1,Si),(2,.clo 263 [.ptr 0 0,.ptr 1 0]),(6,Si)],[(none,[ku]),(none,[ku])]⟩ (fun _=>l2 n) <| tn) t0 38 [] f (fun a b c d=>1000+a.toNat+b.toNat+c.toNat+d.toNat) (by kernel_rfl)
end Zbs
namespace Zci
def sp:Spec:=mkSp ⟨[(0,Su),(1,Si),(2,Si),(3,Su)],[]⟩ ⟨[(0,Su)],[]⟩ g
noncomputable def T (ad:LQ):=mkF ad 237 [] sp [Zbs.T ad] t0 t0 t0 14 [] f (fun a b c d=>1000+a.toNat+b.toNat+c.toNat+d.toNat) (by kernel_rfl)
end Zci
namespace Zal
def sp:Spec:=mkSp ⟨[(0,.c (.sl u5))],[]⟩ ⟨[(0,Su)],[]⟩ g
noncomputable def T (ad:LQ):=mkF ad 210 [] sp [Zci.T ad] t0 (fun n=>tl 3 ⟨[(3,Su),(6,.c (.sl u5)),(7,Si),(8,Si)],[]⟩ (fun _=>l3 n) <| tn) t0 23 [] f (fun a=>1000+a.length) (by kernel_rfl)
end Zal
namespace Zbf
def sp:Spec:=mkSp ⟨[(0,.agg c5)],[]⟩ ⟨[(0,Su)],[]⟩ g
noncomputable def T (ad:LQ):=mkF ad 174 [] sp [Zaz.T ad,Zal.T ad] (fun n=>tj 14 ⟨[(1,Sp 0 0),(6,Sp 1 0)],[(some 0,c5),(some 1,[ki,ki,ki])]⟩ (fun _=>j14 n) <| tn) t0 t0 97 [] f (fun a b c d e i _=>1000+a.toNat+b.toNat+c.toNat+d.toNat+e.toNat+i.toNat) (by kernel_rfl)
end Zbf
namespace Zcj
def sp:Spec:=mkSp ⟨[(0,Si),(1,Si),(2,Sp 0 0),(3,Sp 1 0)],[(some 2,[ku]),(some 3,[ku])]⟩ ⟨[],[(none,[ku]),(none,[ku])]⟩ g
noncomputable def T (ad:LQ):=mkF ad 250 [] sp [] t0 t0 t0 14 [] f (fun a b c d=>1000+a.toNat+b.toNat+c.toNat+d.toNat) (by kernel_rfl)
end Zcj
namespace Zbt
def sp:Spec:=mkSp ⟨[(0,Si),(1,Si),(2,.clo 250 [.ptr 0 0,.ptr 1 0])],[(some 2,[ku]),(some 3,[ku])]⟩ ⟨[],[(none,[ku]),(none,[ku])]⟩ g
noncomputable def T (ad:LQ):=mkF ad 249 [250] sp [Zcj.T ad] t0 (fun n=>tl 2 ⟨[(0,Si),(1,Si),(2,.clo 250 [.ptr 0 0,.ptr 1 0]),(6,Si)],[(none,[ku]),(none,[ku])]⟩ (fun _=>l2 n) <| tn) t0 38 [] f (fun a b c d=>1000+a.toNat+b.toNat+c.toNat+d.toNat) (by kernel_rfl)
end Zbt
namespace Zck
def sp:Spec:=mkSp ⟨[(0,Su),(1,Si),(2,Si)],[]⟩ ⟨[(0,Su)],[]⟩ g
noncomputable def T (ad:LQ):=mkF ad 223 [] sp [Zbt.T ad] t0 t0 t0 13 [] f (fun a b c=>1000+a.toNat+b.toNat+c.toNat) (by kernel_rfl)
end Zck
namespace Zaq
def sp:Spec:=mkSp ⟨[(0,Si),(1,Si),(2,.c (.pp (.int .u32)))],[]⟩ ⟨[(0,Si)],[]⟩ g
noncomputable def T (ad:LQ):=mkF ad 222 [] sp [Zck.T ad] t0 t0 t0 11 [] f (fun a b c=>1000+a.toNat+b.toNat+c.toNat) (by kernel_rfl)
end Zaq
namespace Zcx
def sp:Spec:=mkSp ⟨[(0,Si)],[]⟩ ⟨[(0,Si)],[]⟩ g
noncomputable def T (ad:LQ):=mkF ad 251 [] sp [] t0 t0 t0 6 [] f (fun a=>1000+a.toNat) (by kernel_rfl)
end Zcx
namespace Zcb
def sp:Spec:=mkSp ⟨[(0,Su),(1,Si)],[]⟩ ⟨[(0,Si)],[]⟩ g
noncomputable def T (ad:LQ):=mkF ad 224 [] sp [Zcx.T ad] t0 t0 t0 16 [] f (fun a b=>1000+a.toNat+b.toNat) (by kernel_rfl)
end Zcb
namespace Zba
def sp:Spec:=mkSp ⟨[(0,Su)],[]⟩ ⟨[(0,.agg c5)],[]⟩ g
noncomputable def T (ad:LQ):=mkF ad 189 [] sp [Zaq.T ad,Zcb.T ad] (fun n=>tj 16 ⟨[(2,Sp 0 0),(6,Sp 1 0)],[(some 0,c5),(some 1,c5)]⟩ (fun _=>j16 n) <| tn) t0 t0 80 [] f (fun a=>1000+a.toNat) (by kernel_rfl)
end Zba
namespace Zas
def sp:Spec:=mkSp ⟨[(0,.agg c5)],[]⟩ ⟨[(0,SB)],[]⟩ g
noncomputable def T (ad:LQ):=mkF ad 145 [] sp [Zbv.T ad,Zbf.T ad,Zba.T ad] (fun n=>tj 10 ⟨[(1,Sp 0 0)],[(some 0,c5)]⟩ (fun _=>j10 n) <| tn) t0 t0 64 [] f (fun a b c d e i _=>1000+a.toNat+b.toNat+c.toNat+d.toNat+e.toNat+i.toNat) (by kernel_rfl)
end Zas
namespace Zbw
def sp:Spec:=mkSp ⟨[(0,.agg c5)],[]⟩ ⟨[(0,Su),(1,Si)],[]⟩ g
noncomputable def T (ad:LQ):=mkF ad 127 [] sp [Zas.T ad,Zbf.T ad] t0 t0 t0 9 [] f (fun a b c d e i _=>1000+a.toNat+b.toNat+c.toNat+d.toNat+e.toNat+i.toNat) (by kernel_rfl)
end Zbw
namespace Zbd
def sp:Spec:=mkSp ⟨[(0,Sp 0 0),(1,.agg [ku,ki])],[(some 0,c4)]⟩ ⟨[],[(none,c4)]⟩ g
noncomputable def T (ad:LQ):=mkF ad 27 [] sp [] (fun n=>tj 3 ⟨[(0,Sp 0 0),(3,Sp 1 0)],[(none,c4),(some 1,[ku,ki])]⟩ (fun _=>j3 n) <| tn) t0 t0 37 [] f (fun a b c d e i j k l o=>1000+a.toNat+b.toNat+c.length+d.length+e.length+i.toNat+j.toNat+k.length+l.length+o.length) (by kernel_rfl)
end Zbd
namespace Zco
def sp:Spec:=mkSp ⟨[(0,Sp 0 0),(1,.agg c5)],[(some 0,c4)]⟩ ⟨[(0,Si)],[(none,c4)]⟩ g
noncomputable def T (ad:LQ):=mkF ad 73 [] sp [Zbw.T ad,Zbd.T ad] t0 t0 t0 19 [] f (fun a b c d e i _ k l o p q r s t=>1000+a.toNat+b.toNat+c.toNat+d.toNat+e.toNat+i.toNat+k.length+l.length+o.length+p.toNat+q.toNat+r.length+s.length+t.length) (by kernel_rfl)
end Zco
namespace Zbz
def sp:Spec:=mkSp ⟨[(0,Sp 0 0),(1,Sp 1 0),(2,Sp 2 0)],[(some 0,c0),(some 1,[.ptr 3 0]),(some 2,[ki]),(some 11,c4)]⟩ ⟨[(0,.agg [ku,ki])],[(none,c0),(none,[.ptr 3 0]),(none,[ki]),(none,c4)]⟩ g
noncomputable def T (ad:LQ):=mkF ad 68 [] sp [Zae.T ad] t0 t0 t0 16 [] f (fun a b c d e _ j k l o p q r s t u v=>1000+a.toNat+b.toNat+c.toNat+d.toNat+e.toNat+j.length+k.length+l.toNat+o.length+p.length+q.length+r.toNat+s.toNat+t.length+u.length+v.length) (by kernel_rfl)
end Zbz
namespace Zcp
def sp:Spec:=mkSp ⟨[(0,.agg [ku,ki]),(1,Si)],[]⟩ ⟨[(0,Si),(1,Si)],[]⟩ g
noncomputable def T (ad:LQ):=mkF ad 71 [] sp [] t0 t0 t0 35 [] f (fun a b c=>1000+a.toNat+b.toNat+c.toNat) (by kernel_rfl)
end Zcp
namespace Zcc
def sp:Spec:=mkSp ⟨[(0,Sp 0 0),(1,.agg [ku,ki])],[(some 0,c4)]⟩ ⟨[(0,Si)],[(none,c4)]⟩ g
noncomputable def T (ad:LQ):=mkF ad 72 [] sp [] t0 t0 t0 30 [] f (fun a b c d e i j k l o=>1000+a.toNat+b.toNat+c.length+d.length+e.length+i.toNat+j.toNat+k.length+l.length+o.length) (by kernel_rfl)
end Zcc
namespace Zah
def sp:Spec:=mkSp ⟨[(0,Sp 0 0),(1,.agg c0),(2,Si)],[(some 0,c4)]⟩ ⟨[(0,Si)],[(none,c4)]⟩ g
noncomputable def T (ad:LQ):=mkF ad 26 [] sp [Zcn.T ad,Zai.T ad,Zco.T ad,Zbz.T ad,Zcp.T ad,Zbg.T ad,Zcc.T ad,Zbd.T ad] (fun n=>tj 32 ⟨[(3,Sp 1 0),(6,Sp 2 0),(7,Sp 3 0)],[(none,c4),(some 0,[.ptr 0 0]),(some 1,[ki]),(some 2,c5)]⟩ (fun _=>j32 n) <| tj 12 ⟨[(3,Sp 1 0),(4,Sp 2 0),(6,Sp 3 0),(7,Sp 4 0),(9,Si)],[(none,c4),(some 0,[.ptr 0 0]),(some 1,c0),(some 2,[ki]),(some 3,c5)]⟩ (fun _=>j12 n) <| tj 31 ⟨[(6,Sp 1 0)],[(none,c4),(some 0,[ki])]⟩ (fun _=>j31 n) <| tj 29 ⟨[(3,Sp 1 0),(6,Sp 2 0),(14,Sp 3 0)],[(none,c4),(some 0,[.ptr 0 0]),(some 1,[ki]),(some 2,[ku,ki])]⟩ (fun _=>j29 n) <| tn) t0 t0 139 [] f (fun a b c d e _ j k l o p q r s t u v=>1000+a.toNat+b.toNat+c.toNat+d.toNat+e.toNat+j.length+k.length+l.toNat+o.length+p.length+q.length+r.toNat+s.toNat+t.length+u.length+v.length) (by kernel_rfl)
end Zah
namespace Zar
def sp:Spec:=mkSp ⟨[(0,.c (.sl u2))],[]⟩ ⟨[(0,.agg c6),(1,Si),(2,Si)],[]⟩ g
noncomputable def T (ad:LQ):=mkF ad 11 [] sp [Zaw.T ad,Zah.T ad,Zbd.T ad] t0 (fun n=>tl 14 ⟨[(2,Sp 0 0),(6,Sp 1 0),(53,.c (.sl u4)),(54,Si),(55,Si)],[(some 0,c6),(some 1,c4)]⟩ (fun _=>l14 n) <| tl 7 ⟨[(2,Sp 0 0),(5,Sp 1 0),(6,Sp 2 0),(7,.clo 1000026 [.ptr 2 0]),(29,.c (.sl u2)),(30,Si),(31,Si)],[(some 0,c6),(some 1,c7),(some 2,c4)]⟩ (fun _=>l7 n) <| tn) t0 75 [] f (fun a=>1000+a.length) (by kernel_rfl)
end Zar
namespace Zdo
def sp:Spec:=mkSp ⟨[(0,Ss)],[]⟩ ⟨[(0,.agg c6),(1,Si),(2,Si)],[]⟩ g
noncomputable def T (ad:LQ):=mkF ad 8 [] sp [Zcz.T ad,Zar.T ad] t0 t0 t0 22 [] f (fun a=>1000+a.length) (by kernel_rfl)
end Zdo
namespace Zdc
def sp:Spec:=mkSp ⟨[(0,.c (.sl (.int .u32))),(1,.c (.sl (.int .u32)))],[]⟩ ⟨[(0,SB)],[]⟩ g
noncomputable def T (ad:LQ):=mkF ad 23 [] sp [] t0 (fun n=>tl 4 ⟨[(0,.c (.sl (.int .u32))),(1,.c (.sl (.int .u32))),(5,Si)],[]⟩ (fun _=>l4 n) <| tn) t0 26 [] f (fun a b=>1000+a.length+b.length) (by kernel_rfl)
end Zdc
namespace Zbp
def sp:Spec:=mkSp ⟨[],[]⟩ ⟨[(0,SB)],[]⟩ g
noncomputable def T (ad:LQ):=mkF ad 7 [] sp [Zdo.T ad,Zdc.T ad] t0 t0 t0 21 [] f (1000:Nat) (by kernel_rfl)
end Zbp
namespace Zaj
def sp:Spec:=mkSp ⟨[(0,Ss)],[]⟩ ⟨[(0,Ss)],[]⟩ g
noncomputable def T (ad:LQ):=mkF ad 88 [] sp [] t0 (fun n=>tl 4 ⟨[(0,Ss),(3,Ss),(4,Ss),(5,Si)],[]⟩ (fun _=>l4 n) <| tn) t0 39 [] f (fun a=>1000+a.length) (by kernel_rfl)
end Zaj
namespace Zay
def sp:Spec:=mkSp ⟨[(0,Ss)],[]⟩ ⟨[(0,Ss)],[]⟩ g
noncomputable def T (ad:LQ):=mkF ad 34 [] sp [Zaj.T ad] t0 t0 t0 17 [] f (fun a=>1000+a.length) (by kernel_rfl)
end Zay
namespace Zac
def sp:Spec:=mkSp ⟨[(0,.c (.sl u1))],[]⟩ ⟨[(0,.c (.row 44 u1))],[]⟩ g
noncomputable def T (ad:LQ):=mkF ad 86 [] sp [Zay.T ad] (fun n=>tj 18 ⟨[(0,.c (.sl u1)),(3,.c (.row 44 u1)),(4,Si),(5,Si),(6,Sp 0 0)],[(some 4,[ki,ku,.str])]⟩ (fun ms=>j18 n (l4 n ms.head!)) <| tj 9 ⟨[(0,.c (.sl u1)),(3,.c (.row 44 u1)),(4,Si),(5,Si),(6,Sp 0 0)],[(some 4,[ki,ku,.str])]⟩ (fun ms=>j9 n (l4 n ms.head!)) <| tj 19 ⟨[(3,.c (.row 44 u1)),(4,Si)],[]⟩ (fun _=>j19 n) <| tn) (fun n=>tl 21 ⟨[(3,.c (.row 44 u1)),(4,Si)],[]⟩ (fun _=>l21 n) <| tl 4 ⟨[(0,.c (.sl u1)),(3,.c (.row 44 u1)),(4,Si),(5,Si)],[]⟩ (fun _=>l4 n) <| tn) t0 97 [] f (fun a=>1000+a.length) (by kernel_rfl)
end Zac
namespace Zaf
def sp:Spec:=mkSp ⟨[(0,.agg c5)],[]⟩ ⟨[(0,.agg c5)],[]⟩ g
noncomputable def T (ad:LQ):=mkF ad 87 [] sp [] (fun n=>tj 25 ⟨[(2,Sp 0 0),(3,Sp 1 0)],[(some 0,c5),(some 1,c5)]⟩ (fun _=>j25 n) <| tj 10 ⟨[(1,Sp 0 0),(2,Sp 1 0),(3,Sp 2 0),(4,Si)],[(some 0,c5),(some 1,c5),(some 2,c5)]⟩ (fun _=>j10 n) <| tj 9 ⟨[(1,Sp 0 0),(2,Sp 1 0),(3,Sp 2 0),(4,Si)],[(some 0,c5),(some 1,c5),(some 2,c5)]⟩ (fun _=>j9 n) <| tj 7 ⟨[(1,Sp 0 0),(2,Sp 1 0),(3,Sp 2 0),(4,Si)],[(some 0,c5),(some 1,c5),(some 2,c5)]⟩ (fun _=>j7 n) <| tj 19 ⟨[(1,Sp 0 0),(2,Sp 1 0),(3,Sp 2 0)],[(some 0,c5),(some 1,c5),(some 2,c5)]⟩ (fun _=>j19 n) <| tn) t0 t0 111 [] f (fun a b c d e i _=>1000+a.toNat+b.toNat+c.toNat+d.toNat+e.toNat+i.toNat) (by kernel_rfl)
end Zaf
namespace Zav
def sp:Spec:=mkSp ⟨[(0,.agg c0)],[]⟩ ⟨[(0,.agg c0)],[]⟩ g
noncomputable def T (ad:LQ):=mkF ad 33 [] sp [Zac.T ad,Zaf.T ad,Zaj.T ad] (fun n=>tj 8 ⟨[(2,Sp 0 0),(6,Sp 1 0)],[(some 0,c0),(some 1,c0)]⟩ (fun _=>j8 n) <| tj 9 ⟨[(1,Sp 0 0),(2,Sp 1 0),(3,Si),(4,.c (.row 44 u1))],[(some 0,c0),(some 1,c0)]⟩ (fun _=>j9 n) <| tn) t0 t0 88 [] f (fun a b c d e _ j k=>1000+a.toNat+b.toNat+c.toNat+d.toNat+e.toNat+j.length+k.length) (by kernel_rfl)
end Zav
namespace Zat
def sp:Spec:=mkSp ⟨[(0,.c (.sl u2))],[]⟩ ⟨[(0,.c (.row 41 u2))],[]⟩ g
noncomputable def T (ad:LQ):=mkF ad 15 [] sp [Zav.T ad,Zay.T ad] (fun n=>tj 8 ⟨[(0,.c (.sl u2)),(3,.c (.row 41 u2)),(4,Si),(5,Sp 0 0)],[(some 3,c2)]⟩ (fun ms=>j8 n (l3 n ms.head!)) <| tn) (fun n=>tl 3 ⟨[(0,.c (.sl u2)),(3,.c (.row 41 u2)),(4,Si)],[]⟩ (fun _=>l3 n) <| tn) t0 51 [] f (fun a=>1000+a.length) (by kernel_rfl)
end Zat
namespace Zbk
def sp:Spec:=mkSp ⟨[(0,.c (.sl u3)),(1,Ss)],[]⟩ ⟨[(0,Si),(1,SB)],[]⟩ g
noncomputable def T (ad:LQ):=mkF ad 29 [] sp [] t0 (fun n=>tl 2 ⟨[(0,.c (.sl u3)),(1,Ss),(6,Si)],[]⟩ (fun _=>l2 n) <| tn) t0 25 [] f (fun a b=>1000+a.length+b.length) (by kernel_rfl)
end Zbk
namespace Zam
def sp:Spec:=mkSp ⟨[(0,.c (.sl u1)),(1,.c (.sl u3))],[]⟩ ⟨[(0,.c (.row 44 u1))],[]⟩ g
noncomputable def T (ad:LQ):=mkF ad 32 [] sp [Zac.T ad] (fun n=>tj 4 ⟨[(1,.c (.sl u3)),(5,.c (.row 44 u1)),(6,Si)],[]⟩ (fun ms=>j4 n (l3 n ms.head!)) <| tn) (fun n=>tl 3 ⟨[(1,.c (.sl u3)),(5,.c (.row 44 u1)),(6,Si)],[]⟩ (fun _=>l3 n) <| tn) t0 55 [] f (fun a b=>1000+a.length+b.length) (by kernel_rfl)
end Zam
namespace Zaa
def sp:Spec:=mkSp ⟨[(0,.c (.sl u2))],[]⟩ ⟨[(0,.c (.row 41 u2))],[]⟩ g
noncomputable def T (ad:LQ):=mkF ad 14 [] sp [Zbk.T ad,Zam.T ad] (fun n=>tj 12 ⟨[(0,.c (.sl u2)),(3,.c (.row 41 u2)),(4,.c (.row 75 u3)),(5,Si),(6,Sp 0 0)],[(some 4,c2)]⟩ (fun ms=>j12 n (l4 n ms.head!)) <| tj 10 ⟨[(0,.c (.sl u2)),(3,.c (.row 41 u2)),(4,.c (.row 75 u3)),(5,Si),(6,Sp 0 0)],[(some 4,c2)]⟩ (fun ms=>j10 n (l4 n ms.head!)) <| tj 31 ⟨[(3,.c (.row 41 u2)),(4,.c (.row 75 u3)),(9,Si),(10,Sp 0 0),(14,Si)],[(some 3,c0)]⟩ (fun ms=>j31 n (l14 n ms.tail.head!) (l30 n (l14 n ms.tail.head!) ms.head!)) <| tj 36 ⟨[(3,.c (.row 41 u2)),(4,.c (.row 75 u3)),(9,Si),(10,Sp 0 0)],[(some 3,c0)]⟩ (fun ms=>j36 n (l14 n ms.head!)) <| tj 27 ⟨[(3,.c (.row 41 u2)),(4,.c (.row 75 u3)),(9,Si),(10,Sp 0 0)],[(some 3,c0)]⟩ (fun ms=>j27 n (l14 n ms.head!)) <| tj 26 ⟨[(3,.c (.row 41 u2)),(4,.c (.row 75 u3)),(9,Si),(10,Sp 0 0),(11,.c (.row 44 u1))],[(some 3,c0)]⟩ (fun ms=>j26 n (l14 n ms.head!)) <| tj 24 ⟨[(3,.c (.row 41 u2)),(4,.c (.row 75 u3)),(9,Si),(10,Sp 0 0),(11,.c (.row 44 u1)),(13,SB)],[(some 3,c0)]⟩ (fun ms=>j24 n (l14 n ms.head!)) <| tj 13 ⟨[(3,.c (.row 41 u2)),(4,.c (.row 75 u3))],[]⟩ (fun _=>j13 n) <| tn) (fun n=>tl 30 ⟨[(3,.c (.row 41 u2)),(4,.c (.row 75 u3)),(9,Si),(10,Sp 0 0),(14,Si)],[(some 3,c0)]⟩ (fun ms=>l30 n (l14 n ms.head!)) <| tl 20 ⟨[(3,.c (.row 41 u2)),(4,.c (.row 75 u3)),(9,Si),(10,Sp 0 0),(11,.c (.row 44 u1)),(12,Si)],[(some 3,c0)]⟩ (fun ms=>l20 n (l14 n ms.head!)) <| tl 14 ⟨[(3,.c (.row 41 u2)),(4,.c (.row 75 u3)),(9,Si)],[]⟩ (fun _=>l14 n) <| tl 4 ⟨[(0,.c (.sl u2)),(3,.c (.row 41 u2)),(4,.c (.row 75 u3)),(5,Si)],[]⟩ (fun _=>l4 n) <| tn) t0 164 [] f (fun a=>1000+a.length) (by kernel_rfl)
end Zaa
namespace rivetlaw21_AsmRefuses
def sp:Spec:=mkSp ⟨[(0,.c (.sl u2)),(1,Sb)],[]⟩ ⟨[(0,SB)],[]⟩ g
def Q (ad:LQ) (a_rivetlaw21_shown:Option (Bool×Unit)):Nat→Env sp.r.T:=envQ types maps [((7,[]),mkSp ⟨[],[]⟩ ⟨[(0,SB)],[]⟩ a_rivetlaw21_shown),(Zat.T ad).kv,(Zaa.T ad).kv,(Zar.T ad).kv] (fun n=>tj 6 ⟨[(1,Sb),(5,SB),(6,.c (.row 41 u2)),(7,.c (.row 41 u2)),(8,Si)],[]⟩ (fun ms=>j6 a_rivetlaw21_shown n (l5 a_rivetlaw21_shown n ms.head!)) <| tj 17 ⟨[(5,SB),(7,.c (.row 41 u2)),(11,Si),(16,Sp 0 0),(17,Sb),(18,.c (.row 41 u2))],[(some 3,c8)]⟩ (fun _=>j17 a_rivetlaw21_shown n) <| tn) (fun n=>tl 5 ⟨[(1,Sb),(5,SB),(6,.c (.row 41 u2)),(7,.c (.row 41 u2)),(8,Si)],[]⟩ (fun _=>l5 a_rivetlaw21_shown n) <| tn) t0 126 0 []
theorem q2 (ad:LQ) (a_rivetlaw21_shown:Option (Bool×Unit)):(fun (n:Nat)=>sL P 4 sp (Q ad a_rivetlaw21_shown n),fun n=>runE P 4 sp 126 (Q ad a_rivetlaw21_shown n))=(fun n=>sR P 4 sp (Q ad a_rivetlaw21_shown n),fun n=>ap sp.a.all (f a_rivetlaw21_shown n)):=by kernel_rfl
noncomputable def T (ad:LQ):=mkFa ad 4 [] sp [Zbp.T ad,Zat.T ad,Zaa.T ad,Zar.T ad] (fun n=>tj 6 ⟨[(1,Sb),(5,SB),(6,.c (.row 41 u2)),(7,.c (.row 41 u2)),(8,Si)],[]⟩ (fun ms=>j6 Zbp.g n (l5 Zbp.g n ms.head!)) <| tj 17 ⟨[(5,SB),(7,.c (.row 41 u2)),(11,Si),(16,Sp 0 0),(17,Sb),(18,.c (.row 41 u2))],[(some 3,c8)]⟩ (fun _=>j17 Zbp.g n) <| tn) (fun n=>tl 5 ⟨[(1,Sb),(5,SB),(6,.c (.row 41 u2)),(7,.c (.row 41 u2)),(8,Si)],[]⟩ (fun _=>l5 Zbp.g n) <| tn) t0 126 [] (fun n=>f Zbp.g n) (fun a b=>1000+a.length+b.toNat) (by kernel_rfl) (q2 ad Zbp.g)
end rivetlaw21_AsmRefuses
theorem rivetlaw21_AsmRefuses.sat:Sat P (LW ad) 4 rivetlaw21_AsmRefuses.sp:=(rivetlaw21_AsmRefuses.T ad).sat
end
end Rv
namespace Rv
open Go
theorem w64 {x:Int} (h:-9223372036854775808≤x∧x≤9223372036854775807):IntKind.i64.wrap x=x:=IntWalk.i64_in _ h
theorem w8u {x:Int} (h:0≤x∧x≤255):IntKind.u8.wrap x=x:=IntWalk.u8_in _ h
theorem dt {p:Prop} [Decidable p]:(decide p=true)=p:=by simp
theorem df {p:Prop} [Decidable p]:(decide p=false)=¬ p:=by simp
theorem bt_nat (s:Str) (k:Nat):bt s (k:Int)=((s.getD k 0).toNat:Int):=rfl
theorem byte_lt (b:UInt8):(b.toNat:Int) < 256:=by have:=b.toNat_lt; omega
theorem drop_cons {s:Str} {k:Nat} (h:k < s.length):s.drop k=s.getD k 0::s.drop (k+1):=by
 rw [List.drop_eq_getElem_cons h]
 congr 1
 simp [List.getD,h]
theorem byte_is (b:UInt8) (n:Nat) (hn:n < 256):((b.toNat:Int)=(n:Int))=(b=UInt8.ofNat n):=by
 apply propext
 constructor
 ·intro h
  apply UInt8.toNat_inj.1
  rw [UInt8.toNat_ofNat',Nat.mod_eq_of_lt hn]
  omega
 ·intro h
  rw [h,UInt8.toNat_ofNat',Nat.mod_eq_of_lt hn]
theorem wfU8 {n:Int} (h:(Lit.int .u8 n).wf=true):0≤n∧n≤255:=by
 simp [Lit.wf,IntKind.min,IntKind.max,IntKind.signed,IntKind.bits] at h; omega
theorem wfU32 {n:Int} (h:(Lit.int .u32 n).wf=true):0≤n∧n≤4294967295:=by
 simp [Lit.wf,IntKind.min,IntKind.max,IntKind.signed,IntKind.bits] at h; omega
theorem wfLen {n:Nat} (h:n≤maxLen):n≤9223372036854775807:=by unfold maxLen at h; omega
end Rv
namespace Rv
open Go
def isL (b:UInt8):Bool:=decide (65≤b.toNat∧b.toNat≤90∨97≤b.toNat∧b.toNat≤122∨b.toNat=95)
def isD (b:UInt8):Bool:=decide (48≤b.toNat∧b.toNat≤57)
def isW (b:UInt8):Bool:=isL b || isD b
def digOf (b:UInt8):Option Nat:=
 if 48≤b.toNat∧b.toNat≤57 then some (b.toNat - 48) else if 97≤b.toNat∧b.toNat≤122 then some (b.toNat - 87) else if 65≤b.toNat∧b.toNat≤90 then some (b.toNat - 55) else none
def numFrom (base:Nat):Nat→Str→Option Nat
 | n,[]=>some n
 | n,c::r=>match digOf c with
  | some d=>if d < base then (if n * base+d < 4294967296 then numFrom base (n * base+d) r else none) else none
  | none=>none
def num (s:Str):Option Nat:=
 if ([48,120]:Str).isPrefixOf s then (if s.drop 2=[] then none else numFrom 16 0 (s.drop 2)) else if s=[] then none else numFrom 10 0 s
abbrev Tok:=Int×Int×Str×Int×Unit
end Rv
namespace Rv
open Go
def shift (j:Int) (t:Tok):Tok:=(t.1,t.2.1+j,t.2.2)
end Rv
namespace Rv
open Go
end Rv
namespace Rv
open Go
theorem fit_byte:((List.range 12).all fun k=>isW ((([97,98,99,88,89,90,95,48,49,57,82,109]:Str).take (k+1)).drop k).head! && decide (((([97,98,99,88,89,90,95,48,49,57,82,109]:Str).take (k+1)).drop k).length=1))=true:=by decide +kernel
theorem fit07_loop2 {Q:UInt8→Prop} (s:Str) (hs:s.length≤9223372036854775807) (n:Nat):∀ (m i:Nat) (out:Str),i≤s.length→6 - i < m→i≤6→out.length=i+1→(∃ c r,out=c::r∧Q c)→out.all isW=true →
  ∃ r,Zaj.l4 n m s ([97,98,99,88,89,90,95,48,49,57,82,109]:Str) out (i:Int)=some (r,())∧(∃ c t,r=c::t∧Q c)∧r.all isW=true∧r.length≤7∧r.length≤s.length+1:=by
 intro m
 induction m with
 | zero=>intro i out _ h; omega
 | succ m ih=>
  intro i out hi hm h6 hl hh ha
  simp only [Zaj.l4,dt]
  by_cases h1:i < s.length
  ·rw [if_pos (by omega)]
   by_cases h2:i < 6
   ·rw [if_pos (by omega),if_pos (by omega),if_pos (by omega),bt_nat]
    have hb:=byte_lt (s.getD i 0)
    generalize s.getD i 0=b at *
    have e0:Int.tmod (IntKind.i64.wrap (b.toNat:Int)) 12=((b.toNat % 12:Nat):Int):=by
     rw [w64 (by omega)]
     have:Int.tmod (b.toNat:Int) 12=(b.toNat:Int) % 12:=Int.tmod_eq_emod_of_nonneg (by omega)
     rw [this]; omega
    rw [e0]
    have hk:b.toNat % 12 < 12:=Nat.mod_lt _ (by omega)
    generalize b.toNat % 12=k at *
    rw [w64 (x:=(k:Int)+1) (by omega),w64 (x:=(i:Int)+1) (by omega),show (k:Int)+1=((k+1:Nat):Int) by omega,show (i:Int)+1=((i+1:Nat):Int) by omega,Int.toNat_natCast,Int.toNat_natCast]
    have hf:=List.all_eq_true.1 fit_byte k (by simpa using hk)
    simp only [Bool.and_eq_true,decide_eq_true_eq] at hf
    obtain ⟨f1,f2⟩:=hf
    generalize ((([97,98,99,88,89,90,95,48,49,57,82,109]:Str).take (k+1)).drop k)=w at *
    obtain ⟨c,rfl⟩:∃ c,w=[c]:=by
     match w,f2 with
     | [c],_=>exact ⟨c,rfl⟩
    rw [if_pos ⟨by omega,by simp only [List.length_cons,List.length_nil]; omega⟩,if_pos ⟨by omega,by omega⟩,if_pos (by simp; omega)]
    refine ih (i+1) (out++[c]) (by omega) (by omega) (by omega) (by simp; omega) ?_ ?_
    ·obtain ⟨a,r,rfl,h⟩:=hh
     exact ⟨a,r++[c],rfl,h⟩
    ·have f1:isW c=true:=f1
     rw [List.all_append,ha,List.all_cons,f1]; rfl
   ·rw [if_neg (by omega)]
    exact ⟨out,rfl,hh,ha,by omega,by omega⟩
  ·rw [if_neg (by omega)]
   exact ⟨out,rfl,hh,ha,by omega,by omega⟩
theorem fit07_loop {Q:UInt8→Prop} (s:Str) (hs:s.length≤9223372036854775807) (n m i:Nat) (out:Str) (h1:i≤s.length) (h2:6 - i < m) (h3:i≤6) (h4:out.length=i+1) (h5:∃ c r,out=c::r∧Q c) (h6:out.all isW=true) :
  ∃ r,Zaj.l4 n m s ([97,98,99,88,89,90,95,48,49,57,82,109]:Str) out (i:Int)=some (r,())∧(∃ c t,r=c::t∧Q c)∧r.all isW=true∧r.length≤7:=by
 obtain ⟨r,g1,g2,g3,g4,_⟩:=fit07_loop2 s hs n m i out h1 h2 h3 h4 h5 h6
 exact ⟨r,g1,g2,g3,g4⟩
def isH (c:UInt8):Prop:=isL c=true∧c≠82∧isD c=false
theorem fit07_eq' (s:Str) (hs:s.length≤9223372036854775807):∃ r,Zaj.g s=some (r,())∧(∃ c t,r=c::t∧isH c∧(s.length≤6→c≠122))∧r.all isW=true∧r.length≤7:=by
 unfold Zaj.g Zaj.f
 have e1:Int.tmod (s.length:Int) 26=((s.length % 26:Nat):Int):=by
  have:Int.tmod (s.length:Int) 26=(s.length:Int) % 26:=Int.tmod_eq_emod_of_nonneg (by omega)
  rw [this]; omega
 have hk:s.length % 26 < 26:=Nat.mod_lt _ (by omega)
 rw [e1]
 have e2:IntKind.u8.wrap (97+IntKind.u8.wrap ((s.length % 26:Nat):Int))=((97+s.length % 26:Nat):Int):=by
  rw [w8u (x:=((s.length % 26:Nat):Int)) (by omega),w8u (by omega)]; omega
 rw [e2]
 have hb:bytesOf [((97+s.length % 26:Nat):Int)]=[UInt8.ofNat (97+s.length % 26)]:=rfl
 rw [hb]
 have hn:(UInt8.ofNat (97+s.length % 26)).toNat=97+s.length % 26:=by rw [UInt8.toNat_ofNat',Nat.mod_eq_of_lt (by omega)]
 have hL:isL (UInt8.ofNat (97+s.length % 26))=true:=by unfold isL; rw [hn]; simp; omega
 have hne:UInt8.ofNat (97+s.length % 26)≠82:=fun e=>by have:=congrArg UInt8.toNat e; rw [hn] at this; simp at this; omega
 have hD:isD (UInt8.ofNat (97+s.length % 26))=false:=by unfold isD; rw [hn,decide_eq_false_iff_not]; omega
 have hz:s.length≤6→UInt8.ofNat (97+s.length % 26)≠122:=fun h6 e=>by have:=congrArg UInt8.toNat e; rw [hn] at this; simp at this; omega
 exact fit07_loop (Q:=fun c=>isH c∧(s.length≤6→c≠122)) s hs (1000+s.length) (1000+s.length) 0 _ (by omega) (by omega) (by omega) rfl ⟨_,_,rfl,⟨hL,hne,hD⟩,hz⟩ (by rw [List.all_cons,isW,hL]; rfl)
end Rv
namespace Rv
open Go
def regLike (s:Str):Bool:=decide (s.getD 0 0=82) && (decide (s.length=2) || decide (s.length=3)) && (s.drop 1).all isD
def labelOk (s:Str):Bool:=decide (s≠[]) && decide (s.length≤12) && !isD (s.getD 0 0) && s.all isW && !regLike s
def labT (b:Int):Bool:=
 if bitsI .or .u8 b 32 < 97∨122 < bitsI .or .u8 b 32∨b < 65 then decide (b=95) || (!decide (b < 48) && !decide (57 < b)) else true
theorem labT_all:((List.range 256).all fun k=>labT k == isW (UInt8.ofNat k))=true:=by decide +kernel
theorem labT_eq (b:UInt8):labT b.toNat=isW b:=by
 have h:=List.all_eq_true.1 labT_all b.toNat (by simp; exact b.toNat_lt)
 simpa using h
theorem propTF (p:Prop):p=True∨p=False:=(Classical.em p).imp eq_true eq_false
theorem label_step (s:Str) (n m:Nat) (i:Nat) (h1:i < s.length) (X:Option (Bool×Unit)) (hX:Zad.j9 n (Zad.l4 n m) s (s.length:Int) (i:Int)=X) :
  Zad.l4 n (m+1) s (s.length:Int) (i:Int)=if labT (bt s i)=true then X else some (false,()):=by
 have hc:(0:Int)≤i∧(i:Int) < s.length:=by omega
 have hc2:(i:Int) < s.length:=hc.2
 simp only [Zad.l4,dt,df,hX,labT]
 by_cases a1:bitsI .or .u8 (bt s i) 32 < 97 <;> by_cases a2:122 < bitsI .or .u8 (bt s i) 32 <;> by_cases a3:bt s i < 65 <;> rcases propTF (bt s i=95) with a4 | a4 <;> by_cases a5:bt s i < 48 <;> by_cases a6:57 < bt s i <;>
  simp only [hc,hc2,a1,a2,a3,a4,a5,a6,if_true,if_false,not_true_eq_false,not_false_eq_true,ne_eq,true_or,or_true,or_false,false_or,or_self,and_self,true_and,decide_true,decide_false,Bool.true_or,Bool.false_or,Bool.not_true,Bool.not_false,Bool.and_true,Bool.and_false,Bool.false_and,Bool.true_and,Bool.or_self,Bool.or_false,Bool.or_true,Bool.false_eq_true]
theorem label_loop (s:Str) (hs:s.length≤12) (n:Nat):∀ (m i:Nat),i≤s.length→s.length - i < m →
  Zad.l4 n m s (s.length:Int) (i:Int)=if (s.drop i).all isW=true then Zad.l4 n 1 s (s.length:Int) (s.length:Int) else some (false,()):=by
 intro m
 induction m with
 | zero=>intro i _ h; omega
 | succ m ih=>
  intro i hi hm
  by_cases h1:i < s.length
  ·have hnext:Zad.j9 n (Zad.l4 n m) s (s.length:Int) (i:Int)=if (s.drop (i+1)).all isW=true then Zad.l4 n 1 s (s.length:Int) (s.length:Int) else some (false,()):=by
    unfold Zad.j9
    rw [w64 (by omega),show (i:Int)+1=((i+1:Nat):Int) by omega]
    exact ih (i+1) (by omega) (by omega)
   rw [label_step s n m i h1 _ hnext,bt_nat,labT_eq,drop_cons h1,List.all_cons]
   cases hw:isW (s.getD i 0)
   ·rfl
   ·rw [if_pos rfl,Bool.true_and]
  ·have hi':i=s.length:=by omega
   subst hi'
   rw [List.drop_length,List.all_nil,if_pos rfl]
   have hlt:¬ ((s.length:Int) < s.length):=by omega
   simp only [Zad.l4,dt,hlt,if_false]
theorem dig_eq (b:UInt8):L.isDig b=isD b:=by simp [L.isDig,isD]
theorem dropWhile_head {p:UInt8→Bool}:∀ {l:Str} {a:UInt8} {r:Str},l.dropWhile p=a::r→p a=false
 | [],_,_,h=>by simp at h
 | b::l,a,r,h=>by
  rw [List.dropWhile_cons] at h
  cases hb:p b
  ·rw [hb] at h
   simp only [Bool.false_eq_true,if_false,List.cons.injEq] at h
   rw [← h.1]; exact hb
  ·rw [hb] at h
   exact dropWhile_head (l:=l) (by simpa using h)
theorem trim_nil (s:Str):(L.trimDig s=[])=(s.all isD=true):=by
 have gen:∀ l:Str,(l.dropWhile L.isDig=[])↔l.all isD=true:=fun l=>by
  induction l with
  | nil=>simp
  | cons a l ih=>
   simp only [List.dropWhile_cons,List.all_cons,dig_eq]
   cases h:isD a
   ·simp
   ·simp [ih]
 unfold L.trimDig
 apply propext
 rw [gen]
 constructor
 ·intro h
  have h0:(s.reverse.dropWhile L.isDig)=[]:=by
   cases hr:s.reverse.dropWhile L.isDig with
   | nil=>rfl
   | cons a r=>
    exfalso
    rw [hr] at h
    have ha:isD a=true:=List.all_eq_true.1 h a (by simp)
    rw [← dig_eq,dropWhile_head hr] at ha
    cases ha
  rw [gen] at h0
  simpa using h0
 ·intro h
  have h0:s.reverse.dropWhile L.isDig=[]:=(gen _).2 (by simpa using h)
  rw [h0]; rfl
theorem label_eq (s:Str):Zad.g s=some (labelOk s,()):=by
 unfold Zad.g Zad.f
 simp only [dt,df]
 by_cases h0:s=[]
 ·subst h0; rw [if_neg (by simp)]; rfl
 ·rw [if_pos h0]
  have hl0:0 < s.length:=List.length_pos_iff.2 h0
  by_cases h12:s.length≤12
  ·rw [if_pos (by omega),if_pos (by omega)]
   have hj:¬ isD (s.getD 0 0)=true→Zad.j3 (1000+s.length) s=some (labelOk s,()):=fun hd=>by
    unfold Zad.j3
    have:=label_loop s h12 (1000+s.length) (1000+s.length) 0 (by omega) (by omega)
    rw [List.drop_zero] at this
    rw [show ((0:Nat):Int)=0 from rfl] at this
    rw [this]
    by_cases hw:s.all isW=true
    ·rw [if_pos hw]
     simp only [Zad.l4,dt,df,bt_nat]
     rw [if_neg (by omega),if_pos (by omega)]
     have hbt:bt s 0=((s.getD 0 0).toNat:Int):=rfl
     simp only [hbt]
     have h82:(((s.getD 0 0).toNat:Int)=82)=(s.getD 0 0=82):=byte_is _ 82 (by omega)
     simp only [h82]
     have htake:(s.take (s.length:Int).toNat).drop (1:Int).toNat=s.drop 1:=by
      rw [show (s.length:Int).toNat=s.length by omega,List.take_length]; rfl
     have htrim:s.length≤3→L.trimO ((s.take (s.length:Int).toNat).drop (1:Int).toNat) [48,49,50,51,52,53,54,55,56,57]=some (L.trimDig (s.drop 1),()):=fun h=>by
      rw [htake]
      unfold L.trimO
      rw [if_pos ⟨rfl,by simp; omega⟩]
     have hL:labelOk s=!regLike s:=by
      unfold labelOk
      rw [decide_eq_true (show s≠[] from h0),decide_eq_true h12,show isD (s.getD 0 0)=false by simpa using hd,hw]
      rfl
     have hT:decide (L.trimDig (s.drop 1)=[])=(s.drop 1).all isD:=by
      rw [Bool.eq_iff_iff,decide_eq_true_eq,trim_nil]
     rw [hL]
     unfold regLike
     by_cases hR:s.getD 0 0=82
     ·rw [if_pos hR,decide_eq_true hR]
      by_cases h2:s.length=2
      ·rw [if_neg (by omega),if_pos (by omega),htrim (by omega),Option.bind_some,decide_eq_true h2]
       dsimp only
       rw [hT]; rfl
      ·rw [if_pos (by omega),decide_eq_false h2]
       by_cases h3:s.length=3
       ·rw [if_pos (by omega),if_pos (by omega),htrim (by omega),Option.bind_some,decide_eq_true h3]
        dsimp only
        rw [hT]; rfl
       ·rw [if_neg (by omega),decide_eq_false h3]; rfl
     ·rw [if_neg hR,decide_eq_false hR]; rfl
    ·rw [if_neg hw]
     simp [labelOk,hw]
   have hbt:bt s 0=((s.getD 0 0).toNat:Int):=rfl
   simp only [hbt]
   by_cases h48:(48:Int)≤(s.getD 0 0).toNat
   ·rw [if_pos h48,if_pos (by omega)]
    by_cases h57:((s.getD 0 0).toNat:Int)≤57
    ·rw [if_pos h57]
     have hd:isD (s.getD 0 0)=true:=by unfold isD; rw [decide_eq_true_eq]; omega
     unfold labelOk
     rw [hd,decide_eq_true (show s≠[] from h0),decide_eq_true h12]; rfl
    ·rw [if_neg h57]
     exact hj (by unfold isD; rw [decide_eq_true_eq]; omega)
   ·rw [if_neg h48]
    exact hj (by unfold isD; rw [decide_eq_true_eq]; omega)
  ·rw [if_neg (by omega)]
   simp [labelOk,h12]
end Rv
namespace Rv
open Go
abbrev Item:=Int×Int×Str×Unit
def needsR (x:Item):Int×Bool:=
 if x.1=1 then (0,decide (x.2.2.1=[]))
 else if x.1=2 then (0,decide (x.2.1=0) && labelOk x.2.2.1)
 else if x.1=3 then (1,decide (x.2.1=0) && decide (x.2.2.1=[]))
 else if x.1=4∨x.1=5∨x.1=6 then (2,decide (x.2.1=0) && decide (x.2.2.1=[]))
 else (0,false)
theorem needs_eq (a b:Int) (c:Str):Zbq.g a b c=some ((needsR (a,b,c,())).1,(needsR (a,b,c,())).2,()):=by
 unfold Zbq.g Zbq.f
 simp only [Zbq.j2,dt,label_eq,Option.bind_some]
 unfold needsR
 dsimp only
 rcases propTF (b=0) with hb | hb
 all_goals
  by_cases h1:a=1
  ·subst h1; simp only [hb,if_true,if_false,decide_true,decide_false]
  by_cases h2:a=2
  ·subst h2; simp only [hb,if_true,if_false,decide_true,decide_false,Bool.true_and,Bool.false_and,show ¬ ((2:Int)=1) by decide]
  by_cases h3:a=3
  ·subst h3; simp only [hb,if_true,if_false,decide_true,decide_false,Bool.true_and,Bool.false_and,show ¬ ((3:Int)=1) by decide,show ¬ ((3:Int)=2) by decide]
  by_cases h4:a=4
  ·subst h4; simp only [hb,if_true,if_false,decide_true,decide_false,Bool.true_and,Bool.false_and,true_or,show ¬ ((4:Int)=1) by decide,show ¬ ((4:Int)=2) by decide,show ¬ ((4:Int)=3) by decide]
  by_cases h5:a=5
  ·subst h5; simp only [hb,if_true,if_false,decide_true,decide_false,Bool.true_and,Bool.false_and,true_or,or_true,show ¬ ((5:Int)=1) by decide,show ¬ ((5:Int)=2) by decide,show ¬ ((5:Int)=3) by decide,show ¬ ((5:Int)=4) by decide]
  by_cases h6:a=6
  ·subst h6; simp only [hb,if_true,if_false,decide_true,decide_false,Bool.true_and,Bool.false_and,true_or,or_true,show ¬ ((6:Int)=1) by decide,show ¬ ((6:Int)=2) by decide,show ¬ ((6:Int)=3) by decide,show ¬ ((6:Int)=4) by decide,show ¬ ((6:Int)=5) by decide]
  simp only [hb,h1,h2,h3,h4,h5,h6,if_true,if_false,or_self]
def wellR:Int→List Item→Bool
 | t,[]=>decide (t=1)
 | t,x::r=>(needsR x).2 && (!decide (t < (needsR x).1) && wellR (t+(1 - (needsR x).1)) r)
def well (e:List Item):Bool:=wellR 0 e && decide (e.length≤64)
theorem needs_range (x:Item):0≤(needsR x).1∧(needsR x).1≤2:=by
 unfold needsR
 split
 ·simp
 ·split
  ·simp
  ·split
   ·simp
   ·split <;> simp
theorem well_loop (e:List Item) (he:e.length≤4611686018427387904) (n:Nat):∀ (m i:Nat) (t:Int),i≤e.length→e.length - i < m→0≤t→t≤i →
  Zbj.l3 n m e t e (e.length:Int) (i:Int)=some (wellR t (e.drop i) && decide (e.length≤64),()):=by
 intro m
 induction m with
 | zero=>intro i t _ h; omega
 | succ m ih=>
  intro i t hi hm h0 ht
  by_cases h1:i < e.length
  ·have hx:e.drop i=e.getD i ((0:Int),((0:Int),(([]:Str),())))::e.drop (i+1):=by
    rw [List.drop_eq_getElem_cons h1,List.getD_eq_getElem?_getD,List.getElem?_eq_getElem h1]; rfl
   rw [hx]
   simp only [Zbj.l3,dt,df,needs_eq,Option.bind_some]
   rw [if_pos (by omega),if_pos (by omega),Int.toNat_natCast]
   generalize e.getD i ((0:Int),((0:Int),(([]:Str),())))=x
   obtain ⟨a,b,c,u⟩:=x
   cases u
   have hr:=needs_range (a,b,c,())
   simp only [wellR]
   generalize needsR (a,b,c,())=y at *
   obtain ⟨k,ok⟩:=y
   simp only at hr ⊢
   cases ok
   ·rfl
   ·rw [if_pos (show (!true)=false from rfl)]
    by_cases h2:t < k
    ·rw [if_pos h2]; simp [h2]
    ·rw [if_neg h2,w64 (x:=1 - k) (by omega),w64 (x:=t+(1 - k)) (by omega),w64 (x:=(i:Int)+1) (by omega),show (i:Int)+1=((i+1:Nat):Int) by omega]
     rw [ih (i+1) (t+(1 - k)) (by omega) (by omega) (by omega) (by omega)]
     simp [h2]
  ·have hi':i=e.length:=by omega
   subst hi'
   simp only [Zbj.l3,dt]
   rw [if_neg (by omega),List.drop_length]
   simp only [wellR]
   by_cases h3:t=1
   ·rw [if_pos h3]
    simp [h3]
    omega
   ·rw [if_neg h3]; simp [h3]
theorem well_eq (e:List Item) (he:e.length≤4611686018427387904):Zbj.g e=some (well e,()):=by
 unfold Zbj.g Zbj.f
 exact well_loop e he _ _ 0 0 (by omega) (by omega) (by omega) (by omega)
end Rv
namespace Rv
open Go
abbrev Sym:=Str×Int×Unit
def findR (s:Str):List Sym→Option Int
 | []=>none
 | x::r=>if x.1=s then some x.2.1 else findR s r
def findI (s:Str):List Sym→Option Nat
 | []=>none
 | x::r=>if x.1=s then some 0 else (findI s r).map (·+1)
theorem index_loop (l:List Sym) (s:Str) (hl:l.length≤4611686018427387904) (n:Nat):∀ (m i:Nat),i≤l.length→l.length - i < m →
  Zbn.l2 n m l (l.length:Int) (i:Int) s=some ((match findI s (l.drop i) with | some k=>((i+k:Nat):Int) | none=>-1),s,()):=by
 intro m
 induction m with
 | zero=>intro i _ h; omega
 | succ m ih=>
  intro i hi hm
  by_cases h1:i < l.length
  ·have hx:l.drop i=l.getD i (([]:Str),((0:Int),()))::l.drop (i+1):=by
    rw [List.drop_eq_getElem_cons h1,List.getD_eq_getElem?_getD,List.getElem?_eq_getElem h1]; rfl
   rw [hx]
   simp only [Zbn.l2,dt,Zct.g,Zct.f,Option.bind_some]
   rw [if_pos (by omega),if_pos (by omega),Int.toNat_natCast]
   generalize l.getD i (([]:Str),((0:Int),()))=x
   unfold findI
   by_cases h2:x.1=s
   ·rw [if_pos h2,if_pos h2]; simp
   ·rw [if_neg h2,if_neg h2,w64 (by omega),show (i:Int)+1=((i+1:Nat):Int) by omega,ih (i+1) (by omega) (by omega)]
    cases findI s (l.drop (i+1)) with
    | none=>rfl
    | some k=>simp only [Option.map_some]; rw [show i+1+k=i+(k+1) by omega]
  ·have hi':i=l.length:=by omega
   subst hi'
   simp only [Zbn.l2,dt]
   rw [if_neg (by omega),List.drop_length]
   rfl
theorem findI_some (s:Str):∀ {l:List Sym} {k:Nat},findI s l=some k→k < l.length∧findR s l=some (l.getD k (([]:Str),((0:Int),()))).2.1
 | [],_,h=>by cases h
 | x::r,k,h=>by
  unfold findI at h
  unfold findR
  by_cases h2:x.1=s
  ·rw [if_pos h2] at h ⊢
   cases h
   exact ⟨by simp,rfl⟩
  ·rw [if_neg h2] at h ⊢
   obtain ⟨j,hj,rfl⟩:=Option.map_eq_some_iff.1 h
   obtain ⟨h3,h4⟩:=findI_some s hj
   exact ⟨by simp; omega,by rw [h4]; rfl⟩
theorem findI_none (s:Str):∀ {l:List Sym},findI s l=none→findR s l=none
 | [],_=>rfl
 | x::r,h=>by
  unfold findI at h
  unfold findR
  by_cases h2:x.1=s
  ·rw [if_pos h2] at h; cases h
  ·rw [if_neg h2] at h ⊢
   exact findI_none s (Option.map_eq_none_iff.1 h)
theorem find_eq (l:List Sym) (s:Str) (hl:l.length≤4611686018427387904):Zbo.g l s=some ((findR s l).getD 0,(findR s l).isSome,()):=by
 unfold Zbo.g Zbo.f Zbn.g Zbn.f
 rw [show (0:Int)=((0:Nat):Int) from rfl,index_loop l s hl _ _ 0 (by omega) (by omega),Option.bind_some,List.drop_zero]
 dsimp only
 cases h:findI s l with
 | none=>
  rw [findI_none s h]
  rfl
 | some k=>
  obtain ⟨h1,h2⟩:=findI_some s h
  rw [h2]
  simp only [dt]
  rw [if_neg (by omega),if_pos (by omega)]
  simp
end Rv
namespace Rv
open Go
abbrev Val:=Int×Int×Unit
theorem pop_eq (l:List Val) (v:Val) (hl:l.length≤4611686018427387904):Zbc.g (l++[v])=some (v.1,v.2.1,l,()):=by
 unfold Zbc.g Zbc.f
 have e1:IntKind.i64.wrap (((l++[v]).length:Int) - 1)=(l.length:Int):=by
  rw [w64 (by simp; omega)]; simp
 have e2:(l++[v]).getD l.length ((0:Int),((0:Int),()))=v:=by
  rw [List.getD_eq_getElem?_getD,List.getElem?_append_right (Nat.le_refl _)]; simp
 rw [e1,Int.toNat_natCast,if_pos (by simp; omega),if_pos (by simp; omega),e2,List.take_left]
def stepR (labels:List Sym) (st:List Val) (x:Item):Except Int (List Val):=
 if x.1=2 then match findR x.2.2.1 labels with
  | some a=>.ok (st++[(IntKind.u32.wrap a,1,())])
  | none=>.error 25
 else if x.1=3 then match st.getLast? with
  | some v=>.ok (st.dropLast++[(IntKind.u32.wrap (0 - v.1),IntKind.i64.wrap (0 - v.2.1),())])
  | none=>.error 99
 else if x.1=4∨x.1=5∨x.1=6 then match st.getLast?,st.dropLast.getLast? with
  | some b,some a=>
   if x.1=4 then .ok (st.dropLast.dropLast++[(IntKind.u32.wrap (a.1+b.1),IntKind.i64.wrap (a.2.1+b.2.1),())])
   else if x.1=5 then .ok (st.dropLast.dropLast++[(IntKind.u32.wrap (a.1 - b.1),IntKind.i64.wrap (a.2.1 - b.2.1),())])
   else if a.2.1=0∧b.2.1=0 then .ok (st.dropLast.dropLast++[(IntKind.u32.wrap (a.1 * b.1),0,())])
   else .error 27
  | _,_=>.error 99
 else .ok (st++[(x.2.1,0,())])
def runR (labels:List Sym):List Val→List Item→Except Int (List Val)
 | st,[]=>.ok st
 | st,x::r=>match stepR labels st x with
  | .ok st=>runR labels st r
  | .error e=>.error e
theorem times_neg (a b:Int):Zca.g a b (-1)=some (IntKind.u32.wrap (0 - a),IntKind.i64.wrap (0 - b),()):=by
 unfold Zca.g Zca.f
 have e1:IntKind.u32.wrap (-1)=4294967295:=by rw [IntKind.wrap_u32]; rfl
 have e2:IntKind.u32.wrap (4294967295 * a)=IntKind.u32.wrap (0 - a):=by rw [IntKind.wrap_u32,IntKind.wrap_u32]; omega
 rw [e1,e2,show -1 * b=0 - b by omega]
theorem sum_eq (a b c d:Int):Zcu.g a b c d=some (IntKind.u32.wrap (a+c),IntKind.i64.wrap (b+d),()):=rfl
theorem i64_add_neg (a b:Int):IntKind.i64.wrap (a+IntKind.i64.wrap (0 - b))=IntKind.i64.wrap (a - b):=by
 rw [IntKind.wrap_i64,IntKind.wrap_i64,IntKind.wrap_i64]; omega
theorem u32_add_neg (a b:Int):IntKind.u32.wrap (a+IntKind.u32.wrap (0 - b))=IntKind.u32.wrap (a - b):=by
 rw [IntKind.wrap_u32,IntKind.wrap_u32,IntKind.wrap_u32]; omega
end Rv
namespace Rv
open Go
def lastV (st:List Val):Option (Int×Int×Int×Unit):=
 match st.getLast? with
 | some v=>some (v.1,v.2.1,0,())
 | none=>none
theorem of_push (labels:List Sym) (e:List Item) (n:Nat) (rl) (t:Int) (i:Nat) (hi:i≤1000) (b0 b1:Int) (st:List Val) (hst:st.length≤1000) (v0 v1:Int) :
  Zae.j27 n rl labels e t (i:Int) b0 b1 st v0 v1=rl labels e t ((i+1:Nat):Int) b0 b1 (st++[(v0,v1,())]):=by
 unfold Zae.j27
 rw [if_pos (by simp; omega),w64 (by omega)]
 rfl
theorem snocV (st:List Val):st=[]∨∃ l v,st=l++[v]:=by
 rcases List.eq_nil_or_concat st with h | ⟨l,v,h⟩
 ·exact .inl h
 ·exact .inr ⟨l,v,by rw [h,List.concat_eq_append]⟩
theorem last1 (l:List Val) (v:Val):(l++[v]).getLast?=some v∧(l++[v]).dropLast=l:=by simp
theorem of_loop (labels:List Sym) (hlab:labels.length≤4611686018427387904) (e:List Item) (he:e.length≤999) (n:Nat):∀ (m i:Nat) (st:List Val) (b0 b1:Int),i≤e.length→e.length - i < m→wellR (st.length:Int) (e.drop i)=true→st.length≤i →
  Zae.l5 n m labels e (e.length:Int) (i:Int) b0 b1 st=match runR labels st (e.drop i) with
   | .error x=>some (0,0,x,())
   | .ok st'=>lastV st':=by
 intro m
 induction m with
 | zero=>intro i st b0 b1 _ h; omega
 | succ m ih=>
  intro i st b0 b1 hi hm hw hst
  by_cases h1:i < e.length
  ·have hx:e.drop i=e.getD i ((0:Int),((0:Int),(([]:Str),())))::e.drop (i+1):=by
    rw [List.drop_eq_getElem_cons h1,List.getD_eq_getElem?_getD,List.getElem?_eq_getElem h1]; rfl
   rw [hx] at hw ⊢
   simp only [Zae.l5,dt,df]
   rw [if_pos (by omega),if_pos (by omega),Int.toNat_natCast]
   generalize e.getD i ((0:Int),((0:Int),(([]:Str),())))=x at hw ⊢
   obtain ⟨a,b,c,u⟩:=x
   cases u
   simp only [wellR,Bool.and_eq_true,Bool.not_eq_true',decide_eq_false_iff_not] at hw
   obtain ⟨hk,hlt,hw⟩:=hw
   have next:∀ (s:List Val) (v0 v1:Int),s.length+1≤i+1→wellR ((s.length+1:Nat):Int) (e.drop (i+1))=true →
     Zae.j27 n (Zae.l5 n m) labels e (e.length:Int) (i:Int) b0 b1 s v0 v1=match runR labels (s++[(v0,v1,())]) (e.drop (i+1)) with
      | .error x=>some (0,0,x,())
      | .ok st'=>lastV st':=fun s v0 v1 hs hws=>by
    rw [of_push labels e n _ _ i (by omega) b0 b1 s (by omega) v0 v1]
    exact ih (i+1) _ b0 b1 (by omega) (by omega) (by simpa using hws) (by simpa using hs)
   simp only [runR,stepR]
   by_cases k2:a=2
   ·subst k2
    rw [if_pos rfl,if_pos rfl,find_eq labels c hlab,Option.bind_some]
    have e0:(needsR (2,b,c,())).1=0:=rfl
    rw [e0] at hw
    cases hf:findR c labels with
    | none=>rfl
    | some at_=>
     dsimp only [Option.isSome,Option.getD]
     rw [if_neg (by simp)]
     exact next st _ 1 (by omega) (by simpa using hw)
   ·rw [if_neg k2,if_neg k2]
    by_cases k3:a=3
    ·subst k3
     have e0:(needsR (3,b,c,())).1=1:=rfl
     rw [e0] at hlt hw
     rcases snocV st with rfl | ⟨l,v,rfl⟩
     ·simp at hlt
     ·obtain ⟨g1,g2⟩:=last1 l v
      rw [if_pos rfl,if_pos rfl,g1,g2,pop_eq l v (by simp at hst; omega),Option.bind_some]
      dsimp only
      rw [times_neg,Option.bind_some]
      exact next l _ _ (by simp at hst; omega) (by simpa using hw)
    ·rw [if_neg k3,if_neg k3]
     by_cases k4:a=4∨a=5∨a=6
     ·have e0:(needsR (a,b,c,())).1=2:=by
       unfold needsR
       rcases k4 with rfl | rfl | rfl <;> rfl
      rw [e0] at hlt hw
      rcases snocV st with rfl | ⟨l0,v,rfl⟩
      ·simp at hlt
      ·rcases snocV l0 with rfl | ⟨l,w,rfl⟩
       ·simp at hlt
       ·obtain ⟨g1,g2⟩:=last1 (l++[w]) v
        obtain ⟨g3,g4⟩:=last1 l w
        have hl:l.length≤1000:=by simp at hst; omega
        have hn:=next l
        rw [if_pos k4,g1,g2,g3,g4,pop_eq (l++[w]) v (by simp; omega),Option.bind_some]
        dsimp only
        have hp2:=pop_eq l w (by omega)
        simp only [hp2,Option.bind_some,sum_eq,times_neg,u32_add_neg,i64_add_neg]
        have hs1:l.length+1≤i+1:=by simp at hst; omega
        have hw1:wellR ((l.length+1:Nat):Int) (e.drop (i+1))=true:=by
         have:((l++[w]++[v]).length:Int)+(1 - 2)=((l.length+1:Nat):Int):=by simp; omega
         rw [← this]; exact hw
        rcases k4 with rfl | rfl | rfl
        ·rw [if_pos rfl,if_pos rfl,Int.add_comm v.1 w.1,Int.add_comm v.2.1 w.2.1]
         exact next l _ _ hs1 hw1
        ·rw [if_neg (show ¬ (5:Int)=4 by decide),if_neg (show ¬ (5:Int)=4 by decide),if_pos rfl,if_pos rfl]
         exact next l _ _ hs1 hw1
        ·rw [if_neg (show ¬ (6:Int)=4 by decide),if_neg (show ¬ (6:Int)=4 by decide),if_neg (show ¬ (6:Int)=5 by decide),if_neg (show ¬ (6:Int)=5 by decide),if_pos rfl]
         by_cases z1:v.2.1=0
         ·by_cases z2:w.2.1=0
          ·rw [if_pos (show w.2.1=0∧v.2.1=0 from ⟨z2,z1⟩)]
           simp only [z1,z2,decide_true,Bool.and_self,Bool.not_true,if_true]
           rw [if_neg (by decide),Int.mul_comm v.1 w.1]
           exact next l _ _ hs1 hw1
          ·rw [if_neg (show ¬ (w.2.1=0∧v.2.1=0) from fun h=>z2 h.1)]
           simp [z1,z2]
         ·rw [if_neg (show ¬ (w.2.1=0∧v.2.1=0) from fun h=>z1 h.2)]
          simp [z1]
     ·have ha:a=1:=by
       apply Classical.byContradiction
       intro h1'
       have:(needsR (a,b,c,())).2=false:=by
        unfold needsR
        simp [h1',k2,k3,k4]
       rw [this] at hk
       cases hk
      subst ha
      have e0:(needsR (1,b,c,())).1=0:=rfl
      rw [e0] at hw
      rw [if_neg k4,if_neg (show ¬ (1:Int)=4 by decide),if_neg (show ¬ (1:Int)=5 by decide),if_neg (show ¬ (1:Int)=6 by decide)]
      exact next st b 0 (by omega) (by simpa using hw)
  ·have hi':i=e.length:=by omega
   subst hi'
   simp only [Zae.l5,dt]
   rw [if_neg (by omega),List.drop_length]
   simp only [runR]
   rw [List.drop_length] at hw
   rcases snocV st with rfl | ⟨l,v,rfl⟩
   ·simp [wellR] at hw
   ·rw [pop_eq l v (by simp at hst; omega),Option.bind_some]
    simp [lastV]
def ofR (labels:List Sym) (e:List Item):Option (Int×Int×Int×Unit):=
 if well e=true then (match runR labels [] e with
  | .error x=>some (0,0,x,())
  | .ok st=>lastV st)
 else some (0,0,23,())
theorem of_eq (labels:List Sym) (hlab:labels.length≤4611686018427387904) (e:List Item) (he:e.length≤4611686018427387904):Zae.g e labels=ofR labels e:=by
 unfold Zae.g Zae.f ofR
 rw [well_eq e he,Option.bind_some]
 dsimp only
 by_cases hw:well e=true
 ·rw [hw,if_neg (by decide),if_pos rfl]
  unfold well at hw
  rw [Bool.and_eq_true,decide_eq_true_eq] at hw
  exact of_loop labels hlab e (by omega) _ _ 0 [] 0 0 (by omega) (by omega) (by simpa using hw.1) (by simp)
 ·have hw':well e=false:=by simpa using hw
  rw [hw']
  rfl
end Rv
namespace Rv
open Go
def enough:Int→List Item→Option Int
 | t,[]=>some t
 | t,x::r=>if (needsR x).2=true∧¬ t < (needsR x).1 then enough (t+(1 - (needsR x).1)) r else none
theorem wellR_enough:∀ (e:List Item) (t:Int),(wellR t e=true)=(enough t e=some 1)
 | [],t=>by simp [wellR,enough]
 | x::r,t=>by
  simp only [wellR,enough,Bool.and_eq_true,Bool.not_eq_true',decide_eq_false_iff_not]
  by_cases h:(needsR x).2=true∧¬ t < (needsR x).1
  ·rw [if_pos h,← wellR_enough r]
   simp [h.1,h.2]
  ·rw [if_neg h]
   apply propext
   constructor
   ·intro h'; exact absurd ⟨h'.1,h'.2.1⟩ h
   ·intro h'; cases h'
theorem enough_app:∀ (a b:List Item) (t:Int),enough t (a++b)=(enough t a).bind fun k=>enough k b
 | [],b,t=>rfl
 | x::a,b,t=>by
  simp only [List.cons_append,enough]
  split
  ·exact enough_app a b _
  ·rfl
def wellL (e:List Item):Prop:=enough 0 e=some 1
end Rv
namespace Rv
open Go
theorem step_len (labels:List Sym) (x:Item) (st st':List Val) (hk:(needsR x).2=true) (hl:¬ (st.length:Int) < (needsR x).1) (h:stepR labels st x=.ok st'):(st'.length:Int)=st.length+(1 - (needsR x).1):=by
 obtain ⟨a,b,c,u⟩:=x
 cases u
 unfold stepR at h
 dsimp only at h
 by_cases k2:a=2
 ·subst k2
  rw [if_pos rfl] at h
  have e0:(needsR (2,b,c,())).1=0:=rfl
  rw [e0]
  split at h
  ·cases h; simp
  ·cases h
 ·rw [if_neg k2] at h
  by_cases k3:a=3
  ·subst k3
   have e0:(needsR (3,b,c,())).1=1:=rfl
   rw [e0] at hl ⊢
   rcases snocV st with rfl | ⟨l,v,rfl⟩
   ·simp at hl
   ·rw [if_pos rfl,(last1 l v).1,(last1 l v).2] at h
    cases h; simp
  ·rw [if_neg k3] at h
   by_cases k4:a=4∨a=5∨a=6
   ·have e0:(needsR (a,b,c,())).1=2:=by
     unfold needsR
     rcases k4 with rfl | rfl | rfl <;> rfl
    rw [e0] at hl ⊢
    rcases snocV st with rfl | ⟨l0,v,rfl⟩
    ·simp at hl
    ·rcases snocV l0 with rfl | ⟨l,w,rfl⟩
     ·simp at hl
     ·rw [if_pos k4,(last1 _ v).1,(last1 _ v).2,(last1 l w).1,(last1 l w).2] at h
      dsimp only at h
      split at h
      ·cases h; simp; omega
      ·split at h
       ·cases h; simp; omega
       ·split at h
        ·cases h; simp; omega
        ·cases h
   ·rw [if_neg k4] at h
    have ha:a=1:=by
     apply Classical.byContradiction
     intro h1'
     have:(needsR (a,b,c,())).2=false:=by
      unfold needsR
      simp [h1',k2,k3,k4]
     rw [this] at hk
     cases hk
    subst ha
    have e0:(needsR (1,b,c,())).1=0:=rfl
    rw [e0]
    cases h; simp
def onE (f:List Val→List Val):Except Int (List Val)→Except Int (List Val)
 | .ok l=>.ok (f l)
 | .error e=>.error e
theorem step_base (labels:List Sym) (x:Item) (base st:List Val) (hl:¬ (st.length:Int) < (needsR x).1):stepR labels (base++st) x=onE (base++·) (stepR labels st x):=by
 obtain ⟨a,b,c,u⟩:=x
 cases u
 unfold stepR
 dsimp only
 by_cases k2:a=2
 ·subst k2
  rw [if_pos rfl,if_pos rfl]
  cases findR c labels with
  | none=>rfl
  | some y=>simp [onE]
 ·rw [if_neg k2,if_neg k2]
  by_cases k3:a=3
  ·subst k3
   have e0:(needsR (3,b,c,())).1=1:=rfl
   rw [e0] at hl
   rcases snocV st with rfl | ⟨l,v,rfl⟩
   ·simp at hl
   ·rw [if_pos rfl,if_pos rfl,← List.append_assoc,(last1 (base++l) v).1,(last1 (base++l) v).2,(last1 l v).1,(last1 l v).2]
    simp [onE]
  ·rw [if_neg k3,if_neg k3]
   by_cases k4:a=4∨a=5∨a=6
   ·have e0:(needsR (a,b,c,())).1=2:=by
     unfold needsR
     rcases k4 with rfl | rfl | rfl <;> rfl
    rw [e0] at hl
    rcases snocV st with rfl | ⟨l0,v,rfl⟩
    ·simp at hl
    ·rcases snocV l0 with rfl | ⟨l,w,rfl⟩
     ·simp at hl
     ·rw [if_pos k4,if_pos k4,← List.append_assoc,← List.append_assoc,(last1 (base++l++[w]) v).1,(last1 (base++l++[w]) v).2,(last1 (base++l) w).1,(last1 (base++l) w).2,(last1 (l++[w]) v).1,(last1 (l++[w]) v).2,(last1 l w).1,(last1 l w).2]
      dsimp only
      split
      ·simp [onE]
      ·split
       ·simp [onE]
       ·split
        ·simp [onE]
        ·rfl
   ·rw [if_neg k4,if_neg k4]
    simp [onE]
theorem run_base (labels:List Sym):∀ (e:List Item) (base st:List Val) (k:Int),enough (st.length:Int) e=some k→runR labels (base++st) e=onE (base++·) (runR labels st e)∧∀ st',runR labels st e=.ok st'→(st'.length:Int)=k
 | [],base,st,k,h=>by
  simp only [enough,Option.some.injEq] at h
  exact ⟨rfl,fun st' h'=>by cases h'; exact h⟩
 | x::e,base,st,k,h=>by
  simp only [enough] at h
  split at h
  ·rename_i hc
   simp only [runR]
   rw [step_base labels x base st hc.2]
   cases hs:stepR labels st x with
   | error er=>exact ⟨rfl,fun st' h'=>by cases h'⟩
   | ok s2=>
    have hl:=step_len labels x st s2 hc.1 hc.2 hs
    rw [← hl] at h
    exact run_base labels e base s2 k h
  ·cases h
end Rv
namespace Rv
open Go
theorem run_well (labels:List Sym) {e:List Item} (h:wellL e):(∃ x,runR labels [] e=.error x)∨∃ v,runR labels [] e=.ok [v]:=by
 obtain ⟨_,h2⟩:=run_base labels e [] [] 1 h
 cases hr:runR labels [] e with
 | error x=>exact .inl ⟨x,rfl⟩
 | ok st=>
  have:=h2 st hr
  match st,this with
  | [v],_=>exact .inr ⟨v,rfl⟩
end Rv
namespace Rv
open Go
def okV (v:Val):Prop:=(0≤v.1∧v.1≤4294967295)∧(-9223372036854775808≤v.2.1∧v.2.1≤9223372036854775807)
theorem u32_range (a:Int):0≤IntKind.u32.wrap a∧IntKind.u32.wrap a≤4294967295:=by rw [IntKind.wrap_u32]; omega
theorem i64_range (a:Int):-9223372036854775808≤IntKind.i64.wrap a∧IntKind.i64.wrap a≤9223372036854775807:=by rw [IntKind.wrap_i64]; omega
theorem okV_wrap (a b:Int):okV (IntKind.u32.wrap a,IntKind.i64.wrap b,()):=⟨u32_range a,i64_range b⟩
theorem okV_c {a c:Int} (h1:0≤a∧a≤4294967295) (h2:-9223372036854775808≤c∧c≤9223372036854775807):okV (a,c,()):=⟨h1,h2⟩
theorem mem_dropLast {α:Type} {l:List α} {x:α} (h:x∈l.dropLast):x∈l:=List.dropLast_subset l h
theorem step_okV {labels:List Sym} {x:Item} {st st':List Val} (hx:0≤x.2.1∧x.2.1≤4294967295) (hst:∀ v∈st,okV v) (h:stepR labels st x=.ok st'):∀ v∈st',okV v:=by
 have snoc:∀ (l:List Val) (u:Val),(∀ v∈l,okV v)→okV u→∀ v∈l++[u],okV v:=fun l u hl hu v hv=>by
  rcases List.mem_append.1 hv with hv | hv
  ·exact hl v hv
  ·rw [List.mem_singleton] at hv; subst hv; exact hu
 have hd:∀ v∈st.dropLast,okV v:=fun v hv=>hst v (mem_dropLast hv)
 have hdd:∀ v∈st.dropLast.dropLast,okV v:=fun v hv=>hd v (mem_dropLast hv)
 unfold stepR at h
 split at h
 ·split at h
  ·simp only [Except.ok.injEq] at h; subst h
   exact snoc _ _ hst (okV_c (u32_range _) (by decide))
  ·cases h
 ·split at h
  ·split at h
   ·simp only [Except.ok.injEq] at h; subst h
    exact snoc _ _ hd (okV_wrap _ _)
   ·cases h
  ·split at h
   ·split at h
    ·split at h
     ·simp only [Except.ok.injEq] at h; subst h
      exact snoc _ _ hdd (okV_wrap _ _)
     ·split at h
      ·simp only [Except.ok.injEq] at h; subst h
       exact snoc _ _ hdd (okV_wrap _ _)
      ·split at h
       ·simp only [Except.ok.injEq] at h; subst h
        exact snoc _ _ hdd (okV_c (u32_range _) (by decide))
       ·cases h
    ·cases h
   ·simp only [Except.ok.injEq] at h; subst h
    exact snoc _ _ hst (okV_c hx (by decide))
theorem run_okV {labels:List Sym}:∀ {e:List Item} {st st':List Val},(∀ x∈e,0≤x.2.1∧x.2.1≤4294967295)→(∀ v∈st,okV v)→runR labels st e=.ok st'→∀ v∈st',okV v
 | [],st,st',_,hst,h=>by
  simp only [runR,Except.ok.injEq] at h
  subst h; exact hst
 | x::e,st,st',hx,hst,h=>by
  simp only [runR] at h
  cases hs:stepR labels st x with
  | ok s=>
   rw [hs] at h
   exact run_okV (fun y hy=>hx y (by simp [hy])) (step_okV (hx x (by simp)) hst hs) h
  | error k=>rw [hs] at h; cases h
theorem step_err {labels:List Sym} {x:Item} {st:List Val} {k:Int} (h:stepR labels st x=.error k):k=25∨k=99∨k=27:=by
 unfold stepR at h
 split at h
 ·split at h
  ·cases h
  ·cases h; simp
 ·split at h
  ·split at h
   ·cases h
   ·cases h; simp
  ·split at h
   ·split at h
    ·split at h
     ·cases h
     ·split at h
      ·cases h
      ·split at h
       ·cases h
       ·cases h; simp
    ·cases h; simp
   ·cases h
theorem run_err {labels:List Sym}:∀ {e:List Item} {st:List Val} {k:Int},runR labels st e=.error k→k≠0
 | [],st,k,h=>by cases h
 | x::e,st,k,h=>by
  simp only [runR] at h
  cases hs:stepR labels st x with
  | ok s=>rw [hs] at h; exact run_err h
  | error k'=>
   rw [hs] at h
   cases h
   rcases step_err hs with rfl | rfl | rfl <;> decide
theorem step_congr {l1 l2:List Sym} {x:Item} (h:x.1=2→findR x.2.2.1 l1=findR x.2.2.1 l2) (st:List Val):stepR l1 st x=stepR l2 st x:=by
 unfold stepR
 by_cases h2:x.1=2
 ·rw [if_pos h2,if_pos h2,h h2]
 ·rw [if_neg h2,if_neg h2]
end Rv
namespace Rv
open Go
def sizeN (x:Ln):Nat:=if x.2.1.1=0∨x.2.1.1=10 then 0 else 1
theorem sizeN_le (x:Ln):sizeN x≤1:=by unfold sizeN; split <;> omega
def placeR:List Ln→Nat→List Int→List Sym→Nat→Except (Nat×Int) (List Int×List Sym×Nat)
 | [],_,a,lb,c=>.ok (a,lb,c)
 | x::r,i,a,lb,c=>
  if x.1=[] then placeR r (i+1) (a++[((4 * c:Nat):Int)]) lb (c+sizeN x)
  else if (findR x.1 lb).isSome=true then .error (i+1,26)
  else placeR r (i+1) (a++[((4 * c:Nat):Int)]) (lb++[(x.1,((4 * c:Nat):Int),())]) (c+sizeN x)
def addR (p:List Val) (v:Val):List Val:=if v∈p then p else p++[v]
def vOf (lb:List Sym) (e:List Item):Int×Int×Int×Unit:=(ofR lb e).getD (0,0,99,())
def loadR (lb:List Sym):List Ln→Nat→List Val→Except (Nat×Int) (List Val)
 | [],_,p=>.ok p
 | x::r,i,p=>
  if x.2.1.1=8 then
   (if (vOf lb x.2.1.2.2.2.2.2.2.1).2.2.1≠0 then .error (i+1,(vOf lb x.2.1.2.2.2.2.2.2.1).2.2.1)
   else if (vOf lb x.2.1.2.2.2.2.2.2.1).2.1 < 0∨1 < (vOf lb x.2.1.2.2.2.2.2.2.1).2.1 then .error (i+1,27)
   else loadR lb r (i+1) (addR p ((vOf lb x.2.1.2.2.2.2.2.2.1).1,(vOf lb x.2.1.2.2.2.2.2.2.1).2.1,())))
  else loadR lb r (i+1) p
abbrev PlanT:=List Int×List Sym×List Val×Int×Int×Int×Int×Unit
def noPlan (i:Nat) (e:Int):PlanT:=([],[],[],0,0,(i:Int),e,())
def plEnd (t:List Int) (lb:List Sym) (c:Nat):Except (Nat×Int) (List Val)→PlanT
 | .error x=>noPlan x.1 x.2
 | .ok p=>if 1024 < c+p.length then noPlan 0 2 else (t,lb,p,((4 * c:Nat):Int),((c+p.length:Nat):Int),0,0,())
def plFin (l:List Ln):Except (Nat×Int) (List Int×List Sym×Nat)→PlanT
 | .error x=>noPlan x.1 x.2
 | .ok r=>plEnd r.1 r.2.1 r.2.2 (loadR r.2.1 l 0 [])
def planR (l:List Ln):PlanT:=plFin l (placeR l 0 [] [] 0)
def posR (v:Val):List Val→Nat
 | []=>0
 | x::r=>if x=v then 0 else posR v r+1
theorem ofR_any (labels:List Sym) (e:List Item):∃ v1 v2 x,ofR labels e=some (v1,v2,x,()):=by
 unfold ofR
 by_cases hw:well e=true
 ·rw [if_pos hw]
  unfold well at hw
  rw [Bool.and_eq_true,decide_eq_true_eq] at hw
  have hwl:wellL e:=by unfold wellL; rw [← wellR_enough]; exact hw.1
  rcases run_well labels hwl with ⟨x,hx⟩ | ⟨v,hv⟩
  ·rw [hx]; exact ⟨0,0,x,rfl⟩
  ·rw [hv]; exact ⟨v.1,v.2.1,0,rfl⟩
 ·rw [if_neg hw]; exact ⟨0,0,23,rfl⟩
theorem ofR_vOf (labels:List Sym) (e:List Item):ofR labels e=some (vOf labels e):=by
 obtain ⟨a,b,c,h⟩:=ofR_any labels e
 unfold vOf; rw [h]; rfl
theorem placeR_len:∀ (l:List Ln) (i:Nat) (a:List Int) (lb:List Sym) (c:Nat) {r},placeR l i a lb c=.ok r→r.1.length=a.length+l.length∧r.2.1.length≤lb.length+l.length∧r.2.2≤c+l.length
 | [],_,a,lb,c,r,h=>by cases h; simp
 | x::t,i,a,lb,c,r,h=>by
  have hs:=sizeN_le x
  unfold placeR at h
  split at h
  ·have:=placeR_len t _ _ _ _ h; simp at this ⊢; omega
  ·split at h
   ·cases h
   ·have:=placeR_len t _ _ _ _ h; simp at this ⊢; omega
theorem addR_len (p:List Val) (v:Val):(addR p v).length≤p.length+1:=by unfold addR; split <;> simp
theorem loadR_len (lb:List Sym):∀ (l:List Ln) (i:Nat) (p:List Val) {r},loadR lb l i p=.ok r→r.length≤p.length+l.length
 | [],_,p,r,h=>by cases h; simp
 | x::t,i,p,r,h=>by
  unfold loadR at h
  split at h
  ·split at h
   ·cases h
   ·split at h
    ·cases h
    ·have:=loadR_len lb t _ _ h; have:=addR_len p ((vOf lb x.2.1.2.2.2.2.2.2.1).1,(vOf lb x.2.1.2.2.2.2.2.2.1).2.1,()); simp; omega
  ·have:=loadR_len lb t _ _ h; simp; omega
end Rv
namespace Rv
open Go
abbrev zSy:Sym:=(([]:Str),((0:Int),()))
abbrev less (a b:Str):Bool:=Op.bytesLess a b
theorem cmp_less:∀ a b:Str,(L.cmpR a b < 0↔less a b=true)∧(L.cmpR a b=0↔a=b)
 | [],[]=>by simp [L.cmpR,Op.bytesLess]
 | [],_::_=>by simp [L.cmpR,Op.bytesLess]
 | _::_,[]=>by simp [L.cmpR,Op.bytesLess]
 | a::r,b::s=>by
  have ih:=cmp_less r s
  unfold L.cmpR less Op.bytesLess
  by_cases h1:a < b
  ·have:a≠b:=fun e=>by subst e; exact absurd h1 (UInt8.lt_irrefl a)
   simp [h1,this]
  ·by_cases h2:b < a
   ·have:a≠b:=fun e=>by subst e; exact absurd h2 (UInt8.lt_irrefl a)
    simp [h1,h2,this]
   ·have e:a=b:=UInt8.le_antisymm (UInt8.not_lt.1 h2) (UInt8.not_lt.1 h1)
    subst e
    simp only [h1,if_false,decide_false,Bool.false_or,beq_self_eq_true,Bool.true_and,List.cons.injEq,true_and]
    exact ih
theorem less_trans:∀ {a b c:Str},less a b=true→less b c=true→less a c=true
 | _,[],_,h,_=>by simp [Op.bytesLess] at h
 | _,_::_,[],_,h=>by simp [Op.bytesLess] at h
 | [],_::_,_::_,_,_=>by simp [Op.bytesLess]
 | a::x,b::y,c::z,h1,h2=>by
  simp only [less,Op.bytesLess,Bool.or_eq_true,decide_eq_true_eq,Bool.and_eq_true,beq_iff_eq] at h1 h2 ⊢
  rcases h1 with h1 | ⟨rfl,h1⟩
  ·rcases h2 with h2 | ⟨rfl,h2⟩
   ·exact .inl (UInt8.lt_trans h1 h2)
   ·exact .inl h1
  ·rcases h2 with h2 | ⟨rfl,h2⟩
   ·exact .inl h2
   ·exact .inr ⟨rfl,less_trans h1 h2⟩
theorem less_irrefl (a:Str):less a a=false:=by
 have:=cmp_less a a
 cases h:less a a with
 | false=>rfl
 | true=>
  have h1:=this.1.2 h
  have h2:=this.2.2 rfl
  omega
theorem less_total {a b:Str} (h:less a b=false) (hne:a≠b):less b a=true:=by
 induction a generalizing b with
 | nil=>cases b with
  | nil=>exact absurd rfl hne
  | cons b y=>simp [Op.bytesLess] at h
 | cons a x ih=>cases b with
  | nil=>simp [Op.bytesLess]
  | cons b y=>
   simp only [less,Op.bytesLess,Bool.or_eq_false_iff,decide_eq_false_iff_not,Bool.and_eq_false_iff,beq_eq_false_iff_ne,Bool.or_eq_true,decide_eq_true_eq,Bool.and_eq_true,beq_iff_eq] at h ⊢
   obtain ⟨h1,h2⟩:=h
   by_cases e:a=b
   ·subst e
    refine .inr ⟨rfl,ih (h2.resolve_left (fun g=>g rfl)) fun e=>hne (by rw [e])⟩
   ·exact .inl (UInt8.lt_of_le_of_ne (UInt8.not_lt.1 h1) (Ne.symm e))
def sortedS (y:List Sym):Prop:=y.Pairwise fun a b=>less a.1 b.1=true
def kS:List Sym→Str→Nat
 | [],_=>0
 | x::r,s=>if less x.1 s=true then kS r s+1 else 0
theorem kS_le:∀ (y:List Sym) (s:Str),kS y s≤y.length
 | [],_=>Nat.le_refl _
 | x::r,s=>by unfold kS; split; exact Nat.succ_le_succ (kS_le r s); exact Nat.zero_le _
theorem kS_is:∀ {y:List Sym} {s:Str} {i:Nat},(∀ t,t < i→less (y.getD t zSy).1 s=true)→i≤y.length→(i < y.length→less (y.getD i zSy).1 s=false)→kS y s=i
 | [],_,i,_,h,_=>by simp at h; subst h; rfl
 | x::r,s,0,_,_,h=>by
  have h:=h (by simp)
  have h:less x.1 s=false:=h
  unfold kS; rw [if_neg (by rw [h]; decide)]
 | x::r,s,i+1,h1,h2,h3=>by
  have h0:less x.1 s=true:=h1 0 (by omega)
  unfold kS
  rw [if_pos h0,kS_is (y:=r) (i:=i) (fun t ht=>by simpa using h1 (t+1) (by omega)) (by simpa using h2) (fun h=>by simpa using h3 (by simpa using h))]
theorem sorted_get {y:List Sym} (hy:sortedS y) {i j:Nat} (hij:i < j) (hj:j < y.length):less (y.getD i zSy).1 (y.getD j zSy).1=true:=by
 have:=List.pairwise_iff_getElem.1 hy i j (by omega) hj hij
 rw [List.getD_eq_getElem?_getD,List.getD_eq_getElem?_getD,List.getElem?_eq_getElem hj,List.getElem?_eq_getElem (show i < y.length by omega)]
 exact this
def isSy (y:List Sym) (s:Str):Bool:=decide (kS y s < y.length∧(y.getD (kS y s) zSy).1=s)
theorem u64_small {x:Int} (h:0≤x∧x≤9223372036854775807):IntKind.u64.wrap x=x:=by
 show (x % 2 ^ 64:Int)=x
 omega
theorem ecmp_eq (a:Str) (b:Int) (c:Str):Zdb.g a b c=some (L.cmpR a c,()):=rfl
theorem bs_loop (y:List Sym) (s:Str) (hy:sortedS y) (hl:y.length≤1000000) (n:Nat):∀ (m i j:Nat),i≤j→j≤y.length→j - i < m→(∀ t,t < i→less (y.getD t zSy).1 s=true)→(∀ t,j≤t→t < y.length→less (y.getD t zSy).1 s=false) →
  Zbm.l3 n m y s (y.length:Int) (i:Int) (j:Int)=some ((kS y s:Int),isSy y s,()):=by
 intro m
 induction m with
 | zero=>intro i j _ _ h; omega
 | succ m ih=>
  intro i j hij hj hm h1 h2
  rw [Zbm.l3]
  have hmid:IntKind.i64.wrap ((IntKind.u64.wrap (IntKind.i64.wrap ((i:Int)+(j:Int)))).fdiv (2 ^ (min (1:Int).toNat IntKind.u64.bits)))=(((i+j) / 2:Nat):Int):=by
   show IntKind.i64.wrap ((IntKind.u64.wrap (IntKind.i64.wrap ((i:Int)+(j:Int)))).fdiv 2)=_
   rw [w64 (x:=(i:Int)+(j:Int)) (by omega),Int.fdiv_eq_ediv_of_nonneg _ (by decide),u64_small (by omega),w64 (by omega)]
   omega
  rw [hmid]
  simp only [dt,Int.toNat_natCast,ecmp_eq,Option.bind_some]
  by_cases h:i < j
  ·rw [if_pos (by omega),if_pos (by omega)]
   generalize hq:(i+j) / 2=q
   have hc:=(cmp_less (y.getD q zSy).1 s).1
   by_cases hlt:less (y.getD q zSy).1 s=true
   ·rw [if_pos (hc.2 hlt),w64 (by omega),show (q:Int)+1=((q+1:Nat):Int) by omega]
    refine ih (q+1) j (by omega) hj (by omega) (fun t ht=>?_) h2
    by_cases e:t=q
    ·rw [e]; exact hlt
    ·exact less_trans (sorted_get hy (show t < q by omega) (by omega)) hlt
   ·rw [if_neg (fun g=>hlt (hc.1 g))]
    refine ih i q (by omega) (by omega) (by omega) h1 fun t ht htl=>?_
    have hf:less (y.getD q zSy).1 s=false:=by simpa using hlt
    by_cases e:t=q
    ·rw [e]; exact hf
    ·cases ht2:less (y.getD t zSy).1 s with
     | false=>rfl
     | true=>rw [less_trans (sorted_get hy (show q < t by omega) htl) ht2] at hf; cases hf
  ·obtain rfl:i=j:=by omega
   have hk:kS y s=i:=kS_is h1 hj (fun h=>h2 i (by omega) h)
   rw [if_neg (by omega)]
   unfold isSy
   rw [hk]
   by_cases hl2:i < y.length
   ·rw [if_pos (by omega),if_pos (by omega)]
    have:=(cmp_less (y.getD i zSy).1 s).2
    congr 3
    rw [Bool.eq_iff_iff,decide_eq_true_eq,decide_eq_true_eq,this]
    exact ⟨fun h=>⟨hl2,h⟩,fun h=>h.2⟩
   ·rw [if_neg (by omega),decide_eq_false (fun h=>hl2 h.1)]
theorem bs_eq (y:List Sym) (s:Str) (hy:sortedS y) (hl:y.length≤1000000):Zbm.g y s=some ((kS y s:Int),isSy y s,()):=by
 unfold Zbm.g Zbm.f
 exact bs_loop y s hy hl _ _ 0 y.length (by omega) (by omega) (by omega) (fun t h=>by omega) (fun t h h2=>by omega)
def insS (y:List Sym) (x:Sym):List Sym:=y.take (kS y x.1)++[x]++y.drop (kS y x.1)
theorem kS_take:∀ {y:List Sym} {s:Str},∀ a∈y.take (kS y s),less a.1 s=true
 | [],_,a,h=>by simp at h
 | x::r,s,a,h=>by
  unfold kS at h
  split at h
  ·rename_i hx
   rw [List.take_succ_cons,List.mem_cons] at h
   rcases h with rfl | h
   ·exact hx
   ·exact kS_take a h
  ·simp at h
theorem kS_drop {y:List Sym} {s:Str} (hy:sortedS y) (hs:isSy y s=false):∀ a∈y.drop (kS y s),less s a.1=true:=by
 intro a ha
 obtain ⟨j,hj,rfl⟩:=List.getElem_of_mem ha
 rw [List.length_drop] at hj
 rw [List.getElem_drop]
 have hk:kS y s < y.length:=by omega
 unfold isSy at hs
 rw [decide_eq_false_iff_not] at hs
 have hne:(y.getD (kS y s) zSy).1≠s:=fun e=>hs ⟨hk,e⟩
 have hnl:less (y.getD (kS y s) zSy).1 s=false:=by
  have gen:∀ (y:List Sym),kS y s < y.length→less (y.getD (kS y s) zSy).1 s=false:=by
   intro y
   induction y with
   | nil=>intro h; simp at h
   | cons x r ih=>
    intro h
    unfold kS at h ⊢
    split
    ·rename_i hx
     rw [if_pos hx] at h
     simpa using ih (by simpa using h)
    ·rename_i hx; simpa using hx
  exact gen y hk
 have h0:=less_total hnl hne
 by_cases e:j=0
 ·subst e
  rw [List.getD_eq_getElem?_getD,List.getElem?_eq_getElem hk] at h0
  exact h0
 ·have:=sorted_get hy (show kS y s < kS y s+j by omega) (by omega)
  have:=less_trans h0 this
  rw [List.getD_eq_getElem?_getD,List.getElem?_eq_getElem (show kS y s+j < y.length by omega)] at this
  exact this
theorem ins_sorted {y:List Sym} {x:Sym} (hy:sortedS y) (hs:isSy y x.1=false):sortedS (insS y x):=by
 unfold sortedS insS
 rw [List.pairwise_append]
 have h1:(y.take (kS y x.1)).Pairwise fun a b=>less a.1 b.1=true:=hy.sublist (List.take_sublist _ _)
 have h2:(y.drop (kS y x.1)).Pairwise fun a b=>less a.1 b.1=true:=hy.sublist (List.drop_sublist _ _)
 refine ⟨?_,h2,?_⟩
 ·rw [List.pairwise_append]
  exact ⟨h1,List.pairwise_singleton _ _,fun a ha b hb=>by rw [List.mem_singleton.1 hb]; exact kS_take a ha⟩
 ·intro a ha b hb
  have hxb:=kS_drop hy hs b hb
  rcases List.mem_append.1 ha with h | h
  ·exact less_trans (kS_take a h) hxb
  ·rw [List.mem_singleton.1 h]; exact hxb
theorem ins_len (y:List Sym) (x:Sym):(insS y x).length=y.length+1:=by
 have:=kS_le y x.1
 unfold insS
 simp only [List.length_append,List.length_take,List.length_drop,List.length_singleton]
 omega
end Rv
namespace Rv
open Go
abbrev eL (x:Ln):List Item:=x.2.1.2.2.2.2.2.2.1
theorem placeR_app:∀ (a b:List Ln) (i:Nat) (t:List Int) (lb:List Sym) (c:Nat),placeR (a++b) i t lb c=match placeR a i t lb c with
  | .error x=>.error x
  | .ok r=>placeR b (i+a.length) r.1 r.2.1 r.2.2
 | [],b,i,t,lb,c=>rfl
 | x::a,b,i,t,lb,c=>by
  have hi:i+(x::a).length=i+1+a.length:=by simp; omega
  rw [List.cons_append,placeR,placeR,hi]
  split
  ·exact placeR_app a b _ _ _ _
  ·split
   ·rfl
   ·exact placeR_app a b _ _ _ _
theorem loadR_app (lb:List Sym):∀ (a b:List Ln) (i:Nat) (p:List Val),loadR lb (a++b) i p=match loadR lb a i p with
  | .error x=>.error x
  | .ok r=>loadR lb b (i+a.length) r
 | [],b,i,p=>rfl
 | x::a,b,i,p=>by
  have hi:i+(x::a).length=i+1+a.length:=by simp; omega
  rw [List.cons_append,loadR,loadR,hi]
  split
  ·split
   ·rfl
   ·split
    ·rfl
    ·exact loadR_app lb a b _ _
  ·exact loadR_app lb a b _ _
theorem vOf_cases (lb:List Sym) {e:List Item} (hg:∀ y∈e,0≤y.2.1∧y.2.1≤4294967295):(∃ x,x≠0∧vOf lb e=(0,0,x,()))∨∃ v,okV v∧vOf lb e=(v.1,v.2.1,0,())∧runR lb [] e=.ok [v]:=by
 unfold vOf ofR
 by_cases hw:well e=true
 ·rw [if_pos hw]
  unfold well at hw
  rw [Bool.and_eq_true,decide_eq_true_eq] at hw
  have hwl:wellL e:=by unfold wellL; rw [← wellR_enough]; exact hw.1
  rcases run_well lb hwl with ⟨x,hx⟩ | ⟨v,hv⟩
  ·rw [hx]; exact .inl ⟨x,run_err hx,rfl⟩
  ·rw [hv]
   have:=run_okV hg (fun u hu=>by cases hu) hv v (by simp)
   exact .inr ⟨v,this,rfl,rfl⟩
 ·rw [if_neg hw]; exact .inl ⟨23,by decide,rfl⟩
end Rv
namespace Rv
open Go
def isA (b:UInt8):Bool:=decide (65≤b.toNat∧b.toNat≤90∨97≤b.toNat∧b.toNat≤122)
theorem isA_L (b:UInt8):isL b=(isA b || decide (b.toNat=95)):=by
 unfold isL isA
 rw [Bool.eq_iff_iff]
 simp only [decide_eq_true_eq,Bool.or_eq_true]
 omega
def nameOk (s:Str):Bool:=decide (s≠[]) && decide (s.length≤12) && isA (s.getD 0 0) && !regLike s && s.all isW
end Rv
namespace Rv
open Go
end Rv
namespace Rv
open Go
end Rv
namespace Rv
open Go
theorem fit13_label (s:Str) (hs:s.length≤9223372036854775807):∃ r,Zay.g s=some (r,())∧labelOk r=true∧r.length≤8∧(s.length≤6→r≠[122,122,95,122,122]):=by
 unfold Zay.g Zay.f
 obtain ⟨r,hr,⟨c,t,rfl,⟨hL,hne,hD⟩,hz⟩,ha,hl⟩:=fit07_eq' s hs
 rw [hr,Option.bind_some]
 simp only [dt]
 split
 ·have e1:mn ((c::t).length:Int) 11=(c::t).length:=by unfold mn; rw [if_neg (by omega)]
  rw [e1,if_pos (by omega)]
  simp only [Int.toNat_natCast,List.take_length,List.drop_zero]
  rw [if_pos (by simp at hl ⊢; omega)]
  refine ⟨_,rfl,?_,by simp at hl ⊢; omega,fun _ e=>by simp at e⟩
  unfold labelOk
  rw [List.all_append,ha]
  have h1:([95]++c::t:Str).getD 0 0=95:=rfl
  have h2:decide (([95]++c::t:Str).length≤12)=true:=by rw [decide_eq_true_eq]; simp at hl ⊢; omega
  rw [h2]
  unfold regLike
  rw [h1]
  rfl
 ·refine ⟨_,rfl,?_,by omega,fun h6 e=>hz h6 (by simp at e; exact e.1)⟩
  unfold labelOk
  have h1:(c::t:Str).getD 0 0=c:=rfl
  have h2:decide ((c::t:Str).length≤12)=true:=by rw [decide_eq_true_eq]; omega
  unfold regLike
  rw [h1,h2,hD,ha,decide_eq_false hne]
  rfl
end Rv
namespace Rv
open Go
def goodItem (x:Item):Prop:=0≤x.2.1∧x.2.1≤4294967295∧(needsR x).2=true
theorem fit15_end (n:Nat):∀ (m:Nat) (out:List Item) (t:Int),enough 0 out=some t→1≤t→t≤10→out.length+t≤20→t.toNat < m→(∀ x∈out,goodItem x) →
  ∃ r,Zac.l21 n m out t=some (r,())∧wellL r∧r.length≤19∧∀ x∈r,goodItem x:=by
 intro m
 induction m with
 | zero=>intro out t _ _ _ _ h; omega
 | succ m ih=>
  intro out t he h1 h10 hl hm hg
  simp only [Zac.l21,dt]
  by_cases h2:1 < t
  ·rw [if_pos h2,if_pos (by simp; omega),w64 (by omega)]
   refine ih _ (t - 1) ?_ (by omega) (by omega) (by simp; omega) (by omega) ?_
   ·rw [enough_app,he,Option.bind_some]
    have e0:needsR ((4:Int),0,([]:Str),())=(2,true):=rfl
    simp only [enough,e0]
    rw [if_pos ⟨trivial,by omega⟩]
    congr 1
   ·intro x hx
    rcases List.mem_append.1 hx with hx | hx
    ·exact hg x hx
    ·rw [List.mem_singleton] at hx
     subst hx
     exact ⟨by decide,by decide,rfl⟩
  ·rw [if_neg h2]
   have:t=1:=by omega
   subst this
   exact ⟨out,rfl,he,by omega,hg⟩
theorem enough_snoc {out:List Item} {t k:Int} {x:Item} (he:enough 0 out=some t) (hx:needsR x=(k,true)) (hk:¬ t < k):enough 0 (out++[x])=some (t+(1 - k)):=by
 rw [enough_app,he,Option.bind_some]
 simp only [enough,hx]
 rw [if_pos ⟨trivial,hk⟩]
theorem fit15_after (n:Nat) (hn:100≤n) (out:List Item) (t:Int) (he:enough 0 out=some t) (h0:0≤t) (h10:t≤out.length) (hl:out.length≤10) (hg:∀ x∈out,goodItem x) :
  ∃ r,Zac.j19 n out t=some (r,())∧wellL r∧r.length≤19∧∀ x∈r,goodItem x:=by
 unfold Zac.j19
 simp only [dt]
 by_cases h:t=0
 ·rw [if_pos h]
  refine ⟨_,rfl,rfl,by simp,fun x hx=>?_⟩
  rw [List.mem_singleton] at hx
  subst hx
  exact ⟨by decide,by decide,rfl⟩
 ·rw [if_neg h]
  exact fit15_end n n out t he (by omega) (by omega) (by omega) (by omega) hg
end Rv
namespace Rv
open Go
theorem tmod6 (k:Int):-6 < Int.tmod k 6∧Int.tmod k 6 < 6:=by
 by_cases h:0≤k
 ·rw [Int.tmod_eq_emod_of_nonneg h]; omega
 ·have:k=-(-k):=by omega
  rw [this,Int.neg_tmod,Int.tmod_eq_emod_of_nonneg (by omega)]; omega
def kindOf (k:Int):Int:=IntKind.i64.wrap (1+Int.tmod (IntKind.i64.wrap (Int.tmod k 6+6)) 6)
theorem kindOf_range (k:Int):1≤kindOf k∧kindOf k≤6:=by
 unfold kindOf
 have h1:=tmod6 k
 rw [w64 (x:=Int.tmod k 6+6) (by omega),Int.tmod_eq_emod_of_nonneg (show 0≤Int.tmod k 6+6 by omega),w64 (by omega)]
 omega
end Rv
namespace Rv
open Go
def wfItems (l:List Item):Prop:=∀ x∈l,0≤x.2.1∧x.2.1≤4294967295∧x.2.2.1.length≤9223372036854775807
theorem fit15_push (n:Nat) (rl) (l out:List Item) (t:Int) (i:Nat) (hi:i < 10) (hlen:out.length=i) (x:Item) :
  Zac.j18 n rl l out t (i:Int) x.1 x.2.1 x.2.2.1=rl l (out++[x]) t ((i+1:Nat):Int):=by
 unfold Zac.j18
 rw [if_pos (by simp; omega),w64 (by omega)]
 rfl
theorem getD_mem {l:List Item} {i:Nat} (h:i < l.length) (d:Item):l.getD i d∈l:=by
 rw [List.getD_eq_getElem?_getD,List.getElem?_eq_getElem h]; exact List.getElem_mem h
theorem fit15_j9 (n:Nat) (rl) (l out:List Item) (t:Int) (i:Nat) (hi:i < 10) (hil:i < l.length) (hlen:out.length=i) (ht:0≤t∧t≤i) (hw:wfItems l) (K:Int) (hK:1≤K∧K≤6) (h3:K=3→1≤t) (h4:4≤K→2≤t) :
  ∃ x k,needsR x=(k,true)∧¬ t < k∧goodItem x∧Zac.j9 n rl l out t (i:Int) K 0 ([]:Str)=rl l (out++[x]) (t+(1 - k)) ((i+1:Nat):Int):=by
 have hx:=hw _ (getD_mem hil ((0:Int),((0:Int),(([]:Str),()))))
 unfold Zac.j9
 simp only [dt,Int.toNat_natCast]
 generalize l.getD i ((0:Int),((0:Int),(([]:Str),())))=y at hx ⊢
 obtain ⟨hy0,hy1,hy2⟩:=hx
 by_cases k1:K=1
 ·subst k1
  rw [if_pos rfl,if_pos (by omega),w64 (by omega)]
  refine ⟨((1:Int),y.2.1,([]:Str),()),0,rfl,by omega,⟨hy0,hy1,rfl⟩,?_⟩
  exact fit15_push n rl l out _ i hi hlen ((1:Int),y.2.1,([]:Str),())
 ·rw [if_neg k1]
  by_cases k2:K=2
  ·subst k2
   have e1:(mn (y.2.2.1.length:Int) 6)=((min y.2.2.1.length 6:Nat):Int):=by unfold mn; split <;> omega
   obtain ⟨r,hr,hlab,_⟩:=fit13_label (y.2.2.1.take (min y.2.2.1.length 6)) (by simp; omega)
   have e2:(y.2.2.1.take (mn (y.2.2.1.length:Int) 6).toNat).drop 0=y.2.2.1.take (min y.2.2.1.length 6):=by rw [e1,Int.toNat_natCast,List.drop_zero]
   rw [if_pos rfl,if_pos (by omega),if_pos (by omega),if_pos (by rw [e1]; omega),e2,hr,Option.bind_some,w64 (by omega)]
   have hn:needsR ((2:Int),0,r,())=(0,true):=by
    unfold needsR
    simp [hlab]
   refine ⟨((2:Int),0,r,()),0,hn,by omega,⟨Int.le_refl 0,(by decide:(0:Int)≤4294967295),by rw [hn]⟩,?_⟩
   exact fit15_push n rl l out _ i hi hlen ((2:Int),0,r,())
  ·rw [if_neg k2]
   by_cases k3:K=3
   ·subst k3
    rw [if_pos rfl]
    refine ⟨((3:Int),0,([]:Str),()),1,rfl,by have:=h3 rfl; omega,⟨by decide,by decide,rfl⟩,?_⟩
    rw [show t+(1 - 1)=t by omega]
    exact fit15_push n rl l out _ i hi hlen ((3:Int),0,([]:Str),())
   ·rw [if_neg k3,w64 (by omega)]
    have hn:needsR (K,0,([]:Str),())=(2,true):=by
     unfold needsR
     have:K=4∨K=5∨K=6:=by omega
     simp [k1,k2,k3,this]
    refine ⟨(K,0,([]:Str),()),2,hn,by have:=h4 (by omega); omega,⟨Int.le_refl 0,(by decide:(0:Int)≤4294967295),by rw [hn]⟩,?_⟩
    rw [show t+(1 - 2)=t - 1 by omega]
    exact fit15_push n rl l out _ i hi hlen (K,0,([]:Str),())
theorem fit15_loop (l:List Item) (hl:l.length≤9223372036854775807) (hw:wfItems l) (n:Nat) (hn:100≤n):∀ (m i:Nat) (out:List Item) (t:Int),i≤l.length→i≤10→10 - i < m→out.length=i→enough 0 out=some t→0≤t→t≤i→(∀ x∈out,goodItem x) →
  ∃ r,Zac.l4 n m l out t (i:Int)=some (r,())∧wellL r∧r.length≤19∧∀ x∈r,goodItem x:=by
 intro m
 induction m with
 | zero=>intro i out t _ _ h; omega
 | succ m ih=>
  intro i out t hi hi10 hm hlen he h0 ht hg
  have fin:=fit15_after n hn out t he h0 (by omega) (by omega) hg
  simp only [Zac.l4,dt,df,Int.toNat_natCast]
  by_cases h1:i < l.length
  ·rw [if_pos (show (i:Int) < l.length by omega)]
   by_cases h2:i < 10
   ·rw [if_pos (show (i:Int) < 10 by omega),if_pos (by omega)]
    have hkk:IntKind.i64.wrap (1+Int.tmod (IntKind.i64.wrap (Int.tmod (l.getD i ((0:Int),((0:Int),(([]:Str),())))).1 6+6)) 6)=kindOf (l.getD i ((0:Int),((0:Int),(([]:Str),())))).1:=rfl
    rw [hkk]
    have hK:=kindOf_range (l.getD i ((0:Int),((0:Int),(([]:Str),())))).1
    generalize kindOf (l.getD i ((0:Int),((0:Int),(([]:Str),())))).1=K at *
    have go:∀ K:Int,1≤K∧K≤6→(K=3→1≤t)→(4≤K→2≤t)→∃ r,Zac.j9 n (Zac.l4 n m) l out t (i:Int) K 0 ([]:Str)=some (r,())∧wellL r∧r.length≤19∧∀ x∈r,goodItem x:=fun K hK h3 h4=>by
     obtain ⟨x,k,hx,hk,hgx,heq⟩:=fit15_j9 n (Zac.l4 n m) l out t i h2 h1 hlen ⟨h0,ht⟩ hw K hK h3 h4
     rw [heq]
     have hr:=needs_range x
     rw [hx] at hr
     refine ih (i+1) (out++[x]) (t+(1 - k)) (by omega) (by omega) (by omega) (by simp [hlen]) (enough_snoc he hx hk) (by simp at hr; omega) (by simp at hr; omega) fun y hy=>?_
     rcases List.mem_append.1 hy with hy | hy
     ·exact hg y hy
     ·rw [List.mem_singleton] at hy; subst hy; exact hgx
    by_cases k3:K=3
    ·rw [if_pos k3]
     by_cases t1:t < 1
     ·rw [if_neg (by omega)]
      exact go 1 (by omega) (by omega) (by omega)
     ·rw [if_pos t1]
      by_cases k4:3 < K
      ·omega
      ·rw [if_neg k4]
       exact go K hK (by omega) (by omega)
    ·rw [if_neg k3]
     by_cases k4:3 < K
     ·rw [if_pos k4]
      by_cases t2:t < 2
      ·rw [if_pos t2]
       exact go 1 (by omega) (by omega) (by omega)
      ·rw [if_neg t2]
       exact go K hK (by omega) (by omega)
     ·rw [if_neg k4]
      exact go K hK (by omega) (by omega)
   ·rw [if_neg (by omega)]
    exact fin
  ·rw [if_neg (by omega)]
   exact fin
theorem fit15_eq (l:List Item) (hl:l.length≤9223372036854775807) (hw:wfItems l):∃ r,Zac.g l=some (r,())∧wellL r∧r.length≤19∧∀ x∈r,goodItem x:=by
 unfold Zac.g Zac.f
 exact fit15_loop l hl hw _ (by omega) _ 0 [] 0 (by omega) (by omega) (by omega) rfl rfl (by omega) (by omega) (fun x hx=>by cases hx)
end Rv
namespace Rv
open Go
theorem find16_loop (l:List Sym) (s:Str) (hl:l.length≤4611686018427387904) (n:Nat):∀ (m i:Nat),i≤l.length→l.length - i < m →
  Zbk.l2 n m l s (i:Int)=some ((findR s (l.drop i)).getD 0,(findR s (l.drop i)).isSome,()):=by
 intro m
 induction m with
 | zero=>intro i _ h; omega
 | succ m ih=>
  intro i hi hm
  by_cases h1:i < l.length
  ·have hx:l.drop i=l.getD i (([]:Str),((0:Int),()))::l.drop (i+1):=by
    rw [List.drop_eq_getElem_cons h1,List.getD_eq_getElem?_getD,List.getElem?_eq_getElem h1]; rfl
   rw [hx]
   simp only [Zbk.l2,dt,Int.toNat_natCast]
   rw [if_pos (by omega),if_pos (by omega)]
   generalize l.getD i (([]:Str),((0:Int),()))=x
   unfold findR
   by_cases h2:x.1=s
   ·rw [if_pos h2,if_pos h2,if_pos (by omega)]; rfl
   ·rw [if_neg h2,if_neg h2,w64 (by omega),show (i:Int)+1=((i+1:Nat):Int) by omega,ih (i+1) (by omega) (by omega)]
  ·have hi':i=l.length:=by omega
   subst hi'
   simp only [Zbk.l2,dt]
   rw [if_neg (by omega),List.drop_length]
   rfl
theorem find16_eq (l:List Sym) (s:Str) (hl:l.length≤4611686018427387904):Zbk.g l s=some ((findR s l).getD 0,(findR s l).isSome,()):=by
 unfold Zbk.g Zbk.f
 have:=find16_loop l s hl (1000+l.length+s.length) (1000+l.length+s.length) 0 (by omega) (by omega)
 rwa [List.drop_zero] at this
theorem findR_mem {s:Str}:∀ {l:List Sym},findR s l=none→s ∉ l.map (·.1)
 | [],_=>by simp
 | x::l,h=>by
  unfold findR at h
  split at h
  ·cases h
  ·rename_i hne
   simp only [List.map_cons,List.mem_cons,not_or]
   exact ⟨fun e=>hne e.symm,findR_mem h⟩
end Rv
namespace Rv
open Go
end Rv
namespace Rv
open Go
theorem lsize_eq (x:Ln):Zcl.g x.2.1.1 x.2.1.2.1 x.2.1.2.2.1 x.2.1.2.2.2.1 x.2.1.2.2.2.2.1 x.2.1.2.2.2.2.2.1 x.2.1.2.2.2.2.2.2.1 x.2.1.2.2.2.2.2.2.2.1=some ((sizeN x:Int),()):=by
 unfold Zcl.g Zcl.f sizeN
 simp only [dt]
 by_cases h0:x.2.1.1=0
 ·rw [if_pos h0,if_pos h0,if_pos (.inl h0)]; rfl
 ·rw [if_neg h0]
  by_cases h1:x.2.1.1=10
  ·rw [if_pos h1,if_pos (.inr h1)]; rfl
  ·rw [if_neg h1,if_neg (by rintro (h | h) <;> contradiction)]; rfl
theorem val_is (x:Val) (a b:Int):(decide (x.1=a) && (decide (x.2.1=b) && true))=decide (x=(a,b,())):=by
 obtain ⟨x1,x2,_⟩:=x
 simp only [Bool.and_true]
 by_cases h1:x1=a <;> by_cases h2:x2=b <;> simp [h1,h2]
theorem pool_loop (p:List Val) (a b:Int) (hp:p.length≤1000000) (n:Nat):∀ (m i:Nat),i≤p.length→p.length - i < m →
  Zbg.l2 n m p p (p.length:Int) (i:Int) a b=some (if (a,b,())∈p.drop i then p else p++[(a,b,())],((i+posR (a,b,()) (p.drop i):Nat):Int),()):=by
 intro m
 induction m with
 | zero=>intro i _ h; omega
 | succ m ih=>
  intro i hi hm
  rw [Zbg.l2]
  simp only [val_is,dt,Int.toNat_natCast]
  by_cases h:i < p.length
  ·have hd:p.drop i=p.getD i ((0:Int),((0:Int),()))::p.drop (i+1):=by
    rw [List.drop_eq_getElem_cons h,List.getD_eq_getElem?_getD,List.getElem?_eq_getElem h]; rfl
   rw [if_pos (by omega),if_pos (by omega),hd]
   generalize p.getD i ((0:Int),((0:Int),()))=x
   unfold posR
   by_cases hx:x=(a,b,())
   ·rw [if_pos hx,if_pos (by rw [hx]; simp),if_pos hx]; simp
   ·rw [if_neg hx,if_neg hx,w64 (by omega),show (i:Int)+1=((i+1:Nat):Int) by omega,ih (i+1) (by omega) (by omega)]
    have e:((a,b,())∈x::p.drop (i+1))=((a,b,())∈p.drop (i+1)):=by
     apply propext; rw [List.mem_cons]
     exact ⟨fun h=>h.resolve_left fun e=>hx e.symm,.inr⟩
    simp only [e]
    rw [show i+1+posR (a,b,()) (p.drop (i+1))=i+(posR (a,b,()) (p.drop (i+1))+1) by omega]
  ·obtain rfl:i=p.length:=by omega
   rw [if_neg (by omega),List.drop_length]
   unfold Zda.g Zda.f
   rw [if_pos ⟨rfl,rfl,rfl⟩,Option.bind_some]
   dsimp only
   rw [if_pos (by simp),if_pos (by simp; omega),if_neg (by simp)]
   rfl
theorem pool_eq (p:List Val) (a b:Int) (hp:p.length≤1000000):Zbg.g p a b=some (addR p (a,b,()),(posR (a,b,()) p:Int),()):=by
 unfold Zbg.g Zbg.f
 have:=pool_loop p a b hp (1000+p.length+a.toNat+b.toNat) (1000+p.length+a.toNat+b.toNat) 0 (by omega) (by omega)
 rw [List.drop_zero,Nat.zero_add] at this
 exact this
theorem wrap_from {c k:Nat} (hc:c≤1000000) (hk:k≤1):IntKind.i64.wrap (((4 * c:Nat):Int)+IntKind.i64.wrap (4 * (k:Int)))=((4 * (c+k):Nat):Int):=by
 rw [w64 (x:=4 * (k:Int)) (by omega),w64 (by omega)]; omega
theorem plan1_eq (x:Ln) (t:List Int) (lb:List Sym) (q:List Val) (c:Nat) (s:Int) (ht:t.length≤1000000) (hlb:lb.length≤1000000) (hc:c≤1000000) :
  Zbu.g x.1 x.2.1.1 x.2.1.2.1 x.2.1.2.2.1 x.2.1.2.2.2.1 x.2.1.2.2.2.2.1 x.2.1.2.2.2.2.2.1 x.2.1.2.2.2.2.2.2.1 x.2.1.2.2.2.2.2.2.2.1 t lb q ((4 * c:Nat):Int) s =
   some (if x.1=[] then (0,t++[((4 * c:Nat):Int)],lb,q,((4 * (c+sizeN x):Nat):Int),s,()) else if (findR x.1 lb).isSome=true then (26,t++[((4 * c:Nat):Int)],lb,q,((4 * c:Nat):Int),s,())
    else (0,t++[((4 * c:Nat):Int)],lb++[(x.1,((4 * c:Nat):Int),())],q,((4 * (c+sizeN x):Nat):Int),s,())):=by
 unfold Zbu.g
 generalize 1000+_+_+_+_+_+_+_+_+_+_+_+_+_=n
 unfold Zbu.f Zbu.j7
 rw [if_pos (by simp; omega),find_eq lb x.1 (by omega),Option.bind_some,lsize_eq,Option.bind_some]
 dsimp only
 rw [wrap_from hc (sizeN_le x)]
 simp only [Bool.not_eq_true',decide_eq_false_iff_not]
 by_cases h:x.1=[]
 ·rw [if_neg (by simpa using h),if_pos h,Option.bind_some]
  dsimp only
  rw [wrap_from hc (sizeN_le x)]
 ·rw [if_pos h,if_neg h]
  by_cases h2:(findR x.1 lb).isSome=true
  ·rw [if_pos h2,if_pos h2]
  ·rw [if_neg h2,if_neg h2,if_pos (by simp; omega)]
theorem drop_ln {a:List Ln} {i:Nat} (h:i < a.length):a.drop i=a.getD i zL::a.drop (i+1):=by
 rw [List.drop_eq_getElem_cons h,List.getD_eq_getElem?_getD,List.getElem?_eq_getElem h]; rfl
theorem getD_ln {a:List Ln} {i:Nat} (h:i < a.length):a.getD i zL∈a:=by
 rw [List.getD_eq_getElem?_getD,List.getElem?_eq_getElem h]; exact List.getElem_mem h
theorem first44 (a:List Ln) (ha:a.length≤1000000) (n:Nat) (q:List Val) (s:Int):∀ (m i:Nat) (t:List Int) (lb:List Sym) (c:Nat),i≤a.length→a.length - i < m→t.length≤i→lb.length≤i→c≤i →
  ∃ r,Zbx.l2 n m a (a.length:Int) (i:Int) t lb q ((4 * c:Nat):Int) s=some r∧(∀ x,placeR (a.drop i) i t lb c=.error x→r.1=(x.1:Int)∧r.2.1=x.2∧x.2≠0) ∧
   (∀ y,placeR (a.drop i) i t lb c=.ok y→r=(0,0,y.1,y.2.1,q,((4 * y.2.2:Nat):Int),s,())):=by
 intro m
 induction m with
 | zero=>intro i _ _ _ _ h; omega
 | succ m ih=>
  intro i t lb c hi hm ht hlb hc
  rw [Zbx.l2]
  simp only [dt,Int.toNat_natCast]
  by_cases h:i < a.length
  ·rw [if_pos (by omega),if_pos (by omega),plan1_eq _ t lb q c s (by omega) (by omega) (by omega),Option.bind_some,drop_ln h]
   have hs:=sizeN_le (a.getD i zL)
   generalize a.getD i zL=x at hs
   have W:IntKind.i64.wrap ((i:Int)+1)=((i+1:Nat):Int):=by rw [w64 (by omega)]; omega
   rw [placeR,W]
   by_cases h1:x.1=[]
   ·rw [if_pos h1,if_pos h1]
    simp only [ne_eq,not_true_eq_false,↓reduceIte]
    exact ih (i+1) _ _ _ (by omega) (by omega) (by simp; omega) (by omega) (by omega)
   ·rw [if_neg h1,if_neg h1]
    by_cases h2:(findR x.1 lb).isSome=true
    ·rw [if_pos h2,if_pos h2]
     dsimp only
     rw [if_pos (by decide)]
     exact ⟨_,rfl,fun y hy=>by cases hy; exact ⟨rfl,rfl,(by decide:(26:Int)≠0)⟩,fun y hy=>by cases hy⟩
    ·rw [if_neg h2,if_neg h2]
     simp only [ne_eq,not_true_eq_false,↓reduceIte]
     exact ih (i+1) _ _ _ (by omega) (by omega) (by simp; omega) (by simp; omega) (by omega)
  ·obtain rfl:i=a.length:=by omega
   rw [if_neg (by omega),List.drop_length]
   exact ⟨_,rfl,fun x hx=>by (rw [placeR] at hx; cases hx),fun y hy=>by (rw [placeR] at hy; cases hy; rfl)⟩
theorem plan2_eq (x:Ln) (t:List Int) (lb:List Sym) (q:List Val) (f s:Int) (hlb:lb.length≤1000000) (hq:q.length≤1000000) (he:(eL x).length≤4611686018427387904) :
  Zcm.g x.1 x.2.1.1 x.2.1.2.1 x.2.1.2.2.1 x.2.1.2.2.2.1 x.2.1.2.2.2.2.1 x.2.1.2.2.2.2.2.1 x.2.1.2.2.2.2.2.2.1 x.2.1.2.2.2.2.2.2.2.1 t lb q f s =
   some (if x.2.1.1=8 then (if (vOf lb (eL x)).2.2.1≠0 then ((vOf lb (eL x)).2.2.1,t,lb,q,f,s,()) else if (vOf lb (eL x)).2.1 < 0∨1 < (vOf lb (eL x)).2.1 then (27,t,lb,q,f,s,())
    else (0,t,lb,addR q ((vOf lb (eL x)).1,(vOf lb (eL x)).2.1,()),f,s,())) else (0,t,lb,q,f,s,())):=by
 unfold Zcm.g
 generalize 1000+_+_+_+_+_+_+_+_+_+_+_+_+_=n
 unfold Zcm.f
 rw [of_eq lb (by omega) _ he,ofR_vOf,Option.bind_some]
 simp only [dt,df]
 by_cases h8:x.2.1.1=8
 ·rw [if_neg (by simpa using h8),if_pos h8]
  show (if (vOf lb (eL x)).2.2.1≠0 then _ else _)=_
  by_cases h1:(vOf lb (eL x)).2.2.1≠0
  ·rw [if_pos h1,if_pos h1]
  ·rw [if_neg h1,if_neg h1,pool_eq q _ _ hq,Option.bind_some]
   by_cases h2:(vOf lb (eL x)).2.1 < 0
   ·rw [if_neg (by simpa using h2),if_pos (.inl h2)]
   ·rw [if_pos h2]
    by_cases h3:1 < (vOf lb (eL x)).2.1
    ·rw [if_pos h3,if_pos (.inr h3)]
    ·rw [if_neg h3,if_neg (by rintro (h | h) <;> contradiction)]
 ·rw [if_pos h8,if_neg h8]
theorem first45 (a:List Ln) (ha:a.length≤1000000) (he:∀ x∈a,(eL x).length≤4611686018427387904) (n:Nat) (t:List Int) (lb:List Sym) (hlb:lb.length≤1000000) (f s:Int):∀ (m i:Nat) (q:List Val),i≤a.length→a.length - i < m→q.length≤i →
  ∃ r,Zby.l2 n m a (a.length:Int) (i:Int) t lb q f s=some r∧(∀ x,loadR lb (a.drop i) i q=.error x→r.1=(x.1:Int)∧r.2.1=x.2∧x.2≠0) ∧
   (∀ y,loadR lb (a.drop i) i q=.ok y→r=(0,0,t,lb,y,f,s,())):=by
 intro m
 induction m with
 | zero=>intro i _ _ h; omega
 | succ m ih=>
  intro i q hi hm hq
  rw [Zby.l2]
  simp only [dt,Int.toNat_natCast]
  by_cases h:i < a.length
  ·rw [if_pos (by omega),if_pos (by omega),plan2_eq _ t lb q f s hlb (by omega) (he _ (getD_ln h)),Option.bind_some,drop_ln h]
   generalize a.getD i zL=x
   have W:IntKind.i64.wrap ((i:Int)+1)=((i+1:Nat):Int):=by rw [w64 (by omega)]; omega
   rw [loadR,W]
   by_cases h8:x.2.1.1=8
   ·rw [if_pos h8,if_pos h8]
    show ∃ r,_∧(∀ y,(if (vOf lb (eL x)).2.2.1≠0 then _ else _)=_→_)∧_
    by_cases h1:(vOf lb (eL x)).2.2.1≠0
    ·rw [if_pos h1]
     dsimp only
     rw [if_pos h1]
     refine ⟨_,rfl,fun y hy=>?_,fun y hy=>?_⟩
     ·rw [if_pos h1] at hy; cases hy; exact ⟨rfl,rfl,h1⟩
     ·rw [if_pos h1] at hy; cases hy
    ·rw [if_neg h1]
     by_cases h2:(vOf lb (eL x)).2.1 < 0∨1 < (vOf lb (eL x)).2.1
     ·rw [if_pos h2]
      dsimp only
      rw [if_pos (by decide)]
      refine ⟨_,rfl,fun y hy=>?_,fun y hy=>?_⟩
      ·rw [if_neg h1,if_pos h2] at hy; cases hy; exact ⟨rfl,rfl,(by decide:(27:Int)≠0)⟩
      ·rw [if_neg h1,if_pos h2] at hy; cases hy
     ·rw [if_neg h2]
      simp only [ne_eq,not_true_eq_false,↓reduceIte]
      have hl:=addR_len q ((vOf lb (eL x)).1,(vOf lb (eL x)).2.1,())
      obtain ⟨r,hr,g1,g2⟩:=ih (i+1) (addR q ((vOf lb (eL x)).1,(vOf lb (eL x)).2.1,())) (by omega) (by omega) (by omega)
      refine ⟨r,hr,fun y hy=>g1 y ?_,fun y hy=>g2 y ?_⟩
      ·rw [if_neg h1,if_neg h2] at hy; exact hy
      ·rw [if_neg h1,if_neg h2] at hy; exact hy
   ·rw [if_neg h8,if_neg h8]
    simp only [ne_eq,not_true_eq_false,↓reduceIte]
    exact ih (i+1) q (by omega) (by omega) (by omega)
  ·obtain rfl:i=a.length:=by omega
   rw [if_neg (by omega),List.drop_length]
   exact ⟨_,rfl,fun x hx=>by (rw [loadR] at hx; cases hx),fun y hy=>by (rw [loadR] at hy; cases hy; rfl)⟩
theorem plan_words {c k:Nat} (hc:c≤1000000) (hk:k≤1000000):IntKind.i64.wrap (IntKind.i64.wrap (Int.tdiv ((4 * c:Nat):Int) 4)+(k:Int))=((c+k:Nat):Int):=by
 have:Int.tdiv ((4 * c:Nat):Int) 4=(c:Int):=by
  rw [Int.tdiv_eq_ediv_of_nonneg (by omega)]; omega
 rw [this,w64 (x:=(c:Int)) (by omega),w64 (by omega)]; omega
theorem plan_eq (a:List Ln) (ha:a.length≤1000000) (he:∀ x∈a,(eL x).length≤4611686018427387904):Zaw.g a=some (planR a):=by
 have key:∀ n m,3≤m→Zaw.l4 n m a 2 0 [] [] [] 0 0=some (planR a):=by
  intro n m hm
  obtain ⟨k,rfl⟩:∃ k,m=k+3:=⟨m - 3,by omega⟩
  obtain ⟨r,hr,g1,g2⟩:=first44 a ha (1000+a.length+([]:List Int).length+([]:List Sym).length+([]:List Val).length+(0:Int).toNat+(0:Int).toNat) [] 0 (1000+a.length+([]:List Int).length+([]:List Sym).length+([]:List Val).length+(0:Int).toNat+(0:Int).toNat) 0 [] [] 0 (by omega) (by omega) (by simp) (by simp) (by omega)
  rw [List.drop_zero] at g1 g2
  have hr':Zbx.g a [] [] [] 0 0=some r:=hr
  rw [Zaw.l4,if_pos (by decide),if_pos rfl,hr',Option.bind_some,Zaw.j7]
  unfold planR plFin
  cases hp:placeR a 0 [] [] 0 with
  | error x=>
   obtain ⟨e1,e2,e3⟩:=g1 x hp
   rw [e1,e2]
   simp only [dt]
   rw [if_pos e3]; rfl
  | ok y=>
   obtain rfl:=g2 y hp
   simp only [ne_eq,not_true_eq_false,decide_false,Bool.false_eq_true,↓reduceIte]
   have hl:=placeR_len _ _ _ _ _ hp
   simp only [List.length_nil,Nat.zero_add] at hl
   rw [show IntKind.i64.wrap ((0:Int)+1)=1 from rfl,Zaw.l4,if_pos (by decide),if_neg (by decide),if_pos rfl]
   obtain ⟨r2,hr2,k1,k2⟩:=first45 a ha he (1000+a.length+y.1.length+y.2.1.length+([]:List Val).length+(((4 * y.2.2:Nat):Int)).toNat+(0:Int).toNat) y.1 y.2.1 (by omega) ((4 * y.2.2:Nat):Int) 0 (1000+a.length+y.1.length+y.2.1.length+([]:List Val).length+(((4 * y.2.2:Nat):Int)).toNat+(0:Int).toNat) 0 [] (by omega) (by omega) (by simp)
   rw [List.drop_zero] at k1 k2
   have hr2':Zby.g a y.1 y.2.1 [] ((4 * y.2.2:Nat):Int) 0=some r2:=hr2
   rw [hr2',Option.bind_some,Zaw.j7]
   cases hq:loadR y.2.1 a 0 [] with
   | error x=>
    obtain ⟨e1,e2,e3⟩:=k1 x hq
    rw [e1,e2]
    simp only [dt]
    rw [if_pos e3]; rfl
   | ok z=>
    obtain rfl:=k2 z hq
    have hz:=loadR_len _ _ _ _ hq
    simp only [List.length_nil,Nat.zero_add] at hz
    simp only [ne_eq,not_true_eq_false,decide_false,Bool.false_eq_true,↓reduceIte]
    rw [show IntKind.i64.wrap ((1:Int)+1)=2 from rfl,Zaw.l4,if_neg (by decide),plan_words (by omega) (by omega)]
    simp only [dt]
    unfold plEnd
    by_cases hw:1024 < y.2.2+z.length
    ·rw [if_pos (by omega)]; dsimp only; rw [if_pos hw]; rfl
    ·rw [if_neg (by omega)]; dsimp only; rw [if_neg hw]
 exact key _ _ (by omega)
end Rv
namespace Rv
open Go
def numR (a b low high:Int):Int×Int×Unit:=if low≤a∧a≤high then (a,0,()) else if low≤b∧b≤high then (b,0,()) else (0,28,())
theorem num_loop (n m:Nat) (a b low high:Int):Zai.l7 n (m+3) low high a b 0=some (numR a b low high):=by
 have e2:Zai.l7 n (m+1) low high a b 2=some (0,28,()):=by
  simp only [Zai.l7,dt]
  rw [if_neg (by decide)]
 have e1:Zai.l7 n (m+2) low high a b 1=some (if low≤b∧b≤high then (b,0,()) else (0,28,())):=by
  rw [Zai.l7]
  simp only [dt,Zai.j11]
  rw [if_pos (by decide),if_pos (by decide),show ([a,b].getD (1:Int).toNat 0)=b from rfl,show IntKind.i64.wrap (1+1)=2 by decide,e2]
  by_cases h1:low≤b
  ·by_cases h2:b≤high
   ·rw [if_pos h1,if_pos h2,if_pos ⟨h1,h2⟩]
   ·rw [if_pos h1,if_neg h2,if_neg (fun h=>h2 h.2)]
  ·rw [if_neg h1,if_neg (fun h=>h1 h.1)]
 rw [Zai.l7]
 simp only [dt,Zai.j11]
 rw [if_pos (by decide),if_pos (by decide),show ([a,b].getD (0:Int).toNat 0)=a from rfl,show IntKind.i64.wrap (0+1)=1 by decide,e1]
 unfold numR
 by_cases h1:low≤a
 ·by_cases h2:a≤high
  ·rw [if_pos h1,if_pos h2,if_pos ⟨h1,h2⟩]
  ·rw [if_pos h1,if_neg h2,if_neg (show ¬ (low≤a∧a≤high) from fun h=>h2 h.2)]
 ·rw [if_neg h1,if_neg (show ¬ (low≤a∧a≤high) from fun h=>h1 h.1)]
theorem vnumber_eq (e:List Item) (labels:List Sym) (low high v1 v2 x:Int) (h:Zae.g e labels=some (v1,v2,x,())) :
  Zai.g e labels low high=some (if x≠0 then (0,x,()) else if v2≠0 then (0,27,()) else numR (IntKind.i64.wrap (IntKind.i32.wrap v1)) (IntKind.i64.wrap v1) low high):=by
 unfold Zai.g Zai.f
 rw [h,Option.bind_some]
 simp only [dt]
 have z:¬ ((0:Int)≠0):=by decide
 by_cases h1:x=0
 ·subst h1
  rw [if_neg z,if_neg z]
  by_cases h2:v2=0
  ·subst h2
   rw [if_neg z,if_neg z]
   have:∀ k,3≤k→Zai.l7 k k low high (IntKind.i64.wrap (IntKind.i32.wrap v1)) (IntKind.i64.wrap v1) 0=some (numR (IntKind.i64.wrap (IntKind.i32.wrap v1)) (IntKind.i64.wrap v1) low high):=fun k hk=>by
    obtain ⟨m,rfl⟩:∃ m,k=m+3:=⟨k - 3,by omega⟩
    exact num_loop _ m _ _ _ _
   exact this _ (by omega)
  ·rw [if_pos (show v2≠0 from h2),if_pos (show v2≠0 from h2)]
 ·rw [if_pos (show x≠0 from h1),if_pos (show x≠0 from h1)]
end Rv
namespace Rv
open Go
abbrev W32:=BitVec 32
theorem ofI (W:W32):BitVec.ofInt 32 (W.toNat:Int)=W:=by simp
theorem wr32 (x:Int):IntKind.u32.wrap x=((BitVec.ofInt 32 x).toNat:Int):=by
 rw [IntKind.wrap_u32,BitVec.toNat_ofInt]
 omega
theorem w32n (W:W32):IntKind.u32.wrap (W.toNat:Int)=(W.toNat:Int):=by rw [wr32,ofI]
theorem or32 (A B:W32):bitsI .or .u32 (A.toNat:Int) (B.toNat:Int)=((A ||| B).toNat:Int):=by
 show IntKind.u32.wrap (((BitVec.ofInt 32 (A.toNat:Int) ||| BitVec.ofInt 32 (B.toNat:Int)).toNat:Nat):Int)=_
 rw [ofI,ofI,w32n]
theorem and32 (A B:W32):bitsI .and .u32 (A.toNat:Int) (B.toNat:Int)=((A &&& B).toNat:Int):=by
 show IntKind.u32.wrap (((BitVec.ofInt 32 (A.toNat:Int) &&& BitVec.ofInt 32 (B.toNat:Int)).toNat:Nat):Int)=_
 rw [ofI,ofI,w32n]
theorem andNot32 (A B:W32):bitsI .andNot .u32 (A.toNat:Int) (B.toNat:Int)=((A &&& ~~~B).toNat:Int):=by
 show IntKind.u32.wrap (((BitVec.ofInt 32 (A.toNat:Int) &&& ~~~BitVec.ofInt 32 (B.toNat:Int)).toNat:Nat):Int)=_
 rw [ofI,ofI,w32n]
theorem shl32 (A:W32) (b:Nat) (hb:b≤32):IntKind.u32.wrap ((A.toNat:Int) * 2 ^ (min ((b:Int)).toNat IntKind.u32.bits))=((A <<< b).toNat:Int):=by
 have e:min ((b:Int)).toNat IntKind.u32.bits=b:=by show min ((b:Int)).toNat 32=b; omega
 rw [e,IntKind.wrap_u32,BitVec.toNat_shiftLeft,Nat.shiftLeft_eq]
 have:(A.toNat:Int) * 2 ^ b=((A.toNat * 2 ^ b:Nat):Int):=by rw [Int.natCast_mul,Int.natCast_pow]; rfl
 rw [this]
 generalize A.toNat * 2 ^ b=q
 omega
theorem shr32 (A:W32) (b:Nat) (hb:b≤32):(A.toNat:Int).fdiv (2 ^ (min ((b:Int)).toNat IntKind.u32.bits))=((A >>> b).toNat:Int):=by
 have e:min ((b:Int)).toNat IntKind.u32.bits=b:=by show min ((b:Int)).toNat 32=b; omega
 rw [e,BitVec.toNat_ushiftRight,Nat.shiftRight_eq_div_pow,Int.fdiv_eq_ediv_of_nonneg _ (Int.le_of_lt (Int.pow_pos (by decide))),Int.natCast_ediv,Int.natCast_pow]
 rfl
def setStep (W X:W32) (b p:Nat):W32:=(W &&& ~~~(1#32 <<< b)) ||| (((X >>> p) &&& 1#32) <<< b)
def setV (W X:W32) (a:Nat):Nat→W32
 | 0=>W
 | k+1=>setStep (setV W X a k) X (a+k) k
def getV (W:W32) (a:Nat):Nat→W32
 | 0=>0
 | k+1=>getV W a k ||| (((W >>> (a+k)) &&& 1#32) <<< k)
theorem one_bit (j:Nat):(1#32).getLsbD j=decide (j=0):=by
 rw [BitVec.getLsbD_one]; simp
theorem setStep_bit (W X:W32) {b p:Nat} (hb:b < 32) {j:Nat} (hj:j < 32):(setStep W X b p).getLsbD j=if j=b then X.getLsbD p else W.getLsbD j:=by
 unfold setStep
 rw [BitVec.getLsbD_or,BitVec.getLsbD_and,BitVec.getLsbD_not,BitVec.getLsbD_shiftLeft,BitVec.getLsbD_shiftLeft,BitVec.getLsbD_and,BitVec.getLsbD_ushiftRight,one_bit]
 by_cases h:j=b
 ·subst h
  simp [hj]
 ·rw [if_neg h]
  by_cases h2:j < b
  ·simp [hj,h2]
  ·have:¬ j - b=0:=by omega
   simp [hj,this]
theorem setV_bit (W X:W32) {a:Nat}:∀ {n:Nat},a+n≤32→∀ {j:Nat},j < 32→(setV W X a n).getLsbD j=if a≤j∧j < a+n then X.getLsbD (j - a) else W.getLsbD j
 | 0,_,j,_=>by rw [if_neg (by omega)]; rfl
 | n+1,h,j,hj=>by
  rw [setV,setStep_bit _ _ (by omega) hj]
  by_cases e:j=a+n
  ·rw [if_pos e,if_pos (by omega),e,Nat.add_sub_cancel_left]
  ·rw [if_neg e,setV_bit W X (by omega) hj]
   by_cases e2:a≤j∧j < a+n
   ·rw [if_pos e2,if_pos (by omega)]
   ·rw [if_neg e2,if_neg (by omega)]
theorem getV_bit (W:W32) {a:Nat}:∀ {n:Nat},n≤32→∀ {j:Nat},j < 32→(getV W a n).getLsbD j=(decide (j < n) && W.getLsbD (a+j))
 | 0,_,j,_=>by simp [getV]
 | n+1,h,j,hj=>by
  rw [getV,BitVec.getLsbD_or,getV_bit W (by omega) hj,BitVec.getLsbD_shiftLeft,BitVec.getLsbD_and,BitVec.getLsbD_ushiftRight,one_bit]
  by_cases e:j=n
  ·subst e
   simp [hj]
  ·by_cases e2:j < n
   ·simp [e2]; omega
   ·have h1:¬ j - n=0:=by omega
    have h2:¬ j < n+1:=by omega
    simp [e2,h1,h2]
theorem bits_eq {A B:W32} (h:∀ j,j < 32→A.getLsbD j=B.getLsbD j):A=B:=BitVec.eq_of_getLsbD_eq fun j hj=>h j hj
theorem get_in (W X:W32) {a n b m:Nat} (h:a+n≤32) (h1:a≤b) (h2:b+m≤a+n):getV (setV W X a n) b m=getV X (b - a) m:=bits_eq fun j hj=>by
 rw [getV_bit _ (by omega) hj,getV_bit _ (by omega) hj]
 by_cases e:j < m
 ·rw [setV_bit _ _ h (by omega),if_pos (by omega),show b+j - a=b - a+j by omega]
 ·simp [e]
theorem get_out (W X:W32) {a n b m:Nat} (h:a+n≤32) (hb:b+m≤32) (h1:b+m≤a∨a+n≤b):getV (setV W X a n) b m=getV W b m:=bits_eq fun j hj=>by
 rw [getV_bit _ (by omega) hj,getV_bit _ (by omega) hj]
 by_cases e:j < m
 ·rw [setV_bit _ _ h (by omega),if_neg (by omega)]
 ·simp [e]
theorem get_zero (b m:Nat) (hm:m≤32):getV 0 b m=0:=bits_eq fun j hj=>by
 rw [getV_bit _ hm hj]; simp
theorem get_all {X:W32} {n:Nat} (hn:n≤32) (hx:X.toNat < 2 ^ n):getV X 0 n=X:=bits_eq fun j hj=>by
 rw [getV_bit _ hn hj,Nat.zero_add]
 by_cases e:j < n
 ·simp [e]
 ·have:X.getLsbD j=false:=by
   show X.toNat.testBit j=false
   exact Nat.testBit_lt_two_pow (Nat.lt_of_lt_of_le hx (Nat.pow_le_pow_right (by decide) (by omega)))
  simp [e,this]
theorem get_lt (W:W32) (a:Nat) {n:Nat} (hn:n≤32):(getV W a n).toNat < 2 ^ n:=by
 refine Nat.lt_pow_two_of_testBit _ fun j hj=>?_
 by_cases h:j < 32
 ·have:=getV_bit W (a:=a) hn h
  show (getV W a n).getLsbD j=false
  rw [this]; simp; omega
 ·exact BitVec.getLsbD_of_ge _ _ (by omega)
theorem set1_eq (W X:W32) {b p:Nat} (hb:b < 32) (hp:p < 32):Zch.g (b:Int) (p:Int) (W.toNat:Int) (X.toNat:Int)=some (((setStep W X b p).toNat:Int),(X.toNat:Int),()):=by
 unfold Zch.g Zch.f
 have e1:(1:Int)=((1#32).toNat:Int):=rfl
 rw [if_neg (by omega),if_neg (by omega),if_neg (by omega),shr32 X p (by omega),e1,shl32 (1#32) b (by omega),and32,shl32 _ b (by omega),andNot32,or32]
 rfl
theorem each_set (n:Nat) (X W:W32) {a c:Nat} (hc:1≤c) (h:a+c≤32):∀ (m k:Nat),k≤c→c - k < m→Zbs.l2 n m (a:Int) (c:Int) ((a+k:Nat):Int) ((setV W X a k).toNat:Int) (X.toNat:Int)=some (((setV W X a c).toNat:Int),(X.toNat:Int),()):=by
 intro m
 induction m with
 | zero=>intro k _ hm; omega
 | succ m ih=>
  intro k hk hm
  rw [Zbs.l2]
  simp only [dt]
  by_cases e:k=c
  ·subst e
   by_cases e2:a+k < 32
   ·rw [if_pos (by omega),if_neg (by rw [w64 (by omega)]; omega)]
   ·rw [if_neg (by omega)]
  ·rw [if_pos (by omega),w64 (by omega),if_pos (by omega),show ((a+k:Nat):Int) - (a:Int)=(k:Int) by omega,set1_eq _ X (by omega) (by omega),Option.bind_some]
   dsimp only
   rw [w64 (by omega),show ((a+k:Nat):Int)+1=((a+(k+1):Nat):Int) by omega]
   exact ih (k+1) (by omega) (by omega)
theorem set_eq (W X:W32) {a c:Nat} (hc:1≤c) (h:a+c≤32):Zci.g (W.toNat:Int) (a:Int) (c:Int) (X.toNat:Int)=some (((setV W X a c).toNat:Int),()):=by
 unfold Zci.g Zci.f Zbs.g Zbs.f
 simp only [dt,df]
 rw [if_pos (by omega),if_pos (by omega),w64 (by omega),if_neg (by omega)]
 have hmx:mx (a:Int) 0=((a+0:Nat):Int):=by unfold mx; split <;> omega
 rw [hmx]
 have:=each_set (1000+((a:Int)).toNat+((c:Int)).toNat+((W.toNat:Int)).toNat+((X.toNat:Int)).toNat) X W hc h (1000+((a:Int)).toNat+((c:Int)).toNat+((W.toNat:Int)).toNat+((X.toNat:Int)).toNat) 0 (by omega) (by omega)
 rw [show setV W X a 0=W from rfl] at this
 rw [this,Option.bind_some]
theorem get1_eq (O W:W32) {b p:Nat} (hb:b < 32) (hp:p < 32):Zcj.g (b:Int) (p:Int) (O.toNat:Int) (W.toNat:Int)=some (((O ||| (((W >>> b) &&& 1#32) <<< p)).toNat:Int),(W.toNat:Int),()):=by
 unfold Zcj.g Zcj.f
 have e1:(1:Int)=((1#32).toNat:Int):=rfl
 rw [if_neg (by omega),if_neg (by omega),shr32 W b (by omega),e1,and32,shl32 _ p (by omega),or32]
theorem each_get (n:Nat) (W:W32) {a c:Nat} (hc:1≤c) (h:a+c≤32):∀ (m k:Nat),k≤c→c - k < m→Zbt.l2 n m (a:Int) (c:Int) ((a+k:Nat):Int) ((getV W a k).toNat:Int) (W.toNat:Int)=some (((getV W a c).toNat:Int),(W.toNat:Int),()):=by
 intro m
 induction m with
 | zero=>intro k _ hm; omega
 | succ m ih=>
  intro k hk hm
  rw [Zbt.l2]
  simp only [dt]
  by_cases e:k=c
  ·subst e
   by_cases e2:a+k < 32
   ·rw [if_pos (by omega),if_neg (by rw [w64 (by omega)]; omega)]
   ·rw [if_neg (by omega)]
  ·rw [if_pos (by omega),w64 (by omega),if_pos (by omega),show ((a+k:Nat):Int) - (a:Int)=(k:Int) by omega,get1_eq _ W (by omega) (by omega),Option.bind_some]
   dsimp only
   rw [w64 (by omega),show ((a+k:Nat):Int)+1=((a+(k+1):Nat):Int) by omega]
   exact ih (k+1) (by omega) (by omega)
theorem get_eq (W:W32) {a c:Nat} (hc:1≤c) (h:a+c≤32):Zck.g (W.toNat:Int) (a:Int) (c:Int)=some (((getV W a c).toNat:Int),()):=by
 unfold Zck.g Zck.f Zbt.g Zbt.f
 simp only [dt,df]
 rw [if_pos (by omega),if_pos (by omega),w64 (by omega),if_neg (by omega)]
 have hmx:mx (a:Int) 0=((a+0:Nat):Int):=by unfold mx; split <;> omega
 rw [hmx]
 have:=each_get (1000+((a:Int)).toNat+((c:Int)).toNat+((0:Int)).toNat+((W.toNat:Int)).toNat) W hc h (1000+((a:Int)).toNat+((c:Int)).toNat+((0:Int)).toNat+((W.toNat:Int)).toNat) 0 (by omega) (by omega)
 rw [show ((getV W a 0).toNat:Int)=0 from rfl] at this
 rw [this,Option.bind_some]
end Rv
namespace Rv
open Go
def layF:W32→List (Nat×Nat×Int)→W32
 | W,[]=>W
 | W,(a,n,x)::r=>layF (setV W (BitVec.ofInt 32 x) a n) r
abbrev fld (f:Nat×Nat×Int):Int×Int×Int×Unit:=((f.1:Int),(f.2.1:Int),f.2.2,())
abbrev dFld:Int×Int×Int×Unit:=((0:Int),((0:Int),((0:Int),())))
theorem lay_loop (n:Nat) (fs:List (Nat×Nat×Int)) (hf:∀ f∈fs,1≤f.2.1∧f.1+f.2.1≤32) (hl:fs.length≤1000):∀ (m i:Nat) (W:W32),i≤fs.length→fs.length - i < m →
  Zal.l3 n m (W.toNat:Int) (fs.map fld) ((fs.map fld).length:Int) (i:Int)=some (((layF W (fs.drop i)).toNat:Int),()):=by
 intro m
 induction m with
 | zero=>intro i _ _ h; omega
 | succ m ih=>
  intro i W hi hm
  rw [Zal.l3]
  simp only [dt,List.length_map]
  by_cases h:i < fs.length
  ·have hd:fs.drop i=fs[i]::fs.drop (i+1):=List.drop_eq_getElem_cons h
   have hg:(fs.map fld).getD ((i:Int)).toNat dFld=fld fs[i]:=by
    rw [Int.toNat_natCast,List.getD_eq_getElem?_getD,List.getElem?_eq_getElem (by simpa using h)]; simp
   obtain ⟨h1,h2⟩:=hf fs[i] (List.getElem_mem h)
   rw [if_pos (by omega),if_pos (by omega),if_pos (by decide),if_pos (by decide),if_pos (by decide),hg]
   have q1:∀ x y z:Int,([x,y,z]:List Int).getD ((0:Int)).toNat 0=x:=fun _ _ _=>rfl
   have q2:∀ x y z:Int,([x,y,z]:List Int).getD ((1:Int)).toNat 0=y:=fun _ _ _=>rfl
   have q3:∀ x y z:Int,([x,y,z]:List Int).getD ((2:Int)).toNat 0=z:=fun _ _ _=>rfl
   rw [q1,q2,q3]
   dsimp only [fld]
   rw [wr32,set_eq _ _ h1 h2,Option.bind_some]
   dsimp only
   rw [w64 (by omega),show (i:Int)+1=((i+1:Nat):Int) by omega,hd]
   have:=ih (i+1) (setV W (BitVec.ofInt 32 fs[i].2.2) fs[i].1 fs[i].2.1) (by omega) (by omega)
   rw [List.length_map] at this
   exact this
  ·rw [if_neg (by omega),List.drop_eq_nil_of_le (by omega)]; rfl
theorem lay_eq (fs:List (Nat×Nat×Int)) (hf:∀ f∈fs,1≤f.2.1∧f.1+f.2.1≤32) (hl:fs.length≤1000) (l:List (Int×Int×Int×Unit)) (e:l=fs.map fld):Zal.g l=some (((layF 0 fs).toNat:Int),()):=by
 subst e
 unfold Zal.g Zal.f
 have:=lay_loop (1000+(fs.map fld).length) fs hf hl (1000+(fs.map fld).length) 0 0 (by omega) (by rw [List.length_map]; omega)
 rw [List.drop_zero] at this
 exact this
def hdN (f:Nat) (u v:Bool):Nat:=f * 4+(if u then 2 else 0)+(if v then 1 else 0)
theorem ihead_eq (f:Nat) (hf:f < 4) (u v:Bool):Zaz.g (f:Int) u v=some (28,4,(hdN f u v:Int),()):=by
 have:∀ f:Nat,f < 4→∀ u v:Bool,Zaz.g (f:Int) u v=some (28,4,(hdN f u v:Int),()):=by decide +kernel
 exact this f hf u v
def flds (k o a b c i:Int) (u:Bool):List (Nat×Nat×Int):=
 if k=1 then [(28,4,(hdN 0 u false:Int)),(24,4,a),(20,4,b),(16,4,o),(0,4,c)] else
 if k=3∨k=4 then [(28,4,(hdN 0 true (decide (k=4)):Int)),(24,4,a)] else
 if k=2 then [(28,4,(hdN 1 u (decide (i < 0)):Int)),(24,4,a),(20,4,b),(16,4,o),(0,16,i)] else
 if k=5 then [(28,4,(hdN 2 (decide (2≤o)) (decide (Int.tmod o 2=1)):Int)),(24,4,a),(20,4,b),(0,20,i)] else
 if k=6 then [(28,4,(hdN 3 false u:Int)),(24,4,o),(0,4,c)] else
 [(28,4,(hdN 3 true u:Int)),(24,4,o),(0,24,i)]
theorem flds_ok (k o a b c i:Int) (u:Bool):(∀ f∈flds k o a b c i u,1≤f.2.1∧f.1+f.2.1≤32)∧(flds k o a b c i u).length≤1000:=by
 unfold flds
 split
 ·exact ⟨by simp,by simp⟩
 ·split
  ·exact ⟨by simp,by simp⟩
  ·split
   ·exact ⟨by simp,by simp⟩
   ·split
    ·exact ⟨by simp,by simp⟩
    ·split
     ·exact ⟨by simp,by simp⟩
     ·exact ⟨by simp,by simp⟩
def wordV (k o a b c i:Int) (u:Bool):W32:=layF 0 (flds k o a b c i u)
theorem lay_fl (k o a b c i:Int) (u:Bool) (l:List (Int×Int×Int×Unit)) (e:l=(flds k o a b c i u).map fld):Zal.g l=some (((wordV k o a b c i u).toNat:Int),()):=
 lay_eq _ (flds_ok k o a b c i u).1 (flds_ok k o a b c i u).2 l e
theorem iword_eq (k o a b c i:Int) (u:Bool):Zbf.g k o a b c i u=some (((wordV k o a b c i u).toNat:Int),()):=by
 have J:∀ n,k≠1→k≠2→k≠3→k≠4→k≠5→k≠6→Zbf.j14 n k o a b c i u 24 4 o=some (((wordV k o a b c i u).toNat:Int),()):=fun n h1 h2 h3 h4 h5 h6=>by
  unfold Zbf.j14
  rw [show (3:Int)=((3:Nat):Int) from rfl,ihead_eq 3 (by decide),Option.bind_some,lay_fl k o a b c i u _ (by unfold flds; simp [h1,h2,h3,h4,h5,h6]),Option.bind_some]
 unfold Zbf.g
 generalize 1000+k.toNat+o.toNat+a.toNat+b.toNat+c.toNat+i.toNat=n
 unfold Zbf.f
 simp only [dt]
 have e0:(0:Int)=((0:Nat):Int):=rfl
 by_cases h1:k=1
 ·rw [if_pos h1]
  have:=ihead_eq 0 (by decide) u false
  rw [show ((0:Nat):Int)=0 from rfl] at this
  rw [this,Option.bind_some,lay_fl k o a b c i u _ (by unfold flds; simp [h1]),Option.bind_some]
 ·rw [if_neg h1]
  have h0:=ihead_eq 0 (by decide) true (decide (k=4))
  rw [show ((0:Nat):Int)=0 from rfl] at h0
  have g2:=ihead_eq 1 (by decide) u (decide (i < 0))
  rw [show ((1:Nat):Int)=1 from rfl] at g2
  have g5:=ihead_eq 2 (by decide) (decide (2≤o)) (decide (Int.tmod o 2=1))
  rw [show ((2:Nat):Int)=2 from rfl] at g5
  have g6:=ihead_eq 3 (by decide) false u
  rw [show ((3:Nat):Int)=3 from rfl] at g6
  rw [h0,g2,g5,g6]
  simp only [Option.bind_some]
  by_cases h3:k=3
  ·rw [if_pos h3,if_pos h3,lay_fl k o a b c i u _ (by unfold flds; simp [h3]),Option.bind_some]
  ·rw [if_neg h3]
   by_cases h4:k=4
   ·rw [if_pos h4,lay_fl k o a b c i u _ (by unfold flds; simp [h4]),Option.bind_some]
   ·rw [if_neg h4]
    by_cases h2:k=2
    ·rw [if_pos h2,lay_fl k o a b c i u _ (by unfold flds; simp [h2]),Option.bind_some]
    ·rw [if_neg h2]
     by_cases h5:k=5
     ·rw [if_pos h5,lay_fl k o a b c i u _ (by unfold flds; simp [h5]),Option.bind_some]
     ·rw [if_neg h5]
      by_cases h6:k=6
      ·rw [if_pos h6,lay_fl k o a b c i u _ (by unfold flds; simp [h6]),Option.bind_some]
      ·rw [if_neg h6]
       exact J n h1 h2 h3 h4 h5 h6
abbrev Gn (W:W32) (a n:Nat):Int:=((getV W a n).toNat:Int)
theorem gn_range (W:W32) (a:Nat) {n:Nat} (hn:n≤32):0≤Gn W a n∧Gn W a n < 2 ^ n:=by
 have:=get_lt W a hn
 refine ⟨Int.natCast_nonneg _,?_⟩
 have h2:((2 ^ n:Nat):Int)=2 ^ n:=by rw [Int.natCast_pow]; rfl
 rw [← h2]
 exact Int.ofNat_lt.2 this
theorem read1_eq (W:W32) (a n:Nat) (hn:1≤n) (h:a+n≤32):Zaq.g (a:Int) (n:Int) (W.toNat:Int)=some (Gn W a n,()):=by
 unfold Zaq.g Zaq.f
 rw [get_eq W hn h,Option.bind_some]
 dsimp only
 have:=gn_range W a (n:=n) (by omega)
 have h32:(getV W a n).toNat < 2 ^ 32:=(getV W a n).isLt
 rw [w64 (by omega)]
def sgV (W:W32) (n:Nat):Int:=IntKind.i64.wrap ((IntKind.i32.wrap ((W <<< (32 - n)).toNat:Int)).fdiv (2 ^ (32 - n)))
theorem signed_eq (W:W32) (n:Nat) (h:1≤n) (h2:n≤32):Zcb.g (W.toNat:Int) (n:Int)=some (sgV W n,()):=by
 unfold Zcb.g Zcb.f Zcx.g Zcx.f
 have hk:mn (mx (n:Int) 1) 32=(n:Int):=by unfold mn mx; split <;> split <;> omega
 rw [hk,Option.bind_some]
 dsimp only
 rw [w64 (by omega),show (32:Int) - (n:Int)=((32 - n:Nat):Int) by omega,if_neg (by omega),if_neg (by omega),shl32 W (32 - n) (by omega)]
 have e:min (((32 - n:Nat):Int)).toNat IntKind.i32.bits=32 - n:=by show min (((32 - n:Nat):Int)).toNat 32=_; omega
 rw [e]
 rfl
theorem sg_zero {W:W32} {n:Nat} (h:n≤32) (h0:getV W 0 n=0):sgV W n=0:=by
 have:W <<< (32 - n)=0:=bits_eq fun j hj=>by
  rw [BitVec.getLsbD_shiftLeft]
  by_cases e:j < 32 - n
  ·simp [e]
  ·have:=congrArg (fun V:W32=>V.getLsbD (j - (32 - n))) h0
   simp only [getV_bit W h (show j - (32 - n) < 32 by omega)] at this
   rw [Nat.zero_add] at this
   have h3:j - (32 - n) < n:=by omega
   simp [h3] at this
   simp [e,hj,this]
 unfold sgV
 rw [this]
 show IntKind.i64.wrap ((IntKind.i32.wrap 0).fdiv (2 ^ (32 - n)))=0
 rw [show IntKind.i32.wrap 0=0 from rfl,Int.zero_fdiv]
 rfl
def readT (W:W32):Int×Int×Int×Int×Int×Int×Bool×Unit:=
 if Gn W 30 2=0 then
  (if Gn W 29 1=1∧Gn W 16 4=0 then (3+Gn W 28 1,0,Gn W 24 4,0,0,0,false,()) else (1,Gn W 16 4,Gn W 24 4,Gn W 20 4,Gn W 0 4,0,decide (Gn W 29 1=1),()))
 else if Gn W 30 2=1 then (2,Gn W 16 4,Gn W 24 4,Gn W 20 4,0,Gn W 0 16 - Gn W 28 1 * 65536,decide (Gn W 29 1=1),())
 else if Gn W 30 2=2 then (5,Gn W 29 1 * 2+Gn W 28 1,Gn W 24 4,Gn W 20 4,0,sgV W 20,false,())
 else if Gn W 29 1=1 then (7,Gn W 24 4,0,0,0,sgV W 24,decide (Gn W 28 1=1),())
 else (6,Gn W 24 4,0,0,Gn W 0 4,0,decide (Gn W 28 1=1),())
theorem iread_eq (W:W32):Zba.g (W.toNat:Int)=some (readT W):=by
 unfold Zba.g Zba.f
 have r1:=read1_eq W 29 1 (by decide) (by decide)
 have r2:=read1_eq W 28 1 (by decide) (by decide)
 have r3:=read1_eq W 24 4 (by decide) (by decide)
 have r4:=read1_eq W 20 4 (by decide) (by decide)
 have r5:=read1_eq W 16 4 (by decide) (by decide)
 have r6:=read1_eq W 30 2 (by decide) (by decide)
 have r7:=read1_eq W 0 4 (by decide) (by decide)
 have r8:=read1_eq W 0 16 (by decide) (by decide)
 have s1:=signed_eq W 20 (by decide) (by decide)
 have s2:=signed_eq W 24 (by decide) (by decide)
 have b1:=gn_range W 29 (n:=1) (by decide)
 have b2:=gn_range W 28 (n:=1) (by decide)
 have b8:=gn_range W 0 (n:=16) (by decide)
 have p16:IntKind.i64.wrap (Gn W 28 1 * 2 ^ (min (16:Int).toNat IntKind.i64.bits))=Gn W 28 1 * 65536:=by
  show IntKind.i64.wrap (Gn W 28 1 * 65536)=_
  rw [w64 (by omega)]
 simp only [Int.cast_ofNat_Int] at r1 r2 r3 r4 r5 r6 r7 r8 s1 s2
 simp only [r1,r2,r3,r4,r5,r6,r7,r8,s1,s2,Option.bind_some,dt,Zba.j16,p16]
 unfold readT
 by_cases h1:Gn W 30 2=0
 ·rw [if_pos h1,if_pos h1]
  by_cases h2:Gn W 29 1=1
  ·rw [if_pos h2]
   by_cases h3:Gn W 16 4=0
   ·rw [if_pos h3,if_pos ⟨h2,h3⟩,w64 (by omega)]
   ·rw [if_neg h3,if_neg (fun h=>h3 h.2)]
  ·rw [if_neg h2,if_neg (fun h=>h2 h.1)]
 ·rw [if_neg h1,if_neg h1]
  by_cases h2:Gn W 30 2=1
  ·rw [if_pos h2,if_pos h2,w64 (by omega)]
  ·rw [if_neg h2,if_neg h2]
   by_cases h3:Gn W 30 2=2
   ·rw [if_pos h3,if_pos h3,w64 (x:=Gn W 29 1 * 2) (by omega),w64 (by omega)]
   ·rw [if_neg h3,if_neg h3]
    by_cases h4:Gn W 29 1=1
    ·rw [if_pos h4,if_pos h4]
    ·rw [if_neg h4,if_neg h4]
theorem gn_out (W X:W32) {a n b m:Nat} (h:a+n≤32) (hb:b+m≤32) (h1:b+m≤a∨a+n≤b):Gn (setV W X a n) b m=Gn W b m:=by unfold Gn; rw [get_out W X h hb h1]
theorem gn_in (W:W32) {x:Int} {a n:Nat} (h:a+n≤32) (hx:0≤x∧x < 2 ^ n):Gn (setV W (BitVec.ofInt 32 x) a n) a n=x:=by
 have h1:(2:Int) ^ n=((2 ^ n:Nat):Int):=by rw [Int.natCast_pow]; rfl
 have h2:2 ^ n≤2 ^ 32:=Nat.pow_le_pow_right (by decide) (by omega)
 have h3:(BitVec.ofInt 32 x).toNat=x.toNat:=by
  rw [BitVec.toNat_ofInt]
  rw [h1] at hx
  generalize 2 ^ n=q at *
  omega
 unfold Gn
 rw [get_in W _ h (Nat.le_refl _) (Nat.le_refl _),Nat.sub_self,get_all (by omega) (by rw [h3]; rw [h1] at hx; omega),h3]
 omega
theorem gn_r (W:W32) {x:Int} {a:Nat} (h:a+4≤32) (hx:0≤x∧x < 16):Gn (setV W (BitVec.ofInt 32 x) a 4) a 4=x:=gn_in W h hx
theorem gn_sub (W X:W32) {a n b m:Nat} (h:a+n≤32) (h1:a≤b) (h2:b+m≤a+n):Gn (setV W X a n) b m=Gn X (b - a) m:=by unfold Gn; rw [get_in W X h h1 h2]
theorem gn_zero (b m:Nat) (hm:m≤32):Gn 0 b m=0:=by unfold Gn; rw [get_zero b m hm]; rfl
theorem hd_gn:∀ f:Nat,f < 4→∀ u v:Bool,Gn (BitVec.ofInt 32 (hdN f u v:Int)) 2 2=f∧Gn (BitVec.ofInt 32 (hdN f u v:Int)) 1 1=(if u then 1 else 0)∧Gn (BitVec.ofInt 32 (hdN f u v:Int)) 0 1=(if v then 1 else 0):=by decide +kernel
def rg (x:Int):Prop:=0≤x∧x < 16
inductive GoodI0:Int→Int→Int→Int→Int→Bool→Prop
 | reg {o a b c:Int} {u:Bool}:0 < o→o < 12→rg a→rg b→rg c→(u=true→8≤o∧o≤10)→GoodI0 1 o a b c u
 | mov {a c:Int}:rg a→rg c→GoodI0 1 0 a 0 c false
 | imm {o a b:Int} {u:Bool}:0 < o→o < 12→rg a→rg b→(u=true→8≤o∧o≤10)→GoodI0 2 o a b 0 u
 | movi {a:Int} {u:Bool}:rg a→GoodI0 2 0 a 0 0 u
 | hi {a:Int}:rg a→GoodI0 3 0 a 0 0 false
 | fl {a:Int}:rg a→GoodI0 4 0 a 0 0 false
 | mem {o a b:Int}:0≤o→o < 4→rg a→rg b→GoodI0 5 o a b 0 false
 | br {o c:Int} {u:Bool}:rg o→rg c→GoodI0 6 o 0 0 c u
 | jmp {o:Int} {u:Bool}:rg o→GoodI0 7 o 0 0 0 u
theorem read_reg {o a b c:Int} {u:Bool} (ho:rg o) (ha:rg a) (hb:rg b) (hc:rg c) (hu:u=true→o≠0):readT (wordV 1 o a b c 0 u)=(1,o,a,b,c,0,u,()):=by
 obtain ⟨h1,h2,h3⟩:=hd_gn 0 (by decide) u false
 generalize hW:wordV 1 o a b c 0 u=W
 unfold wordV flds at hW
 rw [if_pos rfl] at hW
 simp only [layF] at hW
 have w1:Gn W 30 2=0:=by rw [← hW,gn_out _ _ (by decide) (by decide) (by decide),gn_out _ _ (by decide) (by decide) (by decide),gn_out _ _ (by decide) (by decide) (by decide),gn_out _ _ (by decide) (by decide) (by decide),gn_sub _ _ (by decide) (by decide) (by decide)]; exact h1
 have w2:Gn W 29 1=if u then 1 else 0:=by rw [← hW,gn_out _ _ (by decide) (by decide) (by decide),gn_out _ _ (by decide) (by decide) (by decide),gn_out _ _ (by decide) (by decide) (by decide),gn_out _ _ (by decide) (by decide) (by decide),gn_sub _ _ (by decide) (by decide) (by decide)]; exact h2
 have w3:Gn W 24 4=a:=by rw [← hW,gn_out _ _ (by decide) (by decide) (by decide),gn_out _ _ (by decide) (by decide) (by decide),gn_out _ _ (by decide) (by decide) (by decide),gn_r _ (by decide) ha]
 have w4:Gn W 20 4=b:=by rw [← hW,gn_out _ _ (by decide) (by decide) (by decide),gn_out _ _ (by decide) (by decide) (by decide),gn_r _ (by decide) hb]
 have w5:Gn W 16 4=o:=by rw [← hW,gn_out _ _ (by decide) (by decide) (by decide),gn_r _ (by decide) ho]
 have w6:Gn W 0 4=c:=by rw [← hW,gn_r _ (by decide) hc]
 unfold readT
 rw [w1,w2,w3,w4,w5,w6,if_pos rfl]
 cases u with
 | false=>simp
 | true=>simp [hu rfl]
theorem read_imm {o a b:Int} {u:Bool} (ho:rg o) (ha:rg a) (hb:rg b):readT (wordV 2 o a b 0 0 u)=(2,o,a,b,0,0,u,()):=by
 obtain ⟨h1,h2,h3⟩:=hd_gn 1 (by decide) u false
 generalize hW:wordV 2 o a b 0 0 u=W
 unfold wordV flds at hW
 rw [if_neg (by decide),if_neg (by decide),if_pos rfl] at hW
 simp only [layF] at hW
 rw [show decide ((0:Int) < 0)=false from rfl] at hW
 have w1:Gn W 30 2=1:=by rw [← hW,gn_out _ _ (by decide) (by decide) (by decide),gn_out _ _ (by decide) (by decide) (by decide),gn_out _ _ (by decide) (by decide) (by decide),gn_out _ _ (by decide) (by decide) (by decide),gn_sub _ _ (by decide) (by decide) (by decide)]; exact h1
 have w2:Gn W 29 1=if u then 1 else 0:=by rw [← hW,gn_out _ _ (by decide) (by decide) (by decide),gn_out _ _ (by decide) (by decide) (by decide),gn_out _ _ (by decide) (by decide) (by decide),gn_out _ _ (by decide) (by decide) (by decide),gn_sub _ _ (by decide) (by decide) (by decide)]; exact h2
 have w7:Gn W 28 1=0:=by rw [← hW,gn_out _ _ (by decide) (by decide) (by decide),gn_out _ _ (by decide) (by decide) (by decide),gn_out _ _ (by decide) (by decide) (by decide),gn_out _ _ (by decide) (by decide) (by decide),gn_sub _ _ (by decide) (by decide) (by decide)]; exact h3
 have w3:Gn W 24 4=a:=by rw [← hW,gn_out _ _ (by decide) (by decide) (by decide),gn_out _ _ (by decide) (by decide) (by decide),gn_out _ _ (by decide) (by decide) (by decide),gn_r _ (by decide) ha]
 have w4:Gn W 20 4=b:=by rw [← hW,gn_out _ _ (by decide) (by decide) (by decide),gn_out _ _ (by decide) (by decide) (by decide),gn_r _ (by decide) hb]
 have w5:Gn W 16 4=o:=by rw [← hW,gn_out _ _ (by decide) (by decide) (by decide),gn_r _ (by decide) ho]
 have w6:Gn W 0 16=0:=by rw [← hW,gn_in _ (by decide) (by decide)]
 unfold readT
 rw [w1,w2,w3,w4,w5,w6,w7,if_neg (by decide),if_pos rfl]
 cases u <;> simp
theorem read_hi {k a:Int} (hk:k=3∨k=4) (ha:rg a):readT (wordV k 0 a 0 0 0 false)=(k,0,a,0,0,0,false,()):=by
 obtain ⟨h1,h2,h3⟩:=hd_gn 0 (by decide) true (decide (k=4))
 generalize hW:wordV k 0 a 0 0 0 false=W
 unfold wordV flds at hW
 rw [if_neg (by omega),if_pos hk] at hW
 simp only [layF] at hW
 have w1:Gn W 30 2=0:=by rw [← hW,gn_out _ _ (by decide) (by decide) (by decide),gn_sub _ _ (by decide) (by decide) (by decide)]; exact h1
 have w2:Gn W 29 1=1:=by rw [← hW,gn_out _ _ (by decide) (by decide) (by decide),gn_sub _ _ (by decide) (by decide) (by decide)]; exact h2
 have w7:Gn W 28 1=if decide (k=4) then 1 else 0:=by rw [← hW,gn_out _ _ (by decide) (by decide) (by decide),gn_sub _ _ (by decide) (by decide) (by decide)]; exact h3
 have w3:Gn W 24 4=a:=by rw [← hW,gn_r _ (by decide) ha]
 have w5:Gn W 16 4=0:=by rw [← hW,gn_out _ _ (by decide) (by decide) (by decide),gn_out _ _ (by decide) (by decide) (by decide),gn_zero _ _ (by decide)]
 unfold readT
 rw [w1,w2,w3,w5,w7,if_pos rfl,if_pos ⟨rfl,rfl⟩]
 rcases hk with rfl | rfl <;> simp
theorem read_mem {o a b:Int} (ho:0≤o∧o < 4) (ha:rg a) (hb:rg b):readT (wordV 5 o a b 0 0 false)=(5,o,a,b,0,0,false,()):=by
 obtain ⟨h1,h2,h3⟩:=hd_gn 2 (by decide) (decide (2≤o)) (decide (Int.tmod o 2=1))
 generalize hW:wordV 5 o a b 0 0 false=W
 unfold wordV flds at hW
 rw [if_neg (by decide),if_neg (by decide),if_neg (by decide),if_pos rfl] at hW
 simp only [layF] at hW
 have w1:Gn W 30 2=2:=by rw [← hW,gn_out _ _ (by decide) (by decide) (by decide),gn_out _ _ (by decide) (by decide) (by decide),gn_out _ _ (by decide) (by decide) (by decide),gn_sub _ _ (by decide) (by decide) (by decide)]; exact h1
 have w2:Gn W 29 1=if decide (2≤o) then 1 else 0:=by rw [← hW,gn_out _ _ (by decide) (by decide) (by decide),gn_out _ _ (by decide) (by decide) (by decide),gn_out _ _ (by decide) (by decide) (by decide),gn_sub _ _ (by decide) (by decide) (by decide)]; exact h2
 have w7:Gn W 28 1=if decide (Int.tmod o 2=1) then 1 else 0:=by rw [← hW,gn_out _ _ (by decide) (by decide) (by decide),gn_out _ _ (by decide) (by decide) (by decide),gn_out _ _ (by decide) (by decide) (by decide),gn_sub _ _ (by decide) (by decide) (by decide)]; exact h3
 have w3:Gn W 24 4=a:=by rw [← hW,gn_out _ _ (by decide) (by decide) (by decide),gn_out _ _ (by decide) (by decide) (by decide),gn_r _ (by decide) ha]
 have w4:Gn W 20 4=b:=by rw [← hW,gn_out _ _ (by decide) (by decide) (by decide),gn_r _ (by decide) hb]
 have w6:sgV W 20=0:=sg_zero (by decide) (by
  rw [← hW]
  have:=gn_in (x:=0) (a:=0) (n:=20) (setV (setV (setV 0 (BitVec.ofInt 32 ((hdN 2 (decide (2≤o)) (decide (Int.tmod o 2=1)):Nat):Int)) 28 4) (BitVec.ofInt 32 a) 24 4) (BitVec.ofInt 32 b) 20 4) (by decide) (by decide)
  exact BitVec.eq_of_toNat_eq (by unfold Gn at this; simpa using this))
 have:o=0∨o=1∨o=2∨o=3:=by omega
 unfold readT
 rw [w1,w2,w3,w4,w6,w7,if_neg (by decide),if_neg (by decide),if_pos rfl]
 rcases this with rfl | rfl | rfl | rfl <;> rfl
theorem read_br {o c:Int} {u:Bool} (ho:rg o) (hc:rg c):readT (wordV 6 o 0 0 c 0 u)=(6,o,0,0,c,0,u,()):=by
 obtain ⟨h1,h2,h3⟩:=hd_gn 3 (by decide) false u
 generalize hW:wordV 6 o 0 0 c 0 u=W
 unfold wordV flds at hW
 rw [if_neg (by decide),if_neg (by decide),if_neg (by decide),if_neg (by decide),if_pos rfl] at hW
 simp only [layF] at hW
 have w1:Gn W 30 2=3:=by rw [← hW,gn_out _ _ (by decide) (by decide) (by decide),gn_out _ _ (by decide) (by decide) (by decide),gn_sub _ _ (by decide) (by decide) (by decide)]; exact h1
 have w2:Gn W 29 1=0:=by rw [← hW,gn_out _ _ (by decide) (by decide) (by decide),gn_out _ _ (by decide) (by decide) (by decide),gn_sub _ _ (by decide) (by decide) (by decide)]; exact h2
 have w7:Gn W 28 1=if u then 1 else 0:=by rw [← hW,gn_out _ _ (by decide) (by decide) (by decide),gn_out _ _ (by decide) (by decide) (by decide),gn_sub _ _ (by decide) (by decide) (by decide)]; exact h3
 have w3:Gn W 24 4=o:=by rw [← hW,gn_out _ _ (by decide) (by decide) (by decide),gn_r _ (by decide) ho]
 have w6:Gn W 0 4=c:=by rw [← hW,gn_r _ (by decide) hc]
 unfold readT
 rw [w1,w2,w3,w6,w7,if_neg (by decide),if_neg (by decide),if_neg (by decide),if_neg (by decide)]
 cases u <;> simp
theorem read_jmp {o:Int} {u:Bool} (ho:rg o):readT (wordV 7 o 0 0 0 0 u)=(7,o,0,0,0,0,u,()):=by
 obtain ⟨h1,h2,h3⟩:=hd_gn 3 (by decide) true u
 generalize hW:wordV 7 o 0 0 0 0 u=W
 unfold wordV flds at hW
 rw [if_neg (by decide),if_neg (by decide),if_neg (by decide),if_neg (by decide),if_neg (by decide)] at hW
 simp only [layF] at hW
 have w1:Gn W 30 2=3:=by rw [← hW,gn_out _ _ (by decide) (by decide) (by decide),gn_out _ _ (by decide) (by decide) (by decide),gn_sub _ _ (by decide) (by decide) (by decide)]; exact h1
 have w2:Gn W 29 1=1:=by rw [← hW,gn_out _ _ (by decide) (by decide) (by decide),gn_out _ _ (by decide) (by decide) (by decide),gn_sub _ _ (by decide) (by decide) (by decide)]; exact h2
 have w7:Gn W 28 1=if u then 1 else 0:=by rw [← hW,gn_out _ _ (by decide) (by decide) (by decide),gn_out _ _ (by decide) (by decide) (by decide),gn_sub _ _ (by decide) (by decide) (by decide)]; exact h3
 have w3:Gn W 24 4=o:=by rw [← hW,gn_out _ _ (by decide) (by decide) (by decide),gn_r _ (by decide) ho]
 have w6:sgV W 24=0:=sg_zero (by decide) (by
  rw [← hW]
  have:=gn_in (x:=0) (a:=0) (n:=24) (setV (setV 0 (BitVec.ofInt 32 ((hdN 3 true u:Nat):Int)) 28 4) (BitVec.ofInt 32 o) 24 4) (by decide) (by decide)
  exact BitVec.eq_of_toNat_eq (by unfold Gn at this; simpa using this))
 unfold readT
 rw [w1,w2,w3,w6,w7,if_neg (by decide),if_neg (by decide),if_neg (by decide),if_pos rfl]
 cases u <;> simp
theorem read_good {k o a b c:Int} {u:Bool} (h:GoodI0 k o a b c u):readT (wordV k o a b c 0 u)=(k,o,a,b,c,0,u,()):=by
 have z:rg 0:=⟨by decide,by decide⟩
 cases h with
 | reg h1 h2 ha hb hc hu=>exact read_reg ⟨by omega,by omega⟩ ha hb hc (fun _=>by omega)
 | mov ha hc=>exact read_reg z ha z hc (fun h=>by cases h)
 | imm h1 h2 ha hb hu=>exact read_imm ⟨by omega,by omega⟩ ha hb
 | movi ha=>exact read_imm z ha z
 | hi ha=>exact read_hi (.inl rfl) ha
 | fl ha=>exact read_hi (.inr rfl) ha
 | mem h1 h2 ha hb=>exact read_mem ⟨h1,h2⟩ ha hb
 | br ho hc=>exact read_br ho hc
 | jmp ho=>exact read_jmp ho
theorem between_eq (n l h:Int):Zbv.g n l h=some (decide (l≤n) && decide (n≤h),()):=by
 unfold Zbv.g Zbv.f
 by_cases e:l≤n
 ·rw [if_pos (by simpa using e),decide_eq_true e]; rfl
 ·rw [if_neg (by simpa using e),decide_eq_false e]; rfl
theorem i0_range {k o a b c:Int} {u:Bool} (h:GoodI0 k o a b c u):1≤k∧k≤7∧0≤o∧o≤15:=by
 cases h <;> refine ⟨by decide,by decide,?_,?_⟩ <;> first | decide | omega | (rename_i h _; exact h.1) | (rename_i h _; have:=h.2; omega) | (rename_i h; exact h.1) | (rename_i h; have:=h.2; omega)
theorem readT_range (W:W32):rg (readT W).2.2.1∧rg (readT W).2.2.2.1∧rg (readT W).2.2.2.2.1:=by
 have z:rg 0:=⟨by decide,by decide⟩
 have a:∀ p,rg (Gn W p 4):=fun p=>gn_range W p (n:=4) (by decide)
 unfold readT
 split
 ·split
  ·exact ⟨a _,z,z⟩
  ·exact ⟨a _,a _,a _⟩
 ·split
  ·exact ⟨a _,a _,z⟩
  ·split
   ·exact ⟨a _,a _,z⟩
   ·split
    ·exact ⟨z,z,z⟩
    ·exact ⟨z,z,a _⟩
theorem isa_total (k o a b c i:Int) (u:Bool):∃ r,Zas.g k o a b c i u=some (r,())∧(r=true→(1≤k∧k≤7)∧rg a∧rg b∧rg c):=by
 unfold Zas.g
 generalize 1000+k.toNat+o.toNat+a.toNat+b.toNat+c.toNat+i.toNat=n
 unfold Zas.f
 rw [between_eq,Option.bind_some]
 dsimp only
 by_cases hk:1≤k∧k≤7
 case neg=>rw [if_neg (by simp; omega)]; exact ⟨_,rfl,fun h=>by cases h⟩
 rw [if_pos (by simp [hk]),between_eq,Option.bind_some]
 dsimp only
 by_cases ho:0≤o∧o≤15
 case neg=>rw [if_neg (by simp; omega)]; exact ⟨_,rfl,fun h=>by cases h⟩
 rw [if_pos (by simp [ho]),iword_eq,Option.bind_some]
 dsimp only
 rw [iread_eq,Option.bind_some]
 obtain ⟨r1,r2,r3⟩:=readT_range (wordV k o a b c i u)
 generalize readT (wordV k o a b c i u)=y at *
 split
 ·exact ⟨_,rfl,fun h=>by cases h⟩
 ·rename_i he
  simp only [Bool.not_eq_true',Bool.not_eq_false,Bool.and_eq_true,decide_eq_true_eq] at he
  have hg:(1≤k∧k≤7)∧rg a∧rg b∧rg c:=⟨hk,he.2.2.1 ▸ r1,he.2.2.2.1 ▸ r2,he.2.2.2.2.1 ▸ r3⟩
  simp only [dt,df,Zas.j10,between_eq,Option.bind_some]
  repeat' split
  all_goals exact ⟨_,rfl,fun _=>hg⟩
end Rv
namespace Rv
open Go
theorem i0_rg {k o a b c:Int} {u:Bool} (h:GoodI0 k o a b c u):rg a∧rg b∧rg c:=by
 have z:rg 0:=⟨by decide,by decide⟩
 cases h <;> refine ⟨?_,?_,?_⟩ <;> assumption
def I0P (k o a b c:Int) (u:Bool):Prop:=
 (k=1∧0 < o∧o < 12∧(u=true→8≤o∧o≤10))∨(k=1∧o=0∧b=0∧u=false)∨(k=2∧0 < o∧o < 12∧c=0∧(u=true→8≤o∧o≤10))∨(k=2∧o=0∧b=0∧c=0) ∨
 (k=3∧o=0∧b=0∧c=0∧u=false)∨(k=4∧o=0∧b=0∧c=0∧u=false)∨(k=5∧0≤o∧o < 4∧c=0∧u=false)∨(k=6∧0≤o∧o < 16∧a=0∧b=0)∨(k=7∧0≤o∧o < 16∧a=0∧b=0∧c=0)
instance (k o a b c:Int) (u:Bool):Decidable (I0P k o a b c u):=by unfold I0P; infer_instance
theorem i0P_iff {k o a b c:Int} {u:Bool} (ha:rg a) (hb:rg b) (hc:rg c):GoodI0 k o a b c u↔I0P k o a b c u:=by
 constructor
 ·intro h
  unfold I0P
  cases h with
  | reg h1 h2 _ _ _ h3=>exact .inl ⟨rfl,h1,h2,h3⟩
  | mov _ _=>exact .inr (.inl ⟨rfl,rfl,rfl,rfl⟩)
  | imm h1 h2 _ _ h3=>exact .inr (.inr (.inl ⟨rfl,h1,h2,rfl,h3⟩))
  | movi _=>exact .inr (.inr (.inr (.inl ⟨rfl,rfl,rfl,rfl⟩)))
  | hi _=>exact .inr (.inr (.inr (.inr (.inl ⟨rfl,rfl,rfl,rfl,rfl⟩))))
  | fl _=>exact .inr (.inr (.inr (.inr (.inr (.inl ⟨rfl,rfl,rfl,rfl,rfl⟩)))))
  | mem h1 h2 _ _=>exact .inr (.inr (.inr (.inr (.inr (.inr (.inl ⟨rfl,h1,h2,rfl,rfl⟩))))))
  | br h _=>exact .inr (.inr (.inr (.inr (.inr (.inr (.inr (.inl ⟨rfl,h.1,h.2,rfl,rfl⟩)))))))
  | jmp h=>exact .inr (.inr (.inr (.inr (.inr (.inr (.inr (.inr ⟨rfl,h.1,h.2,rfl,rfl,rfl⟩)))))))
 ·intro h
  unfold I0P at h
  rcases h with ⟨rfl,h1,h2,h3⟩ | ⟨rfl,rfl,rfl,rfl⟩ | ⟨rfl,h1,h2,rfl,h3⟩ | ⟨rfl,rfl,rfl,rfl⟩ | ⟨rfl,rfl,rfl,rfl,rfl⟩ | ⟨rfl,rfl,rfl,rfl,rfl⟩ | ⟨rfl,h1,h2,rfl,rfl⟩ | ⟨rfl,h1,h2,rfl,rfl⟩ | ⟨rfl,h1,h2,rfl,rfl,rfl⟩
  ·exact .reg h1 h2 ha hb hc h3
  ·exact .mov ha hc
  ·exact .imm h1 h2 ha hb h3
  ·exact .movi ha
  ·exact .hi ha
  ·exact .fl ha
  ·exact .mem h1 h2 ha hb
  ·exact .br ⟨h1,h2⟩ hc
  ·exact .jmp ⟨h1,h2⟩
end Rv
