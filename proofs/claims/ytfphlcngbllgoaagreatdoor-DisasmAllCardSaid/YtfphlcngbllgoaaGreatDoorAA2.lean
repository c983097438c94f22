/- Texts put together. -/
import Derived.Test.YtfphlcngbllgoaaGreatDoorAA1
import Derived.Test.YtfphlcngbllgoaaGreatDoorA7
set_option linter.all false
open _root_ renaming Int→I,if_pos→S,if_neg→Z,Nat→G,List→M,Bool→E,Unit→zab,Option→zac
open Option renaming some→U,none→D
open Bool renaming false→Y,true→H
open Decidable renaming decide→N
open Go.IntKind renaming u32→C,i64→zaa,u64→zad
noncomputable section
namespace Rv
open Go Go.Proofs
noncomputable section
set_option maxRecDepth 100000
set_option maxHeartbeats 2000000
variable{ad:LQ}
abbrev u0:Ty:=.pair .str (.pair (.int .i64) .nil)
abbrev u1:Ty:=.pair (.int .i64) (.pair (.int .i64) (.pair (.int .i64) .nil))
abbrev u2:Ty:=.pair (.int .i64) (.pair (.int .u32) (.pair .str .nil))
abbrev u3:Ty:=.pair .str (.pair (.pair (.int .i64) (.pair (.int .i64) (.pair (.int .i64) (.pair (.int .i64) (.pair (.int .i64) (.pair .bool (.pair (.sl (.pair (.int .i64) (.pair (.int .u32) (.pair .str .nil)))) (.pair .str .nil)))))))) .nil)
abbrev u4:Ty:=.pair .fn (.pair .fn .nil)
abbrev u5:Ty:=.pair (.int .i64) (.pair (.int .i64) (.pair .str (.pair (.int .u32) .nil)))
abbrev u6:Ty:=.pair (.int .u32) (.pair (.int .i64) .nil)
abbrev u7:Ty:=.pair (.sl (.int .u32)) (.pair (.sl (.int .i64)) (.pair (.sl (.pair .str (.pair (.int .i64) .nil))) .nil))
abbrev u8:Ty:=.pair (.int .i64) (.pair (.int .i64) (.pair (.int .i64) (.pair (.int .i64) (.pair (.int .i64) (.pair .bool (.pair (.sl (.pair (.int .i64) (.pair (.int .u32) (.pair .str .nil)))) (.pair .str .nil)))))))
abbrev u9:Ty:=.pair (.sl (.int .u32)) (.pair (.sl (.int .u8)) (.pair (.sl .str) .nil))
abbrev u10:Ty:=.pair (.int .i64) (.pair (.int .i64) (.pair (.int .i64) (.pair (.int .i64) (.pair (.int .i64) (.pair (.int .i64) (.pair .bool .nil))))))
abbrev u11:Ty:=.pair (.sl (.int .i64)) (.pair (.sl (.pair .str (.pair (.int .i64) .nil))) (.pair (.sl (.pair (.int .u32) (.pair (.int .i64) .nil))) (.pair (.int .i64) (.pair (.int .i64) .nil))))
abbrev u12:Ty:=.pair (.pair (.sl (.int .i64)) (.pair (.sl (.pair .str (.pair (.int .i64) .nil))) (.pair (.sl (.pair (.int .u32) (.pair (.int .i64) .nil))) (.pair (.int .i64) (.pair (.int .i64) .nil))))) (.pair (.pair (.sl (.int .u32)) (.pair (.sl (.int .i64)) (.pair (.sl (.pair .str (.pair (.int .i64) .nil))) .nil))) .nil)
abbrev u13:Ty:=.pair (.sl (.pair (.int .i64) (.pair (.int .i64) (.pair .str (.pair (.int .u32) .nil))))) (.pair (.int .i64) (.pair (.int .i64) .nil))
abbrev u14:Ty:=.pair (.int .i64) (.pair (.int .i64) .nil)
abbrev u15:Ty:=.pair (.sl (.pair (.int .i64) (.pair (.int .i64) (.pair .str (.pair (.int .u32) .nil))))) (.pair (.int .i64) (.pair (.sl (.pair (.int .i64) (.pair (.int .u32) (.pair .str .nil)))) (.pair (.int .i64) .nil)))
abbrev c0:M CD:=[.sl (.int .u32),.sl (.int .i64),.sl u0]
abbrev c1:M CD:=[ki,ki,ki,ki,ki,ki,.bool]
abbrev c2:M CD:=[ki,ki,ki,ki,ki,.bool,.sl u2,.str]
abbrev c3:M CD:=[.str,ki,ki,ki,ki,ki,.bool,.sl u2,.str]
abbrev c4:M CD:=[.row 51 (.int .u32),.row 3 (.int .i64),.row 70 u0]
abbrev c5:M CD:=[.sl (.int .u32),.sl (.int .u8),.sl .str]
abbrev c6:M CD:=[.sl u5,ki,.row 53 u2,ki]
abbrev c7:M CD:=[.row 3 (.int .i64),.row 70 u0,.sl u6,ki,ki]
abbrev c8:M CD:=[.sl (.int .i64),.sl u0,.sl u6,ki,ki,.row 51 (.int .u32),.row 3 (.int .i64),.row 70 u0]
abbrev c9:M CD:=[.sl (.int .i64),.sl u0,.sl u6,ki,ki]
abbrev c10:M CD:=[.sl (.int .u32),.sl (.int .i64),.row 70 u0]
def types:M (TypeId×TI):=[
 tI 2 .i64 8,
 tI 3 .i64 8,
 tB 4 1,
 tI 5 .u8 1,
 tS 9 16,
 tI 21 .i32 4,
 tL 22 51 (.int .u32),
 tL 23 3 (.int .i64),
 tL 24 70 u0,
 (26,⟨3,H,72,[.nilS,.nilS,.nilS],[(0,1,Y),(1,1,Y),(2,1,Y)],D,U u7,D,Y,Y,Y,D,D⟩),
 tL 29 78 u3,
 tI 30 .i64 8,
 tL 36 53 u2,
 (38,⟨8,H,88,[.int .i64 0,.int .i64 0,.int .i64 0,.int .i64 0,.int .i64 0,.bool Y,.nilS,.str []],[(0,1,Y),(1,1,Y),(2,1,Y),(3,1,Y),(4,1,Y),(5,1,Y),(6,1,Y),(7,1,Y)],D,U u8,D,Y,Y,Y,D,D⟩),
 tL 42 5 (.int .u8),
 tL 43 9 .str,
 (45,⟨3,H,72,[.nilS,.nilS,.nilS],[(0,1,Y),(1,1,Y),(2,1,Y)],D,U u9,D,Y,Y,Y,D,D⟩),
 (48,⟨7,H,56,[.int .i64 0,.int .i64 0,.int .i64 0,.int .i64 0,.int .i64 0,.int .i64 0,.bool Y],[(0,1,Y),(1,1,Y),(2,1,Y),(3,1,Y),(4,1,Y),(5,1,Y),(6,1,Y)],D,U u10,D,Y,Y,Y,U u10,D⟩),
 tI 51 .u32 4,
 (53,⟨3,H,32,[.int .i64 0,.int .u32 0,.str []],[(0,1,Y),(1,1,Y),(2,1,Y)],D,U u2,D,Y,Y,Y,U u2,D⟩),
 (70,⟨2,H,24,[.str [],.int .i64 0],[(0,1,Y),(1,1,Y)],D,U u0,D,Y,Y,Y,U u0,D⟩),
 (78,⟨9,H,104,[.str [],.int .i64 0,.int .i64 0,.int .i64 0,.int .i64 0,.int .i64 0,.bool Y,.nilS,.str []],[(0,1,Y),(1,8,H)],D,U u3,D,Y,Y,Y,D,D⟩),
 tL 96 106 u6,
 (98,⟨5,H,88,[.nilS,.nilS,.nilS,.int .i64 0,.int .i64 0],[(0,1,Y),(1,1,Y),(2,1,Y),(3,1,Y),(4,1,Y)],D,U u11,D,Y,Y,Y,D,D⟩),
 (101,⟨1,Y,8,[.raw (.pointer D)],[],D,D,D,Y,Y,Y,D,D⟩),
 (103,⟨8,H,160,[.nilS,.nilS,.nilS,.int .i64 0,.int .i64 0,.nilS,.nilS,.nilS],[(0,5,H),(5,3,H)],D,U u12,D,Y,Y,Y,D,D⟩),
 (106,⟨2,H,16,[.int .u32 0,.int .i64 0],[(0,1,Y),(1,1,Y)],D,U u6,D,Y,Y,Y,U u6,D⟩),
 tI 135 .u64 8,
 (138,⟨3,H,24,[.int .i64 0,.int .i64 0,.int .i64 0],[],D,U u1,D,Y,Y,Y,D,U 3⟩),
 tL 143 199 u5,
 (150,⟨1,Y,8,[.raw .nilFunc],[],D,U .fn,D,Y,Y,Y,D,D⟩),
 tL 155 150 .fn,
 tL 175 180 u4,
 (177,⟨1,Y,8,[.raw .nilFunc],[],D,U .fn,D,Y,Y,Y,D,D⟩),
 (178,⟨1,Y,8,[.raw .nilFunc],[],D,U .fn,D,Y,Y,Y,D,D⟩),
 (180,⟨2,H,16,[.raw .nilFunc,.raw .nilFunc],[(0,1,Y),(1,1,Y)],D,U u4,D,Y,Y,Y,D,D⟩),
 (186,⟨1,Y,16,[.raw .nilIface],[],D,D,D,Y,H,Y,D,D⟩),
 tL 194 138 u1,
 (199,⟨4,H,40,[.int .i64 0,.int .i64 0,.str [],.int .u32 0],[(0,1,Y),(1,1,Y),(2,1,Y),(3,1,Y)],D,U u5,D,Y,Y,Y,D,D⟩),
 (205,⟨3,H,40,[.nilS,.int .i64 0,.int .i64 0],[(0,1,Y),(1,1,Y),(2,1,Y)],D,U u13,D,Y,Y,Y,D,D⟩),
 tL 212 106 u6,
 (219,⟨2,H,16,[.int .i64 0,.int .i64 0],[],D,U u14,D,Y,Y,Y,D,U 2⟩),
 (236,⟨1,Y,8,[.raw .nilFunc],[],D,U .fn,D,Y,Y,Y,D,D⟩),
 tI 247 .u64 8,
 (284,⟨1,Y,8,[.raw (.pointer D)],[],D,D,D,Y,Y,Y,D,D⟩),
 (286,⟨4,H,64,[.nilS,.int .i64 0,.nilS,.int .i64 0],[(0,1,Y),(1,1,Y),(2,1,Y),(3,1,Y)],D,U u15,D,Y,Y,Y,D,D⟩),
 tL 287 289 u0,
 (289,⟨2,H,24,[.str [],.int .i64 0],[(0,1,Y),(1,1,Y)],D,U u0,D,Y,Y,Y,D,D⟩),
 tI 296 .i64 8]
theorem gq:(types.all λp=>jH P p.1 p.2)=H:=by kernel_rfl
def slices_Clone_uint32_uint32.T(ad:LQ):TF P (LW ad):=⟨109,[],slices_Clone_uint32_uint32.sp,slices_Clone_uint32_uint32.sat,slices_Clone_uint32_uint32.enter⟩
def strings_Trim.T(ad:LQ):TF P (LW ad):=⟨112,[],strings_Trim.sp,strings_Trim.sat,strings_Trim.enter⟩
def strconv_Itoa.T(ad:LQ):TF P (LW ad):=⟨223,[],strconv_Itoa.sp,strconv_Itoa.sat,strconv_Itoa.enter⟩
def internal_strconv_FormatUint.T(ad:LQ):TF P (LW ad):=⟨286,[],internal_strconv_FormatUint.sp,internal_strconv_FormatUint.sat,internal_strconv_FormatUint.enter⟩
def name_Mnemonic.T(ad:LQ):TF P (LW ad):=⟨125,[],name_Mnemonic.sp,name_Mnemonic.sat,name_Mnemonic.enter⟩
def stmt_operands.T(ad:LQ):TF P (LW ad):=⟨128,[],stmt_operands.sp,stmt_operands.sat,stmt_operands.enter⟩
def strings_Join.T(ad:LQ):TF P (LW ad):=⟨82,[],strings_Join.sp,strings_Join.sat,strings_Join.enter⟩
def internal_strconv_underscoreOK.T(ad:LQ):TF P (LW ad):=⟨269,[],internal_strconv_underscoreOK.sp,internal_strconv_underscoreOK.sat,internal_strconv_underscoreOK.enter⟩
def strconv_toError.T(ad:LQ):TF P (LW ad):=⟨246,[],strconv_toError.sp,strconv_toError.sat,strconv_toError.enter⟩
def strings_CutPrefix.T(ad:LQ):TF P (LW ad):=⟨200,[],strings_CutPrefix.sp,strings_CutPrefix.sat,strings_CutPrefix.enter⟩
def mkF(ad:LQ):=@mkT P (LW ad) types mixed gq maps iE
def Nz(ad:LQ):=@MF P (LW ad) types mixed gq maps iE
namespace Zar
def sp:Spec:=ah ⟨[(0,.c (.sl (.int .u32))),(1,.c (.sl (.int .i64)))],[]⟩ ⟨[(0,.c (.row 51 (.int .u32))),(1,Si),(2,Si)],[]⟩ g
def T(ad:LQ):=mkF ad 59 [] sp [slices_Clone_uint32_uint32.T ad] t0 (λn=>tl 12 ⟨[(10,.c (.row 51 (.int .u32))),(11,Si),(37,.c (.sl (.int .i64))),(38,Si),(39,Si)],[]⟩ (λ_=>l12 n) <| tl 3 ⟨[(0,.c (.sl (.int .u32))),(1,.c (.sl (.int .i64))),(7,Si),(14,.c (.sl (.int .i64))),(15,Si),(16,Si)],[]⟩ (λ_=>l3 n) <| tn) t0 64 [] f (λa b=>1000+a.length+b.length) (by kernel_rfl)
end Zar
namespace Zdj
def sp:Spec:=ah ⟨[(0,Si),(1,Sp 0 0),(2,Sp 1 0)],[(U 1,c0),(U 2,[ki])]⟩ ⟨[(0,SB)],[(D,c0),(D,[ki])]⟩ g
def T(ad:LQ):=mkF ad 65 [] sp [] t0 t0 t0 13 [] f (λa b c d e=>1000+a.toNat+b.length+c.length+d.length+e.toNat) (by kernel_rfl)
end Zdj
namespace Zbl
def sp:Spec:=ah ⟨[(0,.c (.sl (.int .i64))),(1,.clo 65 [.ptr 0 0,.ptr 1 0])],[(U 1,c0),(U 2,[ki])]⟩ ⟨[(0,Si)],[(D,c0),(D,[ki])]⟩ g
def T(ad:LQ):=mkF ad 113 [65] sp [Zdj.T ad] t0 (λn=>tl 2 ⟨[(0,.c (.sl (.int .i64))),(1,.clo 65 [.ptr 0 0,.ptr 1 0]),(7,Si),(8,Si)],[(D,c0),(D,[ki])]⟩ (λ_=>l2 n) <| tn) t0 19 [] f (λa b c d e=>1000+a.length+b.length+c.length+d.length+e.toNat) (by kernel_rfl)
end Zbl
namespace Zco
def sp:Spec:=ah ⟨[(0,.c (.sl (.int .i64))),(1,.clo 65 [.ptr 0 0,.ptr 1 0])],[(U 1,c0),(U 2,[ki])]⟩ ⟨[(0,SB)],[(D,c0),(D,[ki])]⟩ g
def T(ad:LQ):=mkF ad 69 [65] sp [Zbl.T ad] t0 t0 t0 9 [] f (λa b c d e=>1000+a.length+b.length+c.length+d.length+e.toNat) (by kernel_rfl)
end Zco
namespace Zbu
def sp:Spec:=ah ⟨[(0,Sb),(1,SB)],[]⟩ ⟨[(0,SB)],[]⟩ g
def T(ad:LQ):=mkF ad 111 [] sp [] (λn=>tj 4 ⟨[(0,Sb),(1,SB)],[]⟩ (λ_=>j4 n) <| tn) t0 t0 32 [] f (λa _=>1000+a.toNat) (by kernel_rfl)
end Zbu
namespace Zav
def sp:Spec:=ah ⟨[(0,Ss)],[]⟩ ⟨[(0,SB)],[]⟩ g
def T(ad:LQ):=mkF ad 68 [] sp [Zbu.T ad,strings_Trim.T ad] t0 (λn=>tl 4 ⟨[(0,Ss),(14,Si),(15,Si)],[]⟩ (λ_=>l4 n) <| tn) t0 47 [] f (λa=>1000+a.length) (by kernel_rfl)
end Zav
namespace Zaq
def sp:Spec:=ah ⟨[(0,Sp 0 0)],[(U 0,c0)]⟩ ⟨[(0,SB)],[(D,c0)]⟩ g
def T(ad:LQ):=mkF ad 67 [] sp [Zav.T ad] (λn=>tj 6 ⟨[(0,Sp 0 0),(5,.c (.sl u0)),(6,Si),(7,Si)],[(D,c0)]⟩ (λms=>j6 n (l2 n ms.head!)) <| tn) (λn=>tl 2 ⟨[(0,Sp 0 0),(5,.c (.sl u0)),(6,Si),(7,Si)],[(D,c0)]⟩ (λ_=>l2 n) <| tn) t0 33 [] f (λa b c=>1000+a.length+b.length+c.length) (by kernel_rfl)
end Zaq
namespace Zcz
def sp:Spec:=ah ⟨[(0,.agg [.str,ki]),(1,Sp 0 0)],[(U 2,[ki])]⟩ ⟨[(0,SB)],[(D,[ki])]⟩ g
def T(ad:LQ):=mkF ad 66 [] sp [] t0 t0 t0 19 [] f (λa b c=>1000+a.length+b.toNat+c.toNat) (by kernel_rfl)
end Zcz
namespace Zbm
def sp:Spec:=ah ⟨[(0,.c (.sl u0)),(1,.clo 66 [.ptr 0 0])],[(U 1,[ki])]⟩ ⟨[(0,Si)],[(D,[ki])]⟩ g
def T(ad:LQ):=mkF ad 114 [66] sp [Zcz.T ad] t0 (λn=>tl 2 ⟨[(0,.c (.sl u0)),(1,.clo 66 [.ptr 0 0]),(7,Si),(8,Si)],[(D,[ki])]⟩ (λ_=>l2 n) <| tn) t0 19 [] f (λa b=>1000+a.length+b.toNat) (by kernel_rfl)
end Zbm
namespace Zcp
def sp:Spec:=ah ⟨[(0,.c (.sl u0)),(1,.clo 66 [.ptr 0 0])],[(U 1,[ki])]⟩ ⟨[(0,SB)],[(D,[ki])]⟩ g
def T(ad:LQ):=mkF ad 70 [66] sp [Zbm.T ad] t0 t0 t0 9 [] f (λa b=>1000+a.length+b.toNat) (by kernel_rfl)
end Zcp
namespace Zbn
def sp:Spec:=ah ⟨[(0,.agg c0)],[]⟩ ⟨[(0,Si)],[]⟩ g
def T(ad:LQ):=mkF ad 29 [] sp [Zar.T ad,Zco.T ad,Zaq.T ad,Zcp.T ad] t0 t0 t0 54 [] f (λa b c=>1000+a.length+b.length+c.length) (by kernel_rfl)
end Zbn
namespace Zcq
def sp:Spec:=ah ⟨[(0,.c (.sl (.int .i64))),(1,Si)],[]⟩ ⟨[(0,Si)],[]⟩ g
def T(ad:LQ):=mkF ad 84 [] sp [] t0 (λn=>tl 2 ⟨[(0,.c (.sl (.int .i64))),(1,Si),(7,Si),(8,Si)],[]⟩ (λ_=>l2 n) <| tn) t0 19 [] f (λa b=>1000+a.length+b.toNat) (by kernel_rfl)
end Zcq
namespace Zda
def sp:Spec:=ah ⟨[(0,.c (.sl (.int .i64))),(1,Si)],[]⟩ ⟨[(0,SB)],[]⟩ g
def T(ad:LQ):=mkF ad 40 [] sp [Zcq.T ad] t0 t0 t0 9 [] f (λa b=>1000+a.length+b.toNat) (by kernel_rfl)
end Zda
namespace Zdw
def sp:Spec:=ah ⟨[(0,Si),(1,Si),(2,Sp 0 0),(3,Sp 1 0)],[(U 2,[ku]),(U 3,[ku])]⟩ ⟨[],[(D,[ku]),(D,[ku])]⟩ g
def T(ad:LQ):=mkF ad 140 [] sp [] t0 t0 t0 14 [] f (λa b c d=>1000+a.toNat+b.toNat+c.toNat+d.toNat) (by kernel_rfl)
end Zdw
namespace Zcs
def sp:Spec:=ah ⟨[(0,Si),(1,Si),(2,.clo 140 [.ptr 0 0,.ptr 1 0])],[(U 2,[ku]),(U 3,[ku])]⟩ ⟨[],[(D,[ku]),(D,[ku])]⟩ g
def T(ad:LQ):=mkF ad 139 [140] sp [Zdw.T ad] t0 (λn=>tl 2 ⟨[(0,Si),(1,Si),(2,.clo 140 [.ptr 0 0,.ptr 1 0]),(6,Si)],[(D,[ku]),(D,[ku])]⟩ (λ_=>l2 n) <| tn) t0 38 [] f (λa b c d=>1000+a.toNat+b.toNat+c.toNat+d.toNat) (by kernel_rfl)
end Zcs
namespace Zdx
def sp:Spec:=ah ⟨[(0,Su),(1,Si),(2,Si)],[]⟩ ⟨[(0,Su)],[]⟩ g
def T(ad:LQ):=mkF ad 88 [] sp [Zcs.T ad] t0 t0 t0 13 [] f (λa b c=>1000+a.toNat+b.toNat+c.toNat) (by kernel_rfl)
end Zdx
namespace Zax
def sp:Spec:=ah ⟨[(0,Si),(1,Si),(2,.c (.pp (.int .u32)))],[]⟩ ⟨[(0,Si)],[]⟩ g
def T(ad:LQ):=mkF ad 87 [] sp [Zdx.T ad] t0 t0 t0 11 [] f (λa b c=>1000+a.toNat+b.toNat+c.toNat) (by kernel_rfl)
end Zax
namespace Zef
def sp:Spec:=ah ⟨[(0,Si)],[]⟩ ⟨[(0,Si)],[]⟩ g
def T(ad:LQ):=mkF ad 141 [] sp [] t0 t0 t0 6 [] f (λa=>1000+a.toNat) (by kernel_rfl)
end Zef
namespace Zdl
def sp:Spec:=ah ⟨[(0,Su),(1,Si)],[]⟩ ⟨[(0,Si)],[]⟩ g
def T(ad:LQ):=mkF ad 89 [] sp [Zef.T ad] t0 t0 t0 16 [] f (λa b=>1000+a.toNat+b.toNat) (by kernel_rfl)
end Zdl
namespace Zba
def sp:Spec:=ah ⟨[(0,Su)],[]⟩ ⟨[(0,.agg c1)],[]⟩ g
def T(ad:LQ):=mkF ad 50 [] sp [Zax.T ad,Zdl.T ad] (λn=>tj 16 ⟨[(2,Sp 0 0),(6,Sp 1 0)],[(U 0,c1),(U 1,c1)]⟩ (λ_=>j16 n) <| tn) t0 t0 80 [] f (λa=>1000+a.toNat) (by kernel_rfl)
end Zba
namespace Zdb
def sp:Spec:=ah ⟨[(0,Si),(1,Si),(2,Si)],[]⟩ ⟨[(0,SB)],[]⟩ g
def T(ad:LQ):=mkF ad 90 [] sp [] t0 t0 t0 15 [] f (λa b c=>1000+a.toNat+b.toNat+c.toNat) (by kernel_rfl)
end Zdb
namespace Zel
def sp:Spec:=ah ⟨[(0,SB)],[]⟩ ⟨[(0,Su)],[]⟩ g
def T(ad:LQ):=mkF ad 143 [] sp [] t0 t0 t0 4 [] f (λ_=>(1000:G)) (by kernel_rfl)
end Zel
namespace Zbj
def sp:Spec:=ah ⟨[(0,Si),(1,SB),(2,SB)],[]⟩ ⟨[(0,.agg [ki,ki,ki])],[]⟩ g
def T(ad:LQ):=mkF ad 92 [] sp [Zel.T ad] t0 t0 t0 19 [] f (λa _ _=>1000+a.toNat) (by kernel_rfl)
end Zbj
namespace Zdy
def sp:Spec:=ah ⟨[(0,Si),(1,Si),(2,Sp 0 0),(3,Sp 1 0)],[(U 2,[ku]),(U 3,[ku])]⟩ ⟨[],[(D,[ku]),(D,[ku])]⟩ g
def T(ad:LQ):=mkF ad 195 [] sp [] t0 t0 t0 17 [] f (λa b c d=>1000+a.toNat+b.toNat+c.toNat+d.toNat) (by kernel_rfl)
end Zdy
namespace Zct
def sp:Spec:=ah ⟨[(0,Si),(1,Si),(2,.clo 195 [.ptr 0 0,.ptr 1 0])],[(U 2,[ku]),(U 3,[ku])]⟩ ⟨[],[(D,[ku]),(D,[ku])]⟩ g
def T(ad:LQ):=mkF ad 139 [195] sp [Zdy.T ad] t0 (λn=>tl 2 ⟨[(0,Si),(1,Si),(2,.clo 195 [.ptr 0 0,.ptr 1 0]),(6,Si)],[(D,[ku]),(D,[ku])]⟩ (λ_=>l2 n) <| tn) t0 38 [] f (λa b c d=>1000+a.toNat+b.toNat+c.toNat+d.toNat) (by kernel_rfl)
end Zct
namespace Zdz
def sp:Spec:=ah ⟨[(0,Su),(1,Si),(2,Si),(3,Su)],[]⟩ ⟨[(0,Su)],[]⟩ g
def T(ad:LQ):=mkF ad 142 [] sp [Zct.T ad] t0 t0 t0 14 [] f (λa b c d=>1000+a.toNat+b.toNat+c.toNat+d.toNat) (by kernel_rfl)
end Zdz
namespace Zau
def sp:Spec:=ah ⟨[(0,.c (.sl u1))],[]⟩ ⟨[(0,Su)],[]⟩ g
def T(ad:LQ):=mkF ad 91 [] sp [Zdz.T ad] t0 (λn=>tl 3 ⟨[(3,Su),(6,.c (.sl u1)),(7,Si),(8,Si)],[]⟩ (λ_=>l3 n) <| tn) t0 23 [] f (λa=>1000+a.length) (by kernel_rfl)
end Zau
namespace Zbs
def sp:Spec:=ah ⟨[(0,.agg c1)],[]⟩ ⟨[(0,Su)],[]⟩ g
def T(ad:LQ):=mkF ad 52 [] sp [Zbj.T ad,Zau.T ad] (λn=>tj 14 ⟨[(1,Sp 0 0),(6,Sp 1 0)],[(U 0,c1),(U 1,[ki,ki,ki])]⟩ (λ_=>j14 n) <| tn) t0 t0 97 [] f (λa b c d e i _=>1000+a.toNat+b.toNat+c.toNat+d.toNat+e.toNat+i.toNat) (by kernel_rfl)
end Zbs
namespace Zap
def sp:Spec:=ah ⟨[(0,.agg c1)],[]⟩ ⟨[(0,SB)],[]⟩ g
def T(ad:LQ):=mkF ad 51 [] sp [Zdb.T ad,Zbs.T ad,Zba.T ad] (λn=>tj 10 ⟨[(1,Sp 0 0)],[(U 0,c1)]⟩ (λ_=>j10 n) <| tn) t0 t0 64 [] f (λa b c d e i _=>1000+a.toNat+b.toNat+c.toNat+d.toNat+e.toNat+i.toNat) (by kernel_rfl)
end Zap
namespace Zbt
def sp:Spec:=ah ⟨[(0,Su)],[]⟩ ⟨[(0,.agg c1),(1,SB)],[]⟩ g
def T(ad:LQ):=mkF ad 20 [] sp [Zba.T ad,Zap.T ad,Zbs.T ad] t0 t0 t0 18 [] f (λa=>1000+a.toNat) (by kernel_rfl)
end Zbt
namespace Zcl
def sp:Spec:=ah ⟨[(0,.agg c0),(1,Si)],[]⟩ ⟨[(0,Si),(1,SB)],[]⟩ g
def T(ad:LQ):=mkF ad 42 [] sp [Zda.T ad,Zbt.T ad] t0 t0 t0 59 [] f (λa b c d=>1000+a.length+b.length+c.length+d.toNat) (by kernel_rfl)
end Zcl
namespace Zee
def sp:Spec:=ah ⟨[(0,.agg c0)],[]⟩ ⟨[(0,.c (.row 3 (.int .i64))),(1,Si)],[]⟩ g
def T(ad:LQ):TF P (LW ad):=⟨30,[],sp,K5 KZ (show Sat P (LW ad) 29 Zbn.sp from(Zbn.T ad).sat) (show Sat P (LW ad) 42 Zcl.sp from(Zcl.T ad).sat),aM (by kernel_rfl)⟩
end Zee
namespace Zdp
def sp:Spec:=ah ⟨[(0,Si)],[]⟩ ⟨[(0,SB)],[]⟩ g
def T(ad:LQ):=mkF ad 176 [] sp [] t0 t0 t0 6 [] f (λa=>1000+a.toNat) (by kernel_rfl)
end Zdp
namespace Zdq
def sp:Spec:=ah ⟨[(0,Si),(1,Si)],[]⟩ ⟨[(0,SB)],[]⟩ g
def T(ad:LQ):=mkF ad 118 [] sp [Zdp.T ad] t0 t0 t0 17 [] f (λa b=>1000+a.toNat+b.toNat) (by kernel_rfl)
end Zdq
namespace Zdr
def sp:Spec:=ah ⟨[(0,Si)],[]⟩ ⟨[(0,SB)],[]⟩ g
def T(ad:LQ):=mkF ad 119 [] sp [] t0 t0 t0 6 [] f (λa=>1000+a.toNat) (by kernel_rfl)
end Zdr
namespace Zbo
def sp:Spec:=ah ⟨[(0,.c (.sl (.int .i64))),(1,Si)],[]⟩ ⟨[(0,Si),(1,SB)],[]⟩ g
def T(ad:LQ):=mkF ad 74 [] sp [Zdq.T ad,Zdr.T ad] t0 (λn=>tl 3 ⟨[(0,.c (.sl (.int .i64))),(1,Si),(6,Si),(7,Si),(8,Si)],[]⟩ (λ_=>l3 n) <| tn) t0 54 [] f (λa b=>1000+a.length+b.toNat) (by kernel_rfl)
end Zbo
namespace Zbd
def sp:Spec:=ah ⟨[(0,Si)],[]⟩ ⟨[(0,Ss)],[]⟩ g
def T(ad:LQ):=mkF ad 75 [] sp [] t0 (λn=>tl 3 ⟨[(0,Si),(3,.c (.row 5 (.int .u8))),(4,Si)],[]⟩ (λ_=>l3 n) <| tn) t0 20 [] f (λa=>1000+a.toNat) (by kernel_rfl)
end Zbd
def disasm_number.spq(q:G):Spec:=ah ⟨[(0,Si)],[]⟩ ⟨[(0,.c (.row 53 u2))],[]⟩ (bA q).disasm_number
namespace disasm_number
theorem step(q:G)(ih:Sat P (LW ad) 39 (disasm_number.spq q)/\True):Sat P (LW ad) 39 (spq (q+1)):=mK mixed gq iE 39 (spq (q+1)) [((39,[]),disasm_number.spq q)] (dP ih.1 (aM (by kernel_rfl)) fP) t0 t0 t0 15 [] (λn=>f n (bA q)) (λa=>1000+a.toNat) (by kernel_rfl) (by kernel_rfl)
end disasm_number
theorem je:∀q,Sat P (LW ad) 39 (disasm_number.spq q)/\True
 |0=>⟨jc λ_=>rfl,trivial⟩
 |q+1=>⟨disasm_number.step q (je q),trivial⟩
def disasm_number.sp:Spec:=ah ⟨[(0,Si)],[]⟩ ⟨[(0,.c (.row 53 u2))],[]⟩ disasm_number.g
def disasm_number.T(ad:LQ):TF P (LW ad):=⟨39,[],disasm_number.sp,lQ (F:=λq=>(bA q).disasm_number) (λa=>1000+a.toNat) (λq=>(je q).1) (λ_=>by kernel_rfl),aM (by kernel_rfl)⟩
namespace Zde
def sp:Spec:=ah ⟨[(0,Si)],[]⟩ ⟨[(0,.c (.row 53 u2))],[]⟩ g
def T(ad:LQ):=mkF ad 41 [] sp [Zbd.T ad] t0 t0 t0 7 [] f (λa=>1000+a.toNat) (by kernel_rfl)
end Zde
namespace Zal
def sp:Spec:=ah ⟨[(0,.agg c0),(1,Si)],[]⟩ ⟨[(0,.agg c2)],[]⟩ g
def T(ad:LQ):=mkF ad 16 [] sp [disasm_number.T ad,Zda.T ad,Zde.T ad,Zbt.T ad,Zcl.T ad] (λn=>tj 9 ⟨[(4,Sp 0 0),(6,Sp 1 0)],[(U 0,c2),(U 1,c2)]⟩ (λ_=>j9 n) <| tj 23 ⟨[(4,Sp 0 0),(9,Sp 1 0)],[(U 0,c2),(U 1,c2)]⟩ (λ_=>j23 n) <| tn) t0 t0 99 [] f (λa b c d=>1000+a.length+b.length+c.length+d.toNat) (by kernel_rfl)
end Zal
namespace Zcm
def sp:Spec:=ah ⟨[(0,.agg c0)],[]⟩ ⟨[(0,.c (.row 78 u3)),(1,Si)],[]⟩ g
def T(ad:LQ):TF P (LW ad):=⟨11,[],sp,KI (show Sat P (LW ad) 29 Zbn.sp from(Zbn.T ad).sat) (show Sat P (LW ad) 30 Zee.sp from(Zee.T ad).sat) (show Sat P (LW ad) 74 Zbo.sp from(Zbo.T ad).sat) (show Sat P (LW ad) 75 Zbd.sp from(Zbd.T ad).sat) (show Sat P (LW ad) 16 Zal.sp from(Zal.T ad).sat),aM (by kernel_rfl)⟩
end Zcm
namespace Zag
def sp:Spec:=ah ⟨[(0,Ss)],[]⟩ ⟨[(0,SB)],[]⟩ g
def T(ad:LQ):=mkF ad 123 [] sp [strings_Trim.T ad] (λn=>tj 9 ⟨[(0,Ss),(24,Si),(25,Si)],[]⟩ (λms=>j9 n (l4 n ms.head!)) <| tj 3 ⟨[(0,Ss)],[]⟩ (λ_=>j3 n) <| tn) (λn=>tl 4 ⟨[(0,Ss),(24,Si),(25,Si)],[]⟩ (λ_=>l4 n) <| tn) t0 84 [] f (λa=>1000+a.length) (by kernel_rfl)
end Zag
namespace Zdm
def sp:Spec:=ah ⟨[(0,Si)],[]⟩ ⟨[(0,SB)],[]⟩ g
def T(ad:LQ):=mkF ad 177 [] sp [] t0 t0 t0 10 [] f (λa=>1000+a.toNat) (by kernel_rfl)
end Zdm
namespace Zbv
def sp:Spec:=ah ⟨[(0,.agg [ki,ku,.str])],[]⟩ ⟨[(0,Si),(1,SB)],[]⟩ g
def T(ad:LQ):=mkF ad 206 [] sp [Zag.T ad] (λn=>tj 2 ⟨[(1,Sp 0 0),(4,SB)],[(U 0,[ki,ku,.str])]⟩ (λ_=>j2 n) <| tn) t0 t0 38 [] f (λa b c=>1000+a.toNat+b.toNat+c.length) (by kernel_rfl)
end Zbv
namespace Zbg
def sp:Spec:=ah ⟨[(0,.c (.sl u2))],[]⟩ ⟨[(0,SB)],[]⟩ g
def T(ad:LQ):=mkF ad 157 [] sp [Zbv.T ad] t0 (λn=>tl 3 ⟨[(0,.c (.sl u2)),(3,Si),(8,.c (.sl u2)),(9,Si),(10,Si)],[]⟩ (λ_=>l3 n) <| tn) t0 38 [] f (λa=>1000+a.length) (by kernel_rfl)
end Zbg
namespace Zay
def sp:Spec:=ah ⟨[(0,Si)],[]⟩ ⟨[(0,Ss)],[]⟩ g
def T(ad:LQ):=mkF ad 178 [] sp [strconv_Itoa.T ad] t0 t0 t0 12 [] f (λa=>1000+a.toNat) (by kernel_rfl)
end Zay
namespace Zan
def sp:Spec:=ah ⟨[(0,.agg c2)],[]⟩ ⟨[(0,SB)],[]⟩ g
def T(ad:LQ):=mkF ad 124 [] sp [Zdm.T ad,Zbg.T ad,Zav.T ad,Zay.T ad,Zap.T ad] (λn=>tj 12 ⟨[(3,Sp 0 0)],[(U 0,c1)]⟩ (λ_=>j12 n) <| tj 4 ⟨[(1,Sp 0 0),(3,Sp 1 0)],[(U 0,c2),(U 1,c1)]⟩ (λ_=>j4 n) <| tn) t0 t0 84 [] f (λa b c d e _ j k=>1000+a.toNat+b.toNat+c.toNat+d.toNat+e.toNat+j.length+k.length) (by kernel_rfl)
end Zan
namespace Zea
def sp:Spec:=ah ⟨[(0,Si)],[]⟩ ⟨[(0,Si)],[]⟩ g
def T(ad:LQ):=mkF ad 126 [] sp [] t0 t0 t0 9 [] f (λa=>1000+a.toNat) (by kernel_rfl)
end Zea
namespace Zeb
def sp:Spec:=ah ⟨[(0,Si)],[]⟩ ⟨[(0,SB)],[]⟩ g
def T(ad:LQ):=mkF ad 127 [] sp [] t0 t0 t0 9 [] f (λa=>1000+a.toNat) (by kernel_rfl)
end Zeb
namespace Zeg
def sp:Spec:=ah ⟨[(0,Sp 0 0)],[(U 0,c2)]⟩ ⟨[(0,Sp 0 2)],[(D,c2)]⟩ g
def T(ad:LQ):=mkF ad 181 [] sp [] t0 t0 t0 6 [] f (λa b c d e _ j k=>1000+a.toNat+b.toNat+c.toNat+d.toNat+e.toNat+j.length+k.length) (by kernel_rfl)
end Zeg
namespace Zeh
def sp:Spec:=ah ⟨[(0,Sp 0 0)],[(U 0,c2)]⟩ ⟨[(0,Sp 0 3)],[(D,c2)]⟩ g
def T(ad:LQ):=mkF ad 182 [] sp [] t0 t0 t0 6 [] f (λa b c d e _ j k=>1000+a.toNat+b.toNat+c.toNat+d.toNat+e.toNat+j.length+k.length) (by kernel_rfl)
end Zeh
namespace Zei
def sp:Spec:=ah ⟨[(0,Sp 0 0)],[(U 0,c2)]⟩ ⟨[(0,Sp 0 4)],[(D,c2)]⟩ g
def T(ad:LQ):=mkF ad 183 [] sp [] t0 t0 t0 6 [] f (λa b c d e _ j k=>1000+a.toNat+b.toNat+c.toNat+d.toNat+e.toNat+j.length+k.length) (by kernel_rfl)
end Zei
namespace Zca
def sp:Spec:=ah ⟨[(0,.agg c2),(1,.c (.pp .fn))],[]⟩ ⟨[(0,Ss)],[]⟩ g
def T(ad:LQ):=mkF ad 228 [] sp [Zeg.T ad,Zay.T ad,Zeh.T ad,Zei.T ad] t0 t0 t0 9 [K.atA,K.atB,K.atC] f (λa b c d e _ j k _=>1000+a.toNat+b.toNat+c.toNat+d.toNat+e.toNat+j.length+k.length) (by kernel_rfl)
end Zca
namespace Zds
def sp:Spec:=ah ⟨[(0,.c kq),(1,Si)],[]⟩ ⟨[(0,Ss)],[]⟩ g
def T(ad:LQ):=mkF ad 264 [] sp [internal_strconv_FormatUint.T ad] t0 t0 t0 8 [] f (λa b=>1000+a.toNat+b.toNat) (by kernel_rfl)
end Zds
namespace Zaz
def sp:Spec:=ah ⟨[(0,.agg [.str,ki]),(1,Si)],[]⟩ ⟨[(0,Ss)],[]⟩ g
def T(ad:LQ):=mkF ad 265 [] sp [] t0 t0 t0 15 [] f (λa b c=>1000+a.length+b.toNat+c.toNat) (by kernel_rfl)
end Zaz
namespace Zai
def sp:Spec:=ah ⟨[(0,.c (.sl u2))],[]⟩ ⟨[(0,Ss),(1,Si)],[]⟩ g
def T(ad:LQ):=mkF ad 232 [] sp [Zbg.T ad,Zbv.T ad,Zds.T ad,Zaz.T ad] (λn=>tj 23 ⟨[(4,.c (.row 289 u0)),(7,Si),(10,Sp 0 0),(14,.c (.sl u2)),(15,Si),(16,Si)],[(U 2,[.str,ki])]⟩ (λms=>j23 n (l5 n ms.head!)) <| tn) (λn=>tl 5 ⟨[(4,.c (.row 289 u0)),(14,.c (.sl u2)),(15,Si),(16,Si)],[]⟩ (λ_=>l5 n) <| tn) t0 106 [] f (λa=>1000+a.length) (by kernel_rfl)
end Zai
namespace Zcf
def sp:Spec:=ah ⟨[(0,Ss),(1,Sb)],[]⟩ ⟨[(0,Ss)],[]⟩ g
def T(ad:LQ):=mkF ad 166 [] sp [] t0 (λn=>tl 1 ⟨[(0,Ss),(1,Sb)],[]⟩ (λ_=>l1 n) <| tn) t0 17 [] f (λa b=>1000+a.length+b.toNat) (by kernel_rfl)
end Zcf
namespace Zdc
def sp:Spec:=ah ⟨[(0,Ss),(1,Ss)],[]⟩ ⟨[(0,Ss)],[]⟩ g
def T(ad:LQ):=mkF ad 233 [] sp [Zcf.T ad] (λn=>tj 5 ⟨[(0,Ss),(1,Ss)],[]⟩ (λ_=>j5 n) <| tn) t0 t0 37 [] f (λa b=>1000+a.length+b.length) (by kernel_rfl)
end Zdc
namespace Zdn
def sp:Spec:=ah ⟨[(0,.agg c2),(1,.c (.pp .str))],[]⟩ ⟨[(0,Ss)],[]⟩ g
def T(ad:LQ):=mkF ad 231 [] sp [Zai.T ad,Zdc.T ad] t0 t0 t0 17 [] f (λa b c d e _ j k l=>1000+a.toNat+b.toNat+c.toNat+d.toNat+e.toNat+j.length+k.length+l.length) (by kernel_rfl)
end Zdn
namespace Zej
def sp:Spec:=ah ⟨[(0,.agg c2)],[]⟩ ⟨[(0,Ss)],[]⟩ g
def T(ad:LQ):=mkF ad 186 [] sp [] t0 t0 t0 5 [] f (λa b c d e _ j k=>1000+a.toNat+b.toNat+c.toNat+d.toNat+e.toNat+j.length+k.length) (by kernel_rfl)
end Zej
namespace Zaf
def sp:Spec:=ah ⟨[(0,Ss),(1,.agg c2)],[]⟩ ⟨[(0,Ss),(1,Si)],[]⟩ g
def T(ad:LQ):=mkF ad 81 [] sp [Zag.T ad,Zan.T ad,Zea.T ad,name_Mnemonic.T ad,Zeb.T ad,stmt_operands.T ad,strings_Join.T ad,Zca.T ad,Zdn.T ad,Zej.T ad] (λn=>tj 15 ⟨[(3,Sp 0 0),(6,.c (.row 9 .str)),(7,Ss),(8,.c (.row 9 .str)),(50,.c (.sl u4)),(51,Si),(52,Si)],[(U 0,c2)]⟩ (λms=>j15 n (l12 n ms.head!)) <| tj 17 ⟨[(6,.c (.row 9 .str))],[]⟩ (λ_=>j17 n) <| tj 10 ⟨[(3,Sp 0 0),(6,.c (.row 9 .str)),(7,Ss)],[(U 0,c2)]⟩ (λ_=>j10 n) <| tj 6 ⟨[(3,Sp 0 0),(6,.c (.row 9 .str))],[(U 0,c2)]⟩ (λ_=>j6 n) <| tj 3 ⟨[(0,Ss),(3,Sp 0 0)],[(U 1,c2)]⟩ (λ_=>j3 n) <| tn) (λn=>tl 12 ⟨[(3,Sp 0 0),(6,.c (.row 9 .str)),(7,Ss),(8,.c (.row 9 .str)),(50,.c (.sl u4)),(51,Si),(52,Si)],[(U 0,c2)]⟩ (λ_=>l12 n) <| tn) t0 72 [K.wrA,K.wrB,K.wrC,K.wrE,K.wrQ,K.wrN] f (λa b c d e i _ k l=>1000+a.length+b.toNat+c.toNat+d.toNat+e.toNat+i.toNat+k.length+l.length) (by kernel_rfl)
end Zaf
namespace Zec
def sp:Spec:=ah ⟨[(0,.agg c3)],[]⟩ ⟨[(0,Ss),(1,Si)],[]⟩ g
def T(ad:LQ):=mkF ad 80 [] sp [Zaf.T ad] t0 t0 t0 11 [] f (λa b c d e i _ k l=>1000+a.length+b.toNat+c.toNat+d.toNat+e.toNat+i.toNat+k.length+l.length) (by kernel_rfl)
end Zec
namespace Zcx
def sp:Spec:=ah ⟨[(0,.c (.sl u3)),(1,.c (.raw (.func (.func 80) #[] #[])))],[]⟩ ⟨[(0,.c (.row 9 .str)),(1,Si),(2,Si)],[]⟩ g
def T(ad:LQ):=mkF ad 79 [] sp [Zec.T ad] t0 (λn=>tl 5 ⟨[(1,.c (.raw (.func (.func 80) #[] #[]))),(7,.c (.row 9 .str)),(15,.c (.sl u3)),(16,Si),(17,Si)],[]⟩ (λ_=>l5 n) <| tn) t0 39 [] f (λa=>1000+a.length) (by kernel_rfl)
end Zcx
namespace Zed
def sp:Spec:=ah ⟨[(0,.c (.sl u3))],[]⟩ ⟨[(0,Ss),(1,Si),(2,Si)],[]⟩ g
def T(ad:LQ):=mkF ad 35 [] sp [Zcx.T ad,strings_Join.T ad] t0 t0 t0 20 [] f (λa=>1000+a.length) (by kernel_rfl)
end Zed
namespace Zcy
def sp:Spec:=ah ⟨[(0,.agg c0)],[]⟩ ⟨[(0,Ss),(1,Si)],[]⟩ g
def T(ad:LQ):=mkF ad 13 [] sp [Zcm.T ad,Zed.T ad] t0 t0 t0 24 [] f (λa b c=>1000+a.length+b.length+c.length) (by kernel_rfl)
end Zcy
namespace Zdi
def sp:Spec:=ah ⟨[],[]⟩ ⟨[(0,SB)],[]⟩ g
def T(ad:LQ):=mkF ad 9 [] sp [Zcy.T ad] t0 t0 t0 15 [] f (1000:G) (by kernel_rfl)
end Zdi
namespace Zas
def sp:Spec:=ah ⟨[(0,Sb)],[]⟩ ⟨[(0,Sb)],[]⟩ g
def T(ad:LQ):=mkF ad 268 [] sp [] t0 t0 t0 5 [] f (λa=>1000+a.toNat) (by kernel_rfl)
end Zas
namespace Zad
def sp:Spec:=ah ⟨[(0,Ss),(1,Si),(2,Si)],[]⟩ ⟨[(0,.c kq),(1,.c (.ifo 296 .i64))],[]⟩ g
def T(ad:LQ):=mkF ad 245 [] sp [Zas.T ad,internal_strconv_underscoreOK.T ad] (λn=>tj 55 ⟨[(1,Si),(8,SB),(9,Ss),(10,.c kq),(11,.c kq),(12,SB),(13,.c kq),(99,.c (.sl (.int .u8))),(100,Si),(101,Si)],[]⟩ (λms=>j55 n (l36 n ms.head!)) <| tj 46 ⟨[(1,Si),(8,SB),(9,Ss),(10,.c kq),(11,.c kq),(12,SB),(13,.c kq),(16,Sb),(99,.c (.sl (.int .u8))),(100,Si),(101,Si)],[]⟩ (λms=>j46 n (l36 n ms.head!)) <| tj 32 ⟨[(0,Ss),(1,Si),(2,Si),(8,SB),(9,Ss),(10,.c kq)],[]⟩ (λ_=>j32 n) <| tj 25 ⟨[(0,Ss),(1,Si),(2,Si),(8,SB),(9,Ss)],[]⟩ (λ_=>j25 n) <| tj 21 ⟨[(0,Ss),(1,Si),(2,Si),(8,SB),(9,Ss)],[]⟩ (λ_=>j21 n) <| tj 17 ⟨[(0,Ss),(1,Si),(2,Si),(8,SB),(9,Ss)],[]⟩ (λ_=>j17 n) <| tj 20 ⟨[(0,Ss),(1,Si),(2,Si),(8,SB),(9,Ss)],[]⟩ (λ_=>j20 n) <| tj 11 ⟨[(0,Ss),(1,Si),(2,Si),(8,SB),(9,Ss)],[]⟩ (λ_=>j11 n) <| tj 9 ⟨[(0,Ss),(1,Si),(2,Si),(8,SB),(9,Ss)],[]⟩ (λ_=>j9 n) <| tn) (λn=>tl 36 ⟨[(1,Si),(8,SB),(9,Ss),(10,.c kq),(11,.c kq),(12,SB),(13,.c kq),(99,.c (.sl (.int .u8))),(100,Si),(101,Si)],[]⟩ (λ_=>l36 n) <| tn) t0 172 [] f (λa b c=>1000+a.length+b.toNat+c.toNat) (by kernel_rfl)
end Zad
namespace Zbh
def sp:Spec:=ah ⟨[(0,Ss),(1,Si),(2,Si)],[]⟩ ⟨[(0,Si),(1,.c (.ifo 296 .i64))],[]⟩ g
def T(ad:LQ):=mkF ad 289 [] sp [Zad.T ad] (λn=>tj 21 ⟨[(8,SB),(9,.c kq)],[]⟩ (λ_=>j21 n) <| tj 19 ⟨[(8,SB),(9,.c kq),(10,.c kq)],[]⟩ (λ_=>j19 n) <| tj 16 ⟨[(2,Si),(8,SB),(9,.c kq)],[]⟩ (λ_=>j16 n) <| tj 14 ⟨[(2,Si),(8,SB),(9,.c kq)],[]⟩ (λ_=>j14 n) <| tj 10 ⟨[(0,Ss),(1,Si),(2,Si),(8,SB)],[]⟩ (λ_=>j10 n) <| tn) t0 t0 73 [] f (λa b c=>1000+a.length+b.toNat+c.toNat) (by kernel_rfl)
end Zbh
namespace Zbw
def sp:Spec:=ah ⟨[(0,Ss)],[]⟩ ⟨[(0,Si),(1,.c (.ifo 296 .i64))],[]⟩ g
def T(ad:LQ):=mkF ad 274 [] sp [Zbh.T ad] (λn=>tj 8 ⟨[(0,Ss),(5,Ss)],[]⟩ (λ_=>j8 n) <| tj 6 ⟨[(0,Ss),(5,Ss)],[]⟩ (λ_=>j6 n) <| tj 20 ⟨[(0,Ss)],[]⟩ (λ_=>j20 n) <| tn) (λn=>tl 10 ⟨[(5,Ss),(6,Si),(47,.c (.sl (.int .u8))),(48,Si),(49,Si)],[]⟩ (λ_=>l10 n) <| tn) t0 77 [] f (λa=>1000+a.length) (by kernel_rfl)
end Zbw
namespace Zem
def sp:Spec:=ah ⟨[(0,Ss)],[]⟩ ⟨[(0,Si),(1,Se)],[]⟩ g
def T(ad:LQ):=mkF ad 248 [] sp [Zbw.T ad,strconv_toError.T ad] t0 t0 t0 18 [] f (λa=>1000+a.length) (by kernel_rfl)
end Zem
namespace Zen
def sp:Spec:=ah ⟨[(0,Ss)],[]⟩ ⟨[(0,Si),(1,SB)],[]⟩ g
def T(ad:LQ):=mkF ad 205 [] sp [strings_CutPrefix.T ad,Zem.T ad,Zay.T ad] t0 t0 t0 31 [] f (λa=>1000+a.length) (by kernel_rfl)
end Zen
namespace Zbx
def sp:Spec:=ah ⟨[(0,Sp 0 0),(1,Si)],[(U 0,c6)]⟩ ⟨[],[(D,c6)]⟩ g
def T(ad:LQ):=mkF ad 298 [] sp [] t0 t0 t0 13 [] f (λa b c d e=>1000+a.toNat+b.length+c.toNat+d.length+e.toNat) (by kernel_rfl)
end Zbx
namespace Zdt
def sp:Spec:=ah ⟨[(0,Sp 0 0)],[(U 0,c6)]⟩ ⟨[(0,.agg [ki,ki,.str,ku]),(1,SB)],[(D,c6)]⟩ g
def T(ad:LQ):=mkF ad 299 [] sp [] t0 t0 t0 39 [] f (λa b c d=>1000+a.length+b.toNat+c.length+d.toNat) (by kernel_rfl)
end Zdt
namespace Zaw
def sp:Spec:=ah ⟨[(0,Sp 0 0),(1,.c (.sl .str))],[(U 0,c6)]⟩ ⟨[(0,Ss),(1,SB)],[(D,c6)]⟩ g
def T(ad:LQ):=mkF ad 296 [] sp [Zdt.T ad] (λn=>tj 8 ⟨[(0,Sp 0 0),(6,Sp 1 0),(7,SB),(15,.c (.sl .str)),(16,Si),(17,Si)],[(D,c6),(U 1,[ki,ki,.str,ku])]⟩ (λms=>j8 n (l3 n ms.head!)) <| tn) (λn=>tl 3 ⟨[(0,Sp 0 0),(6,Sp 1 0),(7,SB),(15,.c (.sl .str)),(16,Si),(17,Si)],[(D,c6),(U 1,[ki,ki,.str,ku])]⟩ (λ_=>l3 n) <| tn) t0 42 [] f (λa b c d e=>1000+a.length+b.length+c.toNat+d.length+e.toNat) (by kernel_rfl)
end Zaw
namespace Zbp
def sp:Spec:=ah ⟨[(0,Sp 0 0),(1,.agg [ki,ku,.str])],[(U 0,c6)]⟩ ⟨[],[(D,c6)]⟩ g
def T(ad:LQ):=mkF ad 297 [] sp [] t0 t0 t0 14 [] f (λa b c d e i j=>1000+a.toNat+b.toNat+c.length+d.length+e.toNat+i.length+j.toNat) (by kernel_rfl)
end Zbp
def expr_parser_sum.spq(q:G):Spec:=ah ⟨[(0,Sp 0 0),(1,Si)],[(U 0,c6)]⟩ ⟨[],[(D,c6)]⟩ (af q).expr_parser_sum
def expr_parser_row_c283.spq(q:G):Spec:=ah ⟨[(0,Sp 0 0),(1,.clo 283 [.ptr 1 0,.ptr 2 0]),(2,.c (.sl .str))],[(U 0,c6),(U 1,[.ptr 0 0]),(U 2,[ki])]⟩ ⟨[],[(D,c6),(D,[.ptr 0 0]),(D,[ki])]⟩ (af q).expr_parser_row_c283
def expr_parser_sum_1.spq(q:G):Spec:=ah ⟨[(0,Sp 0 0),(1,Sp 1 0)],[(U 0,[.ptr 2 0]),(U 1,[ki]),(U 2,c6)]⟩ ⟨[],[(D,[.ptr 2 0]),(D,[ki]),(D,c6)]⟩ (af q).expr_parser_sum_1
def expr_parser_row_c284.spq(q:G):Spec:=ah ⟨[(0,Sp 0 0),(1,.clo 284 [.ptr 1 0,.ptr 2 0]),(2,.c (.sl .str))],[(U 0,c6),(U 1,[.ptr 0 0]),(U 2,[ki])]⟩ ⟨[],[(D,c6),(D,[.ptr 0 0]),(D,[ki])]⟩ (af q).expr_parser_row_c284
def expr_parser_sum_1_1.spq(q:G):Spec:=ah ⟨[(0,Sp 0 0),(1,Sp 1 0)],[(U 0,[.ptr 2 0]),(U 1,[ki]),(U 2,c6)]⟩ ⟨[],[(D,[.ptr 2 0]),(D,[ki]),(D,c6)]⟩ (af q).expr_parser_sum_1_1
def expr_parser_factor.spq(q:G):Spec:=ah ⟨[(0,Sp 0 0),(1,Si)],[(U 0,c6)]⟩ ⟨[],[(D,c6)]⟩ (af q).expr_parser_factor
namespace expr_parser_sum
theorem step(q:G)(ih:Sat P (LW ad) 263 (expr_parser_sum.spq q)/\Sat P (LW ad) 282 (expr_parser_row_c283.spq q)/\Sat P (LW ad) 283 (expr_parser_sum_1.spq q)/\Sat P (LW ad) 282 (expr_parser_row_c284.spq q)/\Sat P (LW ad) 284 (expr_parser_sum_1_1.spq q)/\Sat P (LW ad) 285 (expr_parser_factor.spq q)/\True):Sat P (LW ad) 263 (spq (q+1)):=mK mixed gq iE 263 (spq (q+1)) [((282,[283]),expr_parser_row_c283.spq q)] (dP ih.2.1 (aM (by kernel_rfl)) fP) t0 t0 t0 8 [] (λn=>f n (af q)) (λa b c d e=>1000+a.toNat+b.length+c.toNat+d.length+e.toNat) (by kernel_rfl) (by kernel_rfl)
end expr_parser_sum
namespace expr_parser_row_c283
theorem step(q:G)(ih:Sat P (LW ad) 263 (expr_parser_sum.spq q)/\Sat P (LW ad) 282 (expr_parser_row_c283.spq q)/\Sat P (LW ad) 283 (expr_parser_sum_1.spq q)/\Sat P (LW ad) 282 (expr_parser_row_c284.spq q)/\Sat P (LW ad) 284 (expr_parser_sum_1_1.spq q)/\Sat P (LW ad) 285 (expr_parser_factor.spq q)/\True):Sat P (LW ad) 282 (spq (q+1)):=mK mixed gq iE 282 (spq (q+1)) [((283,[]),expr_parser_sum_1.spq q),(Zaw.T ad).kv,(Zbp.T ad).kv] (dP ih.2.2.1 (aM (by kernel_rfl)) (gL (Zaw.T ad) (gL (Zbp.T ad) fP))) t0 (λn=>tl 1 ⟨[(0,Sp 0 0),(1,.clo 283 [.ptr 1 0,.ptr 2 0]),(2,.c (.sl .str))],[(D,c6),(D,[.ptr 0 0]),(D,[ki])]⟩ (λ_=>l1 n (af q)) <| tn) t0 26 [] (λn=>f n (af q)) (λa b c d e i=>1000+a.length+b.length+c.toNat+d.length+e.toNat+i.toNat) (by kernel_rfl) (by kernel_rfl)
end expr_parser_row_c283
namespace expr_parser_sum_1
theorem step(q:G)(ih:Sat P (LW ad) 263 (expr_parser_sum.spq q)/\Sat P (LW ad) 282 (expr_parser_row_c283.spq q)/\Sat P (LW ad) 283 (expr_parser_sum_1.spq q)/\Sat P (LW ad) 282 (expr_parser_row_c284.spq q)/\Sat P (LW ad) 284 (expr_parser_sum_1_1.spq q)/\Sat P (LW ad) 285 (expr_parser_factor.spq q)/\True):Sat P (LW ad) 283 (spq (q+1)):=mK mixed gq iE 283 (spq (q+1)) [((282,[284]),expr_parser_row_c284.spq q)] (dP ih.2.2.2.1 (aM (by kernel_rfl)) fP) t0 t0 t0 6 [] (λn=>f n (af q)) (λa b c d e=>1000+a.toNat+b.length+c.toNat+d.length+e.toNat) (by kernel_rfl) (by kernel_rfl)
end expr_parser_sum_1
namespace expr_parser_row_c284
theorem step(q:G)(ih:Sat P (LW ad) 263 (expr_parser_sum.spq q)/\Sat P (LW ad) 282 (expr_parser_row_c283.spq q)/\Sat P (LW ad) 283 (expr_parser_sum_1.spq q)/\Sat P (LW ad) 282 (expr_parser_row_c284.spq q)/\Sat P (LW ad) 284 (expr_parser_sum_1_1.spq q)/\Sat P (LW ad) 285 (expr_parser_factor.spq q)/\True):Sat P (LW ad) 282 (spq (q+1)):=mK mixed gq iE 282 (spq (q+1)) [((284,[]),expr_parser_sum_1_1.spq q),(Zaw.T ad).kv,(Zbp.T ad).kv] (dP ih.2.2.2.2.1 (aM (by kernel_rfl)) (gL (Zaw.T ad) (gL (Zbp.T ad) fP))) t0 (λn=>tl 1 ⟨[(0,Sp 0 0),(1,.clo 284 [.ptr 1 0,.ptr 2 0]),(2,.c (.sl .str))],[(D,c6),(D,[.ptr 0 0]),(D,[ki])]⟩ (λ_=>l1 n (af q)) <| tn) t0 26 [] (λn=>f n (af q)) (λa b c d e i=>1000+a.length+b.length+c.toNat+d.length+e.toNat+i.toNat) (by kernel_rfl) (by kernel_rfl)
end expr_parser_row_c284
namespace expr_parser_sum_1_1
theorem step(q:G)(ih:Sat P (LW ad) 263 (expr_parser_sum.spq q)/\Sat P (LW ad) 282 (expr_parser_row_c283.spq q)/\Sat P (LW ad) 283 (expr_parser_sum_1.spq q)/\Sat P (LW ad) 282 (expr_parser_row_c284.spq q)/\Sat P (LW ad) 284 (expr_parser_sum_1_1.spq q)/\Sat P (LW ad) 285 (expr_parser_factor.spq q)/\True):Sat P (LW ad) 284 (spq (q+1)):=mK mixed gq iE 284 (spq (q+1)) [((285,[]),expr_parser_factor.spq q)] (dP ih.2.2.2.2.2.1 (aM (by kernel_rfl)) fP) t0 t0 t0 5 [] (λn=>f n (af q)) (λa b c d e=>1000+a.toNat+b.length+c.toNat+d.length+e.toNat) (by kernel_rfl) (by kernel_rfl)
end expr_parser_sum_1_1
namespace expr_parser_factor
theorem step(q:G)(ih:Sat P (LW ad) 263 (expr_parser_sum.spq q)/\Sat P (LW ad) 282 (expr_parser_row_c283.spq q)/\Sat P (LW ad) 283 (expr_parser_sum_1.spq q)/\Sat P (LW ad) 282 (expr_parser_row_c284.spq q)/\Sat P (LW ad) 284 (expr_parser_sum_1_1.spq q)/\Sat P (LW ad) 285 (expr_parser_factor.spq q)/\True):Sat P (LW ad) 285 (spq (q+1)):=mK mixed gq iE 285 (spq (q+1)) [(Zbx.T ad).kv,(Zaw.T ad).kv,((285,[]),expr_parser_factor.spq q),(Zbp.T ad).kv,((263,[]),expr_parser_sum.spq q),(Zdt.T ad).kv,(Zag.T ad).kv] (gL (Zbx.T ad) (gL (Zaw.T ad) (dP ih.2.2.2.2.2.1 (aM (by kernel_rfl)) (gL (Zbp.T ad) (dP ih.1 (aM (by kernel_rfl)) (gL (Zdt.T ad) (gL (Zag.T ad) fP))))))) (λn=>tj 19 ⟨[(0,Sp 0 0)],[(D,c6)]⟩ (λ_=>j19 n (af q)) <| tn) t0 t0 94 [] (λn=>f n (af q)) (λa b c d e=>1000+a.toNat+b.length+c.toNat+d.length+e.toNat) (by kernel_rfl) (by kernel_rfl)
end expr_parser_factor
theorem aB:∀q,Sat P (LW ad) 263 (expr_parser_sum.spq q)/\Sat P (LW ad) 282 (expr_parser_row_c283.spq q)/\Sat P (LW ad) 283 (expr_parser_sum_1.spq q)/\Sat P (LW ad) 282 (expr_parser_row_c284.spq q)/\Sat P (LW ad) 284 (expr_parser_sum_1_1.spq q)/\Sat P (LW ad) 285 (expr_parser_factor.spq q)/\True
 |0=>⟨jc λ_=>rfl,jc λ_=>rfl,jc λ_=>rfl,jc λ_=>rfl,jc λ_=>rfl,jc λ_=>rfl,trivial⟩
 |q+1=>⟨expr_parser_sum.step q (aB q),expr_parser_row_c283.step q (aB q),expr_parser_sum_1.step q (aB q),expr_parser_row_c284.step q (aB q),expr_parser_sum_1_1.step q (aB q),expr_parser_factor.step q (aB q),trivial⟩
def expr_parser_sum.sp:Spec:=ah ⟨[(0,Sp 0 0),(1,Si)],[(U 0,c6)]⟩ ⟨[],[(D,c6)]⟩ expr_parser_sum.g
def expr_parser_sum.T(ad:LQ):TF P (LW ad):=⟨263,[],expr_parser_sum.sp,lQ (F:=λq=>(af q).expr_parser_sum) (λa b c d e=>1000+a.toNat+b.length+c.toNat+d.length+e.toNat) (λq=>(aB q).1) (λ_=>by kernel_rfl),aM (by kernel_rfl)⟩
def expr_parser_row_c283.sp:Spec:=ah ⟨[(0,Sp 0 0),(1,.clo 283 [.ptr 1 0,.ptr 2 0]),(2,.c (.sl .str))],[(U 0,c6),(U 1,[.ptr 0 0]),(U 2,[ki])]⟩ ⟨[],[(D,c6),(D,[.ptr 0 0]),(D,[ki])]⟩ expr_parser_row_c283.g
def expr_parser_row_c283.T(ad:LQ):TF P (LW ad):=⟨282,[283],expr_parser_row_c283.sp,lQ (F:=λq=>(af q).expr_parser_row_c283) (λa b c d e i=>1000+a.length+b.length+c.toNat+d.length+e.toNat+i.toNat) (λq=>(aB q).2.1) (λ_=>by kernel_rfl),aM (by kernel_rfl)⟩
def expr_parser_sum_1.sp:Spec:=ah ⟨[(0,Sp 0 0),(1,Sp 1 0)],[(U 0,[.ptr 2 0]),(U 1,[ki]),(U 2,c6)]⟩ ⟨[],[(D,[.ptr 2 0]),(D,[ki]),(D,c6)]⟩ expr_parser_sum_1.g
def expr_parser_sum_1.T(ad:LQ):TF P (LW ad):=⟨283,[],expr_parser_sum_1.sp,lQ (F:=λq=>(af q).expr_parser_sum_1) (λa b c d e=>1000+a.toNat+b.length+c.toNat+d.length+e.toNat) (λq=>(aB q).2.2.1) (λ_=>by kernel_rfl),aM (by kernel_rfl)⟩
def expr_parser_row_c284.sp:Spec:=ah ⟨[(0,Sp 0 0),(1,.clo 284 [.ptr 1 0,.ptr 2 0]),(2,.c (.sl .str))],[(U 0,c6),(U 1,[.ptr 0 0]),(U 2,[ki])]⟩ ⟨[],[(D,c6),(D,[.ptr 0 0]),(D,[ki])]⟩ expr_parser_row_c284.g
def expr_parser_row_c284.T(ad:LQ):TF P (LW ad):=⟨282,[284],expr_parser_row_c284.sp,lQ (F:=λq=>(af q).expr_parser_row_c284) (λa b c d e i=>1000+a.length+b.length+c.toNat+d.length+e.toNat+i.toNat) (λq=>(aB q).2.2.2.1) (λ_=>by kernel_rfl),aM (by kernel_rfl)⟩
def expr_parser_sum_1_1.sp:Spec:=ah ⟨[(0,Sp 0 0),(1,Sp 1 0)],[(U 0,[.ptr 2 0]),(U 1,[ki]),(U 2,c6)]⟩ ⟨[],[(D,[.ptr 2 0]),(D,[ki]),(D,c6)]⟩ expr_parser_sum_1_1.g
def expr_parser_sum_1_1.T(ad:LQ):TF P (LW ad):=⟨284,[],expr_parser_sum_1_1.sp,lQ (F:=λq=>(af q).expr_parser_sum_1_1) (λa b c d e=>1000+a.toNat+b.length+c.toNat+d.length+e.toNat) (λq=>(aB q).2.2.2.2.1) (λ_=>by kernel_rfl),aM (by kernel_rfl)⟩
def expr_parser_factor.sp:Spec:=ah ⟨[(0,Sp 0 0),(1,Si)],[(U 0,c6)]⟩ ⟨[],[(D,c6)]⟩ expr_parser_factor.g
def expr_parser_factor.T(ad:LQ):TF P (LW ad):=⟨285,[],expr_parser_factor.sp,lQ (F:=λq=>(af q).expr_parser_factor) (λa b c d e=>1000+a.toNat+b.length+c.toNat+d.length+e.toNat) (λq=>(aB q).2.2.2.2.2.1) (λ_=>by kernel_rfl),aM (by kernel_rfl)⟩
namespace Zcg
def sp:Spec:=ah ⟨[(0,.agg c2)],[]⟩ ⟨[(0,.agg c1)],[]⟩ g
def T(ad:LQ):=mkF ad 37 [] sp [] t0 t0 t0 16 [] f (λa b c d e _ j k=>1000+a.toNat+b.toNat+c.toNat+d.toNat+e.toNat+j.length+k.length) (by kernel_rfl)
end Zcg
namespace Zce
def sp:Spec:=ah ⟨[(0,.c (.sl u2)),(1,.c (.sl u2))],[]⟩ ⟨[(0,SB)],[]⟩ g
def T(ad:LQ):=mkF ad 38 [] sp [] t0 (λn=>tl 4 ⟨[(0,.c (.sl u2)),(1,.c (.sl u2)),(5,Si)],[]⟩ (λ_=>l4 n) <| tn) t0 26 [] f (λa b=>1000+a.length+b.length) (by kernel_rfl)
end Zce
namespace Zcb
def sp:Spec:=ah ⟨[(0,.agg c2),(1,.agg c2)],[]⟩ ⟨[(0,SB)],[]⟩ g
def T(ad:LQ):=mkF ad 15 [] sp [Zcg.T ad,Zce.T ad] t0 t0 t0 24 [] f (λa b c d e _ j k l o p q r _ t u=>1000+a.toNat+b.toNat+c.toNat+d.toNat+e.toNat+j.length+k.length+l.toNat+o.toNat+p.toNat+q.toNat+r.toNat+t.length+u.length) (by kernel_rfl)
end Zcb
namespace Zcd
def sp:Spec:=ah ⟨[(0,.c (.sl u3)),(1,.c (.sl u3))],[]⟩ ⟨[(0,SB)],[]⟩ g
def T(ad:LQ):=mkF ad 18 [] sp [Zcb.T ad] t0 (λn=>tl 4 ⟨[(0,.c (.sl u3)),(1,.c (.sl u3)),(5,Si)],[]⟩ (λ_=>l4 n) <| tn) t0 44 [] f (λa b=>1000+a.length+b.length) (by kernel_rfl)
end Zcd
namespace Zbf
def sp:Spec:=ah ⟨[(0,.agg c0)],[]⟩ ⟨[(0,.agg c10)],[]⟩ g
def T(ad:LQ):=mkF ad 10 [] sp [] (λn=>tj 8 ⟨[(2,Sp 0 0),(3,Sp 1 0)],[(U 0,c4),(U 1,c10)]⟩ (λ_=>j8 n) <| tn) (λn=>tl 3 ⟨[(1,Sp 0 0),(2,Sp 1 0),(3,Sp 2 0),(4,Si)],[(U 0,c0),(U 1,c4),(U 2,c10)]⟩ (λ_=>l3 n) <| tn) t0 52 [] f (λa b c=>1000+a.length+b.length+c.length) (by kernel_rfl)
end Zbf
namespace Zbc
def sp:Spec:=ah ⟨[(0,.c (.sl (.int .i64))),(1,Si)],[]⟩ ⟨[(0,SB)],[]⟩ g
def T(ad:LQ):=mkF ad 76 [] sp [] (λn=>tj 3 ⟨[(0,.c (.sl (.int .i64))),(1,Si),(5,Si)],[]⟩ (λms=>j3 n (l2 n ms.head!)) <| tn) (λn=>tl 2 ⟨[(0,.c (.sl (.int .i64))),(1,Si),(5,Si)],[]⟩ (λ_=>l2 n) <| tn) t0 48 [] f (λa b=>1000+a.length+b.toNat) (by kernel_rfl)
end Zbc
namespace Zdk
def sp:Spec:=ah ⟨[(0,Sb)],[]⟩ ⟨[(0,SB)],[]⟩ g
def T(ad:LQ):=mkF ad 120 [] sp [] t0 t0 t0 17 [] f (λa=>1000+a.toNat) (by kernel_rfl)
end Zdk
namespace Zcr
def sp:Spec:=ah ⟨[(0,Sb)],[]⟩ ⟨[(0,SB)],[]⟩ g
def T(ad:LQ):=mkF ad 122 [] sp [] t0 t0 t0 9 [] f (λa=>1000+a.toNat) (by kernel_rfl)
end Zcr
namespace Zdu
def sp:Spec:=ah ⟨[(0,Ss)],[]⟩ ⟨[(0,SB)],[]⟩ g
def T(ad:LQ):=mkF ad 121 [] sp [Zcr.T ad] t0 t0 t0 29 [] f (λa=>1000+a.length) (by kernel_rfl)
end Zdu
namespace Zat
def sp:Spec:=ah ⟨[(0,Ss)],[]⟩ ⟨[(0,SB)],[]⟩ g
def T(ad:LQ):=mkF ad 77 [] sp [Zdk.T ad,Zdu.T ad,Zcr.T ad] (λn=>tj 5 ⟨[(0,Ss),(3,Si)],[]⟩ (λms=>j5 n (l4 n ms.head!)) <| tn) (λn=>tl 4 ⟨[(0,Ss),(3,Si)],[]⟩ (λ_=>l4 n) <| tn) t0 46 [] f (λa=>1000+a.length) (by kernel_rfl)
end Zat
namespace Zaj
def sp:Spec:=ah ⟨[(0,.agg c0)],[]⟩ ⟨[(0,Si)],[]⟩ g
def T(ad:LQ):=mkF ad 32 [] sp [Zbc.T ad,Zat.T ad] (λn=>tj 13 ⟨[(1,Sp 0 0),(3,Si),(5,Si)],[(U 0,c0)]⟩ (λms=>j13 n (l12 n ms.head!)) <| tn) (λn=>tl 17 ⟨[(1,Sp 0 0),(3,Si),(6,Si)],[(U 0,c0)]⟩ (λ_=>l17 n) <| tl 12 ⟨[(1,Sp 0 0),(3,Si),(5,Si)],[(U 0,c0)]⟩ (λ_=>l12 n) <| tl 7 ⟨[(1,Sp 0 0),(3,Si),(4,Si)],[(U 0,c0)]⟩ (λ_=>l7 n) <| tn) t0 105 [] f (λa b c=>1000+a.length+b.length+c.length) (by kernel_rfl)
end Zaj
namespace Zbk
def sp:Spec:=ah ⟨[(0,.agg c0),(1,Si)],[]⟩ ⟨[(0,SB)],[]⟩ g
def T(ad:LQ):=mkF ad 43 [] sp [] t0 (λn=>tl 2 ⟨[(1,Si),(2,Sp 0 0),(5,Si)],[(U 1,c0)]⟩ (λ_=>l2 n) <| tn) t0 20 [] f (λa b c d=>1000+a.length+b.length+c.length+d.toNat) (by kernel_rfl)
end Zbk
namespace Zch
def sp:Spec:=ah ⟨[(0,SB)],[]⟩ ⟨[(0,Su)],[]⟩ g
def T(ad:LQ):=mkF ad 136 [] sp [] t0 t0 t0 4 [] f (λ_=>(1000:G)) (by kernel_rfl)
end Zch
namespace Zci
def sp:Spec:=ah ⟨[(0,Su),(1,Si)],[]⟩ ⟨[(0,Si)],[]⟩ g
def T(ad:LQ):=mkF ad 137 [] sp [] t0 t0 t0 25 [] f (λa b=>1000+a.toNat+b.toNat) (by kernel_rfl)
end Zci
namespace Zbb
def sp:Spec:=ah ⟨[(0,Su)],[]⟩ ⟨[(0,.agg c1)],[]⟩ g
def T(ad:LQ):=mkF ad 85 [] sp [Zch.T ad,Zci.T ad] (λn=>tj 12 ⟨[(0,Su),(2,Sp 0 0),(3,SB),(5,Si),(6,Si),(7,Si)],[(U 1,c1)]⟩ (λ_=>j12 n) <| tj 10 ⟨[(0,Su),(2,Sp 0 0),(3,SB),(5,Si),(6,Si),(7,Si)],[(U 1,c1)]⟩ (λ_=>j10 n) <| tj 17 ⟨[(2,Sp 0 0),(3,SB),(5,Si),(6,Si),(7,Si),(8,Si)],[(U 0,c1)]⟩ (λ_=>j17 n) <| tn) t0 t0 99 [] f (λa=>1000+a.toNat) (by kernel_rfl)
end Zbb
namespace Zcj
def sp:Spec:=ah ⟨[(0,Si)],[]⟩ ⟨[(0,SB)],[]⟩ g
def T(ad:LQ):=mkF ad 193 [] sp [] t0 t0 t0 9 [] f (λa=>1000+a.toNat) (by kernel_rfl)
end Zcj
namespace Zcc
def sp:Spec:=ah ⟨[(0,Si),(1,Si)],[]⟩ ⟨[(0,SB)],[]⟩ g
def T(ad:LQ):=mkF ad 194 [] sp [] t0 t0 t0 21 [] f (λa b=>1000+a.toNat+b.toNat) (by kernel_rfl)
end Zcc
namespace Zab
def sp:Spec:=ah ⟨[(0,.agg c1)],[]⟩ ⟨[(0,SB)],[]⟩ g
def T(ad:LQ):=mkF ad 138 [] sp [Zcj.T ad,Zcc.T ad] (λn=>tj 22 ⟨[(1,Sp 0 0),(3,Sp 1 0),(5,SB)],[(U 0,c1),(U 1,c1)]⟩ (λ_=>j22 n) <| tj 21 ⟨[(1,Sp 0 0),(3,Sp 1 0)],[(U 0,c1),(U 1,c1)]⟩ (λ_=>j21 n) <| tj 15 ⟨[(1,Sp 0 0),(3,Sp 1 0)],[(U 0,c1),(U 1,c1)]⟩ (λ_=>j15 n) <| tj 13 ⟨[(1,Sp 0 0),(3,Sp 1 0),(4,SB)],[(U 0,c1),(U 1,c1)]⟩ (λ_=>j13 n) <| tj 8 ⟨[(1,Sp 0 0),(3,Sp 1 0),(4,SB)],[(U 0,c1),(U 1,c1)]⟩ (λ_=>j8 n) <| tj 25 ⟨[(1,Sp 0 0),(3,Sp 1 0)],[(U 0,c1),(U 1,c1)]⟩ (λ_=>j25 n) <| tj 26 ⟨[(1,Sp 0 0),(3,Sp 1 0),(36,Si)],[(U 0,c1),(U 1,c1)]⟩ (λ_=>j26 n) <| tj 23 ⟨[(1,Sp 0 0),(3,Sp 1 0),(36,Si)],[(U 0,c1),(U 1,c1)]⟩ (λ_=>j23 n) <| tj 5 ⟨[(1,Sp 0 0),(3,Sp 1 0),(4,SB)],[(U 0,c1),(U 1,c1)]⟩ (λ_=>j5 n) <| tn) t0 t0 186 [] f (λa b c d e i _=>1000+a.toNat+b.toNat+c.toNat+d.toNat+e.toNat+i.toNat) (by kernel_rfl)
end Zab
namespace Zcu
def sp:Spec:=ah ⟨[(0,.agg c1)],[]⟩ ⟨[(0,Su),(1,Si)],[]⟩ g
def T(ad:LQ):=mkF ad 86 [] sp [Zab.T ad,Zch.T ad] t0 t0 t0 122 [] f (λa b c d e i _=>1000+a.toNat+b.toNat+c.toNat+d.toNat+e.toNat+i.toNat) (by kernel_rfl)
end Zcu
namespace Zdd
def sp:Spec:=ah ⟨[(0,Su)],[]⟩ ⟨[(0,.agg c1),(1,SB)],[]⟩ g
def T(ad:LQ):=mkF ad 46 [] sp [Zbb.T ad,Zcu.T ad] t0 t0 t0 23 [] f (λa=>1000+a.toNat) (by kernel_rfl)
end Zdd
namespace Zdf
def sp:Spec:=ah ⟨[(0,.agg c0),(1,Si)],[]⟩ ⟨[(0,Si),(1,SB)],[]⟩ g
def T(ad:LQ):=mkF ad 47 [] sp [Zbk.T ad,Zdd.T ad] t0 t0 t0 59 [] f (λa b c d=>1000+a.length+b.length+c.length+d.toNat) (by kernel_rfl)
end Zdf
namespace Zaa
def sp:Spec:=ah ⟨[(0,.agg c0)],[]⟩ ⟨[(0,.c (.row 3 (.int .i64))),(1,Si)],[]⟩ g
def T(ad:LQ):=mkF ad 33 [] sp [Zaj.T ad,Zdf.T ad,Zbk.T ad] (λn=>tj 11 ⟨[(1,Sp 0 0),(5,.c (.row 3 (.int .i64))),(6,Si),(7,SB),(8,Si)],[(U 0,c0)]⟩ (λms=>j11 n (l6 n ms.tail.head!) (l10 n (l6 n ms.tail.head!) ms.head!)) <| tj 7 ⟨[(1,Sp 0 0),(5,.c (.row 3 (.int .i64))),(6,Si)],[(U 0,c0)]⟩ (λms=>j7 n (l6 n ms.head!)) <| tn) (λn=>tl 10 ⟨[(1,Sp 0 0),(5,.c (.row 3 (.int .i64))),(6,Si),(7,SB),(8,Si)],[(U 0,c0)]⟩ (λms=>l10 n (l6 n ms.head!)) <| tl 6 ⟨[(1,Sp 0 0),(5,.c (.row 3 (.int .i64))),(6,Si)],[(U 0,c0)]⟩ (λ_=>l6 n) <| tn) t0 84 [] f (λa b c=>1000+a.length+b.length+c.length) (by kernel_rfl)
end Zaa
namespace Zbq
def sp:Spec:=ah ⟨[(0,Su)],[]⟩ ⟨[(0,Ss)],[]⟩ g
def T(ad:LQ):=mkF ad 78 [] sp [] t0 (λn=>tl 4 ⟨[(0,Su),(3,Ss),(4,Ss),(5,Si)],[]⟩ (λ_=>l4 n) <| tn) t0 24 [] f (λa=>1000+a.toNat) (by kernel_rfl)
end Zbq
namespace Zdg
def sp:Spec:=ah ⟨[(0,Si)],[]⟩ ⟨[(0,Ss)],[]⟩ g
def T(ad:LQ):=mkF ad 34 [] sp [Zbq.T ad] t0 t0 t0 9 [] f (λa=>1000+a.toNat) (by kernel_rfl)
end Zdg
namespace Zdh
def sp:Spec:=ah ⟨[(0,Si)],[]⟩ ⟨[(0,.c (.row 53 u2))],[]⟩ g
def T(ad:LQ):=mkF ad 44 [] sp [Zdg.T ad] t0 t0 t0 7 [] f (λa=>1000+a.toNat) (by kernel_rfl)
end Zdh
namespace Zcn
def sp:Spec:=ah ⟨[(0,Si)],[]⟩ ⟨[(0,.c (.row 53 u2))],[]⟩ g
def T(ad:LQ):=mkF ad 45 [] sp [] t0 t0 t0 15 [] f (λa=>1000+a.toNat) (by kernel_rfl)
end Zcn
namespace Zam
def sp:Spec:=ah ⟨[(0,.agg c0),(1,Si)],[]⟩ ⟨[(0,.agg c2)],[]⟩ g
def T(ad:LQ):=mkF ad 17 [] sp [Zbk.T ad,Zdh.T ad,Zcn.T ad,Zdd.T ad,Zdf.T ad] (λn=>tj 19 ⟨[(4,Sp 0 0),(10,Sp 1 0)],[(U 0,c2),(U 1,c2)]⟩ (λ_=>j19 n) <| tj 12 ⟨[(4,Sp 0 0),(6,Sp 1 0),(8,Si)],[(U 0,c2),(U 1,c1)]⟩ (λ_=>j12 n) <| tn) t0 t0 101 [] f (λa b c d=>1000+a.length+b.length+c.length+d.toNat) (by kernel_rfl)
end Zam
namespace Zac
def sp:Spec:=ah ⟨[(0,.agg c0)],[]⟩ ⟨[(0,.c (.row 78 u3)),(1,Si)],[]⟩ g
def T(ad:LQ):=mkF ad 12 [] sp [Zaj.T ad,Zaa.T ad,Zdg.T ad,Zam.T ad] (λn=>tj 11 ⟨[(1,Sp 0 0),(5,.c (.row 3 (.int .i64))),(7,.c (.row 78 u3)),(8,Si),(9,Si)],[(U 0,c0)]⟩ (λms=>j11 n (l7 n ms.tail.head!) (l10 n (l7 n ms.tail.head!) ms.head!)) <| tj 16 ⟨[(1,Sp 0 0),(5,.c (.row 3 (.int .i64))),(7,.c (.row 78 u3)),(8,Si),(10,Si)],[(U 0,c0)]⟩ (λms=>j16 n (l7 n ms.tail.head!) (l15 n (l7 n ms.tail.head!) ms.head!)) <| tj 8 ⟨[(1,Sp 0 0),(5,.c (.row 3 (.int .i64))),(7,.c (.row 78 u3)),(8,Si)],[(U 0,c0)]⟩ (λms=>j8 n (l7 n ms.head!)) <| tn) (λn=>tl 15 ⟨[(1,Sp 0 0),(5,.c (.row 3 (.int .i64))),(7,.c (.row 78 u3)),(8,Si),(10,Si)],[(U 0,c0)]⟩ (λms=>l15 n (l7 n ms.head!)) <| tl 10 ⟨[(1,Sp 0 0),(5,.c (.row 3 (.int .i64))),(7,.c (.row 78 u3)),(8,Si),(9,Si)],[(U 0,c0)]⟩ (λms=>l10 n (l7 n ms.head!)) <| tl 22 ⟨[(1,Sp 0 0),(7,.c (.row 78 u3)),(11,Si)],[(U 0,c0)]⟩ (λ_=>l22 n) <| tl 7 ⟨[(1,Sp 0 0),(5,.c (.row 3 (.int .i64))),(7,.c (.row 78 u3)),(8,Si)],[(U 0,c0)]⟩ (λ_=>l7 n) <| tn) t0 107 [] f (λa b c=>1000+a.length+b.length+c.length) (by kernel_rfl)
end Zac
namespace Zby
def sp:Spec:=ah ⟨[(0,Ss)],[]⟩ ⟨[(0,SB)],[]⟩ g
def T(ad:LQ):=mkF ad 132 [] sp [Zat.T ad] (λn=>tj 3 ⟨[(0,Ss)],[]⟩ (λ_=>j3 n) <| tn) t0 t0 17 [] f (λa=>1000+a.length) (by kernel_rfl)
end Zby
namespace Zdv
def sp:Spec:=ah ⟨[(0,.agg [ki,ku,.str])],[]⟩ ⟨[(0,Si)],[]⟩ g
def T(ad:LQ):=mkF ad 236 [] sp [Zby.T ad] t0 t0 t0 39 [] f (λa b c=>1000+a.toNat+b.toNat+c.length) (by kernel_rfl)
end Zdv
namespace Zbi
def sp:Spec:=ah ⟨[(0,.c (.sl u2))],[]⟩ ⟨[(0,SB)],[]⟩ g
def T(ad:LQ):=mkF ad 189 [] sp [Zdv.T ad] t0 (λn=>tl 3 ⟨[(0,.c (.sl u2)),(3,Si),(4,Si)],[]⟩ (λ_=>l3 n) <| tn) t0 35 [] f (λa=>1000+a.length) (by kernel_rfl)
end Zbi
namespace Zak
def sp:Spec:=ah ⟨[(0,.agg c2)],[]⟩ ⟨[(0,SB)],[]⟩ g
def T(ad:LQ):=mkF ad 133 [] sp [Zcg.T ad,Zat.T ad,Zab.T ad,Zbi.T ad] (λn=>tj 8 ⟨[(1,Sp 0 0),(3,Sp 1 0),(4,SB)],[(U 0,c2),(U 1,c1)]⟩ (λ_=>j8 n) <| tj 13 ⟨[(1,Sp 0 0),(3,Sp 1 0)],[(U 0,c2),(U 1,c1)]⟩ (λ_=>j13 n) <| tj 17 ⟨[(1,Sp 0 0),(3,Sp 1 0)],[(U 0,c2),(U 1,c1)]⟩ (λ_=>j17 n) <| tj 18 ⟨[(1,Sp 0 0),(3,Sp 1 0),(16,Si)],[(U 0,c2),(U 1,c1)]⟩ (λ_=>j18 n) <| tj 14 ⟨[(1,Sp 0 0),(3,Sp 1 0),(16,Si)],[(U 0,c2),(U 1,c1)]⟩ (λ_=>j14 n) <| tj 9 ⟨[(1,Sp 0 0),(3,Sp 1 0),(16,Si)],[(U 0,c2),(U 1,c1)]⟩ (λ_=>j9 n) <| tn) t0 t0 100 [] f (λa b c d e _ j k=>1000+a.toNat+b.toNat+c.toNat+d.toNat+e.toNat+j.length+k.length) (by kernel_rfl)
end Zak
namespace Zek
def sp:Spec:=ah ⟨[(0,Ss),(1,Si)],[]⟩ ⟨[(0,Ss)],[]⟩ g
def T(ad:LQ):=mkF ad 237 [] sp [] t0 t0 t0 12 [] f (λa b=>1000+a.length+b.toNat) (by kernel_rfl)
end Zek
namespace Zae
def sp:Spec:=ah ⟨[(0,Si),(1,Si),(2,SB)],[]⟩ ⟨[(0,Ss)],[]⟩ g
def T(ad:LQ):=mkF ad 190 [] sp [Zek.T ad] (λn=>tj 6 ⟨[(1,Si),(7,Ss),(8,Ss)],[]⟩ (λ_=>j6 n) <| tj 23 ⟨[(0,Si),(1,Si)],[]⟩ (λ_=>j23 n) <| tj 21 ⟨[(0,Si),(1,Si)],[]⟩ (λ_=>j21 n) <| tj 17 ⟨[(0,Si),(1,Si),(2,SB)],[]⟩ (λ_=>j17 n) <| tj 15 ⟨[(0,Si),(1,Si),(2,SB)],[]⟩ (λ_=>j15 n) <| tj 13 ⟨[(0,Si),(1,Si),(2,SB)],[]⟩ (λ_=>j13 n) <| tj 11 ⟨[(0,Si),(1,Si),(2,SB)],[]⟩ (λ_=>j11 n) <| tj 9 ⟨[(0,Si),(1,Si),(2,SB)],[]⟩ (λ_=>j9 n) <| tn) t0 t0 119 [] f (λa b _=>1000+a.toNat+b.toNat) (by kernel_rfl)
end Zae
namespace Zcv
def sp:Spec:=ah ⟨[(0,.agg c2)],[]⟩ ⟨[(0,Ss)],[]⟩ g
def T(ad:LQ):=mkF ad 134 [] sp [Zae.T ad] (λn=>tj 9 ⟨[(1,Sp 0 0)],[(U 0,c2)]⟩ (λ_=>j9 n) <| tn) t0 t0 33 [] f (λa b c d e _ j k=>1000+a.toNat+b.toNat+c.toNat+d.toNat+e.toNat+j.length+k.length) (by kernel_rfl)
end Zcv
namespace Zbz
def sp:Spec:=ah ⟨[(0,Su)],[]⟩ ⟨[(0,Ss)],[]⟩ g
def T(ad:LQ):=mkF ad 238 [] sp [] t0 (λn=>tl 2 ⟨[(0,Su),(3,Ss)],[]⟩ (λ_=>l2 n) <| tn) t0 23 [] f (λa=>1000+a.toNat) (by kernel_rfl)
end Zbz
namespace Zbe
def sp:Spec:=ah ⟨[(0,Ss),(1,Si),(2,.c (.sl (.int .i64)))],[]⟩ ⟨[(0,Ss)],[]⟩ g
def T(ad:LQ):=mkF ad 239 [] sp [] t0 (λn=>tl 2 ⟨[(0,Ss),(1,Si),(2,.c (.sl (.int .i64))),(7,Si)],[]⟩ (λ_=>l2 n) <| tn) t0 24 [] f (λa b c=>1000+a.length+b.toNat+c.length) (by kernel_rfl)
end Zbe
namespace Zah
def sp:Spec:=ah ⟨[(0,.c (.sl u2))],[]⟩ ⟨[(0,Ss),(1,Si)],[]⟩ g
def T(ad:LQ):=mkF ad 191 [] sp [Zbi.T ad,Zbz.T ad,Zbe.T ad] (λn=>tj 27 ⟨[(0,.c (.sl u2)),(4,.c (.row 9 .str)),(5,.c (.row 3 (.int .i64))),(6,Si),(7,Si),(8,Si),(9,Ss)],[]⟩ (λms=>j27 n (l6 n ms.head!)) <| tj 16 ⟨[(0,.c (.sl u2)),(4,.c (.row 9 .str)),(5,.c (.row 3 (.int .i64))),(6,Si),(7,Si),(8,Si),(10,Ss)],[]⟩ (λms=>j16 n (l6 n ms.head!)) <| tn) (λn=>tl 6 ⟨[(0,.c (.sl u2)),(4,.c (.row 9 .str)),(5,.c (.row 3 (.int .i64))),(6,Si)],[]⟩ (λ_=>l6 n) <| tn) t0 130 [] f (λa=>1000+a.length) (by kernel_rfl)
end Zah
namespace Zbr
def sp:Spec:=ah ⟨[(0,Si)],[]⟩ ⟨[(0,Ss)],[]⟩ g
def T(ad:LQ):=mkF ad 192 [] sp [] t0 t0 t0 24 [] f (λa=>1000+a.toNat) (by kernel_rfl)
end Zbr
namespace Zcw
def sp:Spec:=ah ⟨[(0,.agg c2)],[]⟩ ⟨[(0,.c (.row 9 .str))],[]⟩ g
def T(ad:LQ):=mkF ad 135 [] sp [Zah.T ad,Zbr.T ad] (λn=>tj 26 ⟨[(3,Ss)],[]⟩ (λ_=>j26 n) <| tn) t0 t0 77 [] f (λa b c d e _ j k=>1000+a.toNat+b.toNat+c.toNat+d.toNat+e.toNat+j.length+k.length) (by kernel_rfl)
end Zcw
namespace Zao
def sp:Spec:=ah ⟨[(0,Ss),(1,.agg c2)],[]⟩ ⟨[(0,Ss),(1,Si)],[]⟩ g
def T(ad:LQ):=mkF ad 83 [] sp [Zby.T ad,Zak.T ad,Zcv.T ad,Zcw.T ad] (λn=>tj 17 ⟨[(6,Ss),(7,.c (.row 9 .str)),(8,Si)],[]⟩ (λms=>j17 n (l13 n ms.head!)) <| tj 10 ⟨[(3,Sp 0 0),(6,Ss)],[(U 0,c2)]⟩ (λ_=>j10 n) <| tj 6 ⟨[(0,Ss),(3,Sp 0 0),(6,Ss)],[(U 1,c2)]⟩ (λ_=>j6 n) <| tj 3 ⟨[(0,Ss),(3,Sp 0 0)],[(U 1,c2)]⟩ (λ_=>j3 n) <| tn) (λn=>tl 13 ⟨[(6,Ss),(7,.c (.row 9 .str)),(8,Si)],[]⟩ (λ_=>l13 n) <| tn) t0 57 [] f (λa b c d e i _ k l=>1000+a.length+b.toNat+c.toNat+d.toNat+e.toNat+i.toNat+k.length+l.length) (by kernel_rfl)
end Zao
namespace Zck
def sp:Spec:=ah ⟨[(0,.c (.sl u3))],[]⟩ ⟨[(0,Ss),(1,Si),(2,Si)],[]⟩ g
def T(ad:LQ):=mkF ad 36 [] sp [Zao.T ad] t0 (λn=>tl 5 ⟨[(0,.c (.sl u3)),(5,Ss),(6,Si)],[]⟩ (λ_=>l5 n) <| tn) t0 42 [] f (λa=>1000+a.length) (by kernel_rfl)
end Zck
namespace Zdo
def sp:Spec:=ah ⟨[(0,.agg c0)],[]⟩ ⟨[(0,Ss),(1,Si)],[]⟩ g
def T(ad:LQ):=mkF ad 14 [] sp [Zac.T ad,Zck.T ad] t0 t0 t0 25 [] f (λa b c=>1000+a.length+b.length+c.length) (by kernel_rfl)
end Zdo
namespace rivetlaw23_DisasmAll
def sp:Spec:=ah ⟨[(0,.agg c0),(1,Si)],[]⟩ ⟨[(0,SB)],[]⟩ g
def Q(ad:LQ)(a_rivetlaw23_shown:zac (E×zab)):G->Env sp.r.T:=lu types maps [((9,[]),ah ⟨[],[]⟩ ⟨[(0,SB)],[]⟩ a_rivetlaw23_shown),(Zbf.T ad).kv,(Zcm.T ad).kv,(Zac.T ad).kv,(Zcy.T ad).kv,(Zdo.T ad).kv,(Zal.T ad).kv,(Zam.T ad).kv,(Zcb.T ad).kv,(Zcd.T ad).kv] t0 (λn=>tl 8 ⟨[(1,Si),(5,SB),(6,Sp 0 0),(7,.c (.row 78 u3)),(8,Si),(9,.c (.row 78 u3)),(10,Si),(11,Ss),(12,Si),(13,Ss),(14,Si),(15,Si)],[(U 2,c0)]⟩ (λ_=>l8 a_rivetlaw23_shown n) <| tn) t0 84 0 []
theorem q2(ad:LQ)(a_rivetlaw23_shown:zac (E×zab)):(λ(n:G)=>sL P 3 sp (Q ad a_rivetlaw23_shown n),λn=>EQ P 3 sp 84 (Q ad a_rivetlaw23_shown n))=(λn=>sR P 3 sp (Q ad a_rivetlaw23_shown n),λn=>ap sp.a.all (f a_rivetlaw23_shown n)):=by kernel_rfl
def T(ad:LQ):=Nz ad 3 [] sp [Zdi.T ad,Zbf.T ad,Zcm.T ad,Zac.T ad,Zcy.T ad,Zdo.T ad,Zal.T ad,Zam.T ad,Zcb.T ad,Zcd.T ad] t0 (λn=>tl 8 ⟨[(1,Si),(5,SB),(6,Sp 0 0),(7,.c (.row 78 u3)),(8,Si),(9,.c (.row 78 u3)),(10,Si),(11,Ss),(12,Si),(13,Ss),(14,Si),(15,Si)],[(U 2,c0)]⟩ (λ_=>l8 Zdi.g n) <| tn) t0 84 [] (λn=>f Zdi.g n) (λa b c d=>1000+a.length+b.length+c.length+d.toNat) (by kernel_rfl) (q2 ad Zdi.g)
end rivetlaw23_DisasmAll
theorem rivetlaw23_DisasmAll.sat:Sat P (LW ad) 3 rivetlaw23_DisasmAll.sp:=(rivetlaw23_DisasmAll.T ad).sat
end
end Rv
namespace Rv
open Go
theorem w64{x:I}(h:-9223372036854775808<=x/\x<=9223372036854775807):zaa.wrap x=x:=IntWalk.i64_in _ h
theorem NB{x:I}(h:0<=x/\x<=4294967295):C.wrap x=x:=IntWalk.u32_in _ h
theorem w8u{x:I}(h:0<=x/\x<=255):IntKind.u8.wrap x=x:=IntWalk.u8_in _ h
theorem NC{x:I}(h:0<=x/\x<=18446744073709551615):zad.wrap x=x:=IntWalk.u64_in _ h
theorem dt{p:Prop}[Decidable p]:(decide p=H)=p:=by simp
theorem df{p:Prop}[Decidable p]:(decide p=Y)=¬p:=by simp
theorem uL(s:Str)(k:G):bt s (k:I)=((s.getD k 0).toNat:I):=rfl
theorem mg{s:Str}{k:G}(h:k<s.length):s.drop k=s.getD k 0::s.drop (k+1):=by
 rw[Oe h];congr 1;simp[List.getD,h]
theorem kV(b:UInt8)(n:G)(hn:n<256):((b.toNat:I)=(n:I))=(b=UInt8.ofNat n):=by
 apply propext;constructor;·intro h;apply UInt8.toNat_inj.1;rw[UInt8.toNat_ofNat',Nat.mod_eq_of_lt hn];omega
 ·intro h;rw[h,UInt8.toNat_ofNat',Nat.mod_eq_of_lt hn]
theorem Nj{n:I}(h:(Lit.int .u32 n).wf=H):0<=n/\n<=4294967295:=by
 simp[Lit.wf,IntKind.min,IntKind.max,IntKind.signed,IntKind.bits] at h;omega
theorem Ni{n:I}(h:(Lit.int .i64 n).wf=H):-9223372036854775808<=n/\n<=9223372036854775807:=by
 simp[Lit.wf,IntKind.min,IntKind.max,IntKind.signed,IntKind.bits] at h;omega
theorem Km{n:G}(h:n<=maxLen):n<=9223372036854775807:=by unfold maxLen at h;omega
end Rv
namespace Rv
open Go
abbrev W32:=BitVec 32
theorem ofI(W:W32):BitVec.ofInt 32 (W.toNat:I)=W:=by simp
theorem Bz(x:I):C.wrap x=((BitVec.ofInt 32 x).toNat:I):=by
 rw[IntKind.wrap_u32,BitVec.toNat_ofInt];omega
theorem J8(W:W32):C.wrap (W.toNat:I)=(W.toNat:I):=by rw[Bz,ofI]
theorem fE(A B:W32):ai .or .u32 (A.toNat:I) (B.toNat:I)=((A ||| B).toNat:I):=by
 show C.wrap (((BitVec.ofInt 32 (A.toNat:I) ||| BitVec.ofInt 32 (B.toNat:I)).toNat:G):I)=_;rw[ofI,ofI,J8]
theorem Kc(A B:W32):ai .and .u32 (A.toNat:I) (B.toNat:I)=((A &&& B).toNat:I):=by
 show C.wrap (((BitVec.ofInt 32 (A.toNat:I) &&& BitVec.ofInt 32 (B.toNat:I)).toNat:G):I)=_;rw[ofI,ofI,J8]
theorem H9(A B:W32):ai .andNot .u32 (A.toNat:I) (B.toNat:I)=((A &&& ~~~B).toNat:I):=by
 show C.wrap (((BitVec.ofInt 32 (A.toNat:I) &&& ~~~BitVec.ofInt 32 (B.toNat:I)).toNat:G):I)=_;rw[ofI,ofI,J8]
theorem vS(A:W32)(b:G)(hb:b<=32):C.wrap ((A.toNat:I)*2 ^ (min ((b:I)).toNat C.bits))=((A <<< b).toNat:I):=by
 have e:min ((b:I)).toNat C.bits=b:=by show min ((b:I)).toNat 32=b;omega
 grind [IntKind.wrap_u32,Nat.shiftLeft_eq]
theorem Kl(A:W32)(b:G)(hb:b<=32):(A.toNat:I).fdiv (2 ^ (min ((b:I)).toNat C.bits))=((A >>> b).toNat:I):=by
 have e:min ((b:I)).toNat C.bits=b:=by show min ((b:I)).toNat 32=b;omega
 grind [Nat.shiftRight_eq_div_pow]
def sF(W X:W32)(b p:G):W32:=(W &&& ~~~(1#32 <<< b)) ||| (((X >>> p) &&& 1#32) <<< b)
def cz(W X:W32)(a:G):G->W32
 |0=>W
 |k+1=>sF (cz W X a k) X (a+k) k
def dn(W:W32)(a:G):G->W32
 |0=>0
 |k+1=>dn W a k ||| (((W >>> (a+k)) &&& 1#32) <<< k)
theorem Lj(j:G):(1#32).getLsbD j=N (j=0):=by
 grind
theorem Cj(W X:W32){b p:G}(hb:b<32){j:G}(hj:j<32):(sF W X b p).getLsbD j=if j=b then X.getLsbD p else W.getLsbD j:=by
 unfold sF
 grind
theorem jQ(W X:W32){a:G}:∀{n:G},a+n<=32->∀{j:G},j<32->(cz W X a n).getLsbD j=if a<=j/\j<a+n then X.getLsbD (j-a) else W.getLsbD j
 |0,_,j,_=>by rw[Z (by omega)];rfl
 |n+1,h,j,hj=>by
  rw[cz,Cj _ _ (by omega) hj];by_cases e:j=a+n;·grind
  ·rw[Z e,jQ W X (by omega) hj]
   grind
theorem dK(W:W32){a:G}:∀{n:G},n<=32->∀{j:G},j<32->(dn W a n).getLsbD j=(N (j<n)&&W.getLsbD (a+j))
 |0,_,j,_=>by simp[dn]
 |n+1,h,j,hj=>by
  rw[dn,BitVec.getLsbD_or,dK W (by omega) hj,BitVec.getLsbD_shiftLeft,BitVec.getLsbD_and,BitVec.getLsbD_ushiftRight,Lj]
  grind
theorem jC{A B:W32}(h:∀j,j<32->A.getLsbD j=B.getLsbD j):A=B:=BitVec.eq_of_getLsbD_eq λj hj=>h j hj
theorem uY(W X:W32){a n b m:G}(h:a+n<=32)(h1:a<=b)(h2:b+m<=a+n):dn (cz W X a n) b m=dn X (b-a) m:=jC λj hj=>by
 rw[dK _ (by omega) hj,dK _ (by omega) hj];by_cases e:j<m;·rw[jQ _ _ h (by omega),S (by omega),show b+j-a=b-a+j by omega]
 ·simp[e]
theorem Cz(W X:W32){a n b m:G}(h:a+n<=32)(hb:b+m<=32)(h1:b+m<=a\/a+n<=b):dn (cz W X a n) b m=dn W b m:=jC λj hj=>by
 rw[dK _ (by omega) hj,dK _ (by omega) hj];by_cases e:j<m;·rw[jQ _ _ h (by omega),Z (by omega)]
 ·simp[e]
theorem zH(b m:G)(hm:m<=32):dn 0 b m=0:=jC λj hj=>by
 grind [dK]
theorem KS{X:W32}{n:G}(hn:n<=32)(hx:X.toNat<2 ^ n):dn X 0 n=X:=jC λj hj=>by
 rw[dK _ hn hj,Nat.zero_add];by_cases e:j<n;·simp[e]
 ·have:X.getLsbD j=Y:=by
   show X.toNat.testBit j=Y
   grind [Nat.testBit_lt_two_pow,Nat.lt_of_lt_of_le,Nat.pow_le_pow_right]
  simp[e,this]
theorem Mr(W:W32)(a:G){n:G}(hn:n<=32):(dn W a n).toNat<2 ^ n:=by
 refine Nat.lt_pow_two_of_testBit _ λj hj=>?_
 by_cases h:j<32
 ·have:=dK W (a:=a) hn h
  grind
 ·exact BitVec.getLsbD_of_ge _ _ (by omega)
theorem LM(W X:W32){b p:G}(hb:b<32)(hp:p<32):Zdy.g (b:I) (p:I) (W.toNat:I) (X.toNat:I)=U (((sF W X b p).toNat:I),(X.toNat:I),()):=by
 unfold Zdy.g Zdy.f;have e1:(1:I)=((1#32).toNat:I):=rfl;rw[Z (by omega),Z (by omega),Z (by omega),Kl X p (by omega),e1,vS (1#32) b (by omega),Kc,vS _ b (by omega),H9,fE];rfl
theorem IK(n:G)(X W:W32){a c:G}(hc:1<=c)(h:a+c<=32):∀(m k:G),k<=c->c-k<m->Zct.l2 n m (a:I) (c:I) ((a+k:G):I) ((cz W X a k).toNat:I) (X.toNat:I)=U (((cz W X a c).toNat:I),(X.toNat:I),()):=by
 intro m
 induction m with
 |zero=>grind
 |succ m ih=>
  intro k hk hm;rw[Zct.l2];simp only[dt];by_cases e:k=c
  ·subst e;by_cases e2:a+k<32
   ·rw[S (by omega),Z (by rw[w64 (by omega)];omega)]
   grind
  ·rw[S (by omega),w64 (by omega),S (by omega),show((a+k:G):I)-(a:I)=(k:I) by omega,LM _ X (by omega) (by omega),NE];dsimp only;rw[w64 (by omega),show((a+k:G):I)+1=((a+(k+1):G):I) by omega];exact ih (k+1) (by omega) (by omega)
theorem MS(W X:W32){a c:G}(hc:1<=c)(h:a+c<=32):Zdz.g (W.toNat:I) (a:I) (c:I) (X.toNat:I)=U (((cz W X a c).toNat:I),()):=by
 unfold Zdz.g Zdz.f Zct.g Zct.f;simp only[dt,df];rw[S (by omega),S (by omega),w64 (by omega),Z (by omega)];have hmx:mx (a:I) 0=((a+0:G):I):=by grind [mx]
 rw[hmx];have:=IK (1000+((a:I)).toNat+((c:I)).toNat+((W.toNat:I)).toNat+((X.toNat:I)).toNat) X W hc h (1000+((a:I)).toNat+((c:I)).toNat+((W.toNat:I)).toNat+((X.toNat:I)).toNat) 0 (by omega) (by omega);simp_all [cz]
theorem KR(O W:W32){b p:G}(hb:b<32)(hp:p<32):Zdw.g (b:I) (p:I) (O.toNat:I) (W.toNat:I)=U (((O ||| (((W >>> b) &&& 1#32) <<< p)).toNat:I),(W.toNat:I),()):=by
 unfold Zdw.g Zdw.f;have e1:(1:I)=((1#32).toNat:I):=rfl;rw[Z (by omega),Z (by omega),Kl W b (by omega),e1,Kc,vS _ p (by omega),fE]
theorem IJ(n:G)(W:W32){a c:G}(hc:1<=c)(h:a+c<=32):∀(m k:G),k<=c->c-k<m->Zcs.l2 n m (a:I) (c:I) ((a+k:G):I) ((dn W a k).toNat:I) (W.toNat:I)=U (((dn W a c).toNat:I),(W.toNat:I),()):=by
 intro m
 induction m with
 |zero=>grind
 |succ m ih=>
  intro k hk hm;rw[Zcs.l2];simp only[dt];by_cases e:k=c
  ·subst e;by_cases e2:a+k<32
   ·rw[S (by omega),Z (by rw[w64 (by omega)];omega)]
   grind
  ·rw[S (by omega),w64 (by omega),S (by omega),show((a+k:G):I)-(a:I)=(k:I) by omega,KR _ W (by omega) (by omega),NE];dsimp only;rw[w64 (by omega),show((a+k:G):I)+1=((a+(k+1):G):I) by omega];exact ih (k+1) (by omega) (by omega)
theorem Mq(W:W32){a c:G}(hc:1<=c)(h:a+c<=32):Zdx.g (W.toNat:I) (a:I) (c:I)=U (((dn W a c).toNat:I),()):=by
 unfold Zdx.g Zdx.f Zcs.g Zcs.f;simp only[dt,df];rw[S (by omega),S (by omega),w64 (by omega),Z (by omega)];have hmx:mx (a:I) 0=((a+0:G):I):=by grind [mx]
 rw[hmx];have:=IJ (1000+((a:I)).toNat+((c:I)).toNat+((0:I)).toNat+((W.toNat:I)).toNat) W hc h (1000+((a:I)).toNat+((c:I)).toNat+((0:I)).toNat+((W.toNat:I)).toNat) 0 (by omega) (by omega);simp_all [dn]
end Rv
namespace Rv
open Go
def fC:W32->M (G×G×I)->W32
 |W,[]=>W
 |W,(a,n,x)::r=>fC (cz W (BitVec.ofInt 32 x) a n) r
abbrev fld(f:G×G×I):I×I×I×zab:=((f.1:I),(f.2.1:I),f.2.2,())
abbrev Nq:I×I×I×zab:=((0:I),((0:I),((0:I),())))
theorem Ja(n:G)(fs:M (G×G×I))(hf:∀f∈fs,1<=f.2.1/\f.1+f.2.1<=32)(hl:fs.length<=1000):∀(m i:G) (W:W32),i<=fs.length->fs.length-i<m ->
  Zau.l3 n m (W.toNat:I) (fs.map fld) ((fs.map fld).length:I) (i:I)=U (((fC W (fs.drop i)).toNat:I),()):=by
 intro m
 induction m with
 |zero=>grind
 |succ m ih=>
  intro i W hi hm;rw[Zau.l3];simp only[dt,Ow];by_cases h:i<fs.length
  ·have hd:fs.drop i=fs[i]::fs.drop (i+1):=Oe h;have hg:(fs.map fld).getD ((i:I)).toNat Nq=fld fs[i]:=by
    grind
   obtain⟨h1,h2⟩:=hf fs[i] (Oo h);rw[S (by omega),S (by omega),S (by decide),S (by decide),S (by decide),hg];have q1:∀x y z:I,([x,y,z]:M I).getD ((0:I)).toNat 0=x:=λ_ _ _=>rfl
   have q2:∀x y z:I,([x,y,z]:M I).getD ((1:I)).toNat 0=y:=λ_ _ _=>rfl
   have q3:∀x y z:I,([x,y,z]:M I).getD ((2:I)).toNat 0=z:=λ_ _ _=>rfl
   rw[q1,q2,q3];dsimp only[fld];rw[Bz,MS _ _ h1 h2,NE];dsimp only;rw[w64 (by omega),show(i:I)+1=((i+1:G):I) by omega,hd];have:=ih (i+1) (cz W (BitVec.ofInt 32 fs[i].2.2) fs[i].1 fs[i].2.1) (by omega) (by omega);rw[Ow] at this;exact this
  ·rw[Z (by omega),List.drop_eq_nil_of_le (by omega)];rfl
theorem Mv(fs:M (G×G×I))(hf:∀f∈fs,1<=f.2.1/\f.1+f.2.1<=32)(hl:fs.length<=1000)(l:M (I×I×I×zab))(e:l=fs.map fld):Zau.g l=U (((fC 0 fs).toNat:I),()):=by
 subst e;unfold Zau.g Zau.f;have:=Ja (1000+(fs.map fld).length) fs hf hl (1000+(fs.map fld).length) 0 0 (by omega) (by grind)
 grind
def hdN(f:G)(u v:E):G:=f*4+(if u then 2 else 0)+(if v then 1 else 0)
theorem jL(f:G)(hf:f<4)(u v:E):Zbj.g (f:I) u v=U (28,4,(hdN f u v:I),()):=by
 have:∀f:G,f<4->∀u v:E,Zbj.g (f:I) u v=U (28,4,(hdN f u v:I),()):=by decide +kernel
 grind
def dm(k o a b c i:I)(u:E):M (G×G×I):=
 if k=1 then[(28,4,(hdN 0 u Y:I)),(24,4,a),(20,4,b),(16,4,o),(0,4,c)] else
 if k=3\/k=4 then[(28,4,(hdN 0 H (N (k=4)):I)),(24,4,a)] else
 if k=2 then[(28,4,(hdN 1 u (N (i<0)):I)),(24,4,a),(20,4,b),(16,4,o),(0,16,i)] else
 if k=5 then[(28,4,(hdN 2 (N (2<=o)) (N (Int.tmod o 2=1)):I)),(24,4,a),(20,4,b),(0,20,i)] else
 if k=6 then[(28,4,(hdN 3 Y u:I)),(24,4,o),(0,4,c)] else
 [(28,4,(hdN 3 H u:I)),(24,4,o),(0,24,i)]
theorem Cx(k o a b c i:I)(u:E):(∀f∈dm k o a b c i u,1<=f.2.1/\f.1+f.2.1<=32)/\(dm k o a b c i u).length<=1000:=by
 unfold dm
 grind
def aG(k o a b c i:I)(u:E):W32:=fC 0 (dm k o a b c i u)
theorem lG(k o a b c i:I)(u:E)(l:M (I×I×I×zab))(e:l=(dm k o a b c i u).map fld):Zau.g l=U (((aG k o a b c i u).toNat:I),()):=
 Mv _ (Cx k o a b c i u).1 (Cx k o a b c i u).2 l e
theorem jN(k o a b c i:I)(u:E):Zbs.g k o a b c i u=U (((aG k o a b c i u).toNat:I),()):=by
 have J:∀n,k≠1->k≠2->k≠3->k≠4->k≠5->k≠6->Zbs.j14 n k o a b c i u 24 4 o=U (((aG k o a b c i u).toNat:I),()):=λn h1 h2 h3 h4 h5 h6=>by
  unfold Zbs.j14;rw[show(3:I)=((3:G):I) from rfl,jL 3 (by decide),NE,lG k o a b c i u _ (by grind [dm]),NE]
 unfold Zbs.g;generalize 1000+k.toNat+o.toNat+a.toNat+b.toNat+c.toNat+i.toNat=n;unfold Zbs.f;simp only[dt];have e0:(0:I)=((0:G):I):=rfl;by_cases h1:k=1;·rw[S h1];have:=jL 0 (by decide) u Y;rw[show((0:G):I)=0 from rfl] at this;rw[this,NE,lG k o a b c i u _ (by unfold dm;simp[h1]),NE]
 ·rw[Z h1];have h0:=jL 0 (by decide) H (N (k=4));rw[show((0:G):I)=0 from rfl] at h0;have g2:=jL 1 (by decide) u (N (i<0));rw[show((1:G):I)=1 from rfl] at g2;have g5:=jL 2 (by decide) (N (2<=o)) (N (Int.tmod o 2=1));rw[show((2:G):I)=2 from rfl] at g5;have g6:=jL 3 (by decide) Y u;rw[show((3:G):I)=3 from rfl] at g6;rw[h0,g2,g5,g6];simp only[NE];by_cases h3:k=3
  ·rw[S h3,S h3,lG k o a b c i u _ (by unfold dm;simp[h3]),NE]
  ·rw[Z h3];by_cases h4:k=4
   ·rw[S h4,lG k o a b c i u _ (by unfold dm;simp[h4]),NE]
   ·rw[Z h4];by_cases h2:k=2
    ·rw[S h2,lG k o a b c i u _ (by unfold dm;simp[h2]),NE]
    ·rw[Z h2];by_cases h5:k=5
     ·rw[S h5,lG k o a b c i u _ (by unfold dm;simp[h5]),NE]
     ·rw[Z h5];by_cases h6:k=6
      ·rw[S h6,lG k o a b c i u _ (by unfold dm;simp[h6]),NE]
      grind
abbrev Gn(W:W32)(a n:G):I:=((dn W a n).toNat:I)
theorem bF(W:W32)(a:G){n:G}(hn:n<=32):0<=Gn W a n/\Gn W a n<2 ^ n:=by
 have:=Mr W a hn
 grind
theorem iw(W:W32)(a n:G)(hn:1<=n)(h:a+n<=32):Zax.g (a:I) (n:I) (W.toNat:I)=U (Gn W a n,()):=by
 unfold Zax.g Zax.f;rw[Mq W hn h,NE];dsimp only;have:=bF W a (n:=n) (by omega);have h32:(dn W a n).toNat<2 ^ 32:=(dn W a n).isLt;rw[w64 (by omega)]
def sgV(W:W32)(n:G):I:=zaa.wrap ((IntKind.i32.wrap ((W <<< (32-n)).toNat:I)).fdiv (2 ^ (32-n)))
theorem yn(W:W32)(n:G)(h:1<=n)(h2:n<=32):Zdl.g (W.toNat:I) (n:I)=U (sgV W n,()):=by
 unfold Zdl.g Zdl.f Zef.g Zef.f;have hk:mn (mx (n:I) 1) 32=(n:I):=by grind [mn,mx]
 rw[hk,NE];dsimp only;rw[w64 (by omega),show(32:I)-(n:I)=((32-n:G):I) by omega,Z (by omega),Z (by omega),vS W (32-n) (by omega)];have e:min (((32-n:G):I)).toNat IntKind.i32.bits=32-n:=by show min (((32-n:G):I)).toNat 32=_;omega
 rw[e];rfl
theorem Dn{W:W32}{n:G}(h:n<=32)(h0:dn W 0 n=0):sgV W n=0:=by
 have:W <<< (32-n)=0:=jC λj hj=>by
  rw[BitVec.getLsbD_shiftLeft];by_cases e:j<32-n;·simp[e]
  ·have:=congrArg (λV:W32=>V.getLsbD (j-(32-n))) h0;simp only[dK W h (show j-(32-n)<32 by omega)] at this
   grind
 unfold sgV;rw[this];show zaa.wrap ((IntKind.i32.wrap 0).fdiv (2 ^ (32-n)))=0;rw[show IntKind.i32.wrap 0=0 from rfl,Int.zero_fdiv];rfl
def bu(W:W32):I×I×I×I×I×I×E×zab:=
 if Gn W 30 2=0 then
  (if Gn W 29 1=1/\Gn W 16 4=0 then(3+Gn W 28 1,0,Gn W 24 4,0,0,0,Y,()) else(1,Gn W 16 4,Gn W 24 4,Gn W 20 4,Gn W 0 4,0,N (Gn W 29 1=1),()))
 else if Gn W 30 2=1 then(2,Gn W 16 4,Gn W 24 4,Gn W 20 4,0,Gn W 0 16-Gn W 28 1*65536,N (Gn W 29 1=1),())
 else if Gn W 30 2=2 then(5,Gn W 29 1*2+Gn W 28 1,Gn W 24 4,Gn W 20 4,0,sgV W 20,Y,())
 else if Gn W 29 1=1 then(7,Gn W 24 4,0,0,0,sgV W 24,N (Gn W 28 1=1),())
 else(6,Gn W 24 4,0,0,Gn W 0 4,0,N (Gn W 28 1=1),())
theorem jM(W:W32):Zba.g (W.toNat:I)=U (bu W):=by
 unfold Zba.g Zba.f;have r1:=iw W 29 1 (by decide) (by decide);have r2:=iw W 28 1 (by decide) (by decide);have r3:=iw W 24 4 (by decide) (by decide);have r4:=iw W 20 4 (by decide) (by decide);have r5:=iw W 16 4 (by decide) (by decide);have r6:=iw W 30 2 (by decide) (by decide);have r7:=iw W 0 4 (by decide) (by decide);have r8:=iw W 0 16 (by decide) (by decide);have s1:=yn W 20 (by decide) (by decide);have s2:=yn W 24 (by decide) (by decide);have b1:=bF W 29 (n:=1) (by decide);have b2:=bF W 28 (n:=1) (by decide);have b8:=bF W 0 (n:=16) (by decide);have p16:zaa.wrap (Gn W 28 1*2 ^ (min (16:I).toNat zaa.bits))=Gn W 28 1*65536:=by
  show zaa.wrap (Gn W 28 1*65536)=_;rw[w64 (by omega)]
 simp only[Int.cast_ofNat_Int] at r1 r2 r3 r4 r5 r6 r7 r8 s1 s2;simp only[r1,r2,r3,r4,r5,r6,r7,r8,s1,s2,NE,dt,Zba.j16,p16];unfold bu;by_cases h1:Gn W 30 2=0
 ·rw[S h1,S h1];by_cases h2:Gn W 29 1=1
  ·rw[S h2];by_cases h3:Gn W 16 4=0
   ·rw[S h3,S ⟨h2,h3⟩,w64 (by omega)]
   grind
  grind
 ·rw[Z h1,Z h1];by_cases h2:Gn W 30 2=1
  ·rw[S h2,S h2,w64 (by omega)]
  ·rw[Z h2,Z h2];by_cases h3:Gn W 30 2=2
   ·rw[S h3,S h3,w64 (x:=Gn W 29 1*2) (by omega),w64 (by omega)]
   grind
theorem ay(W X:W32){a n b m:G}(h:a+n<=32)(hb:b+m<=32)(h1:b+m<=a\/a+n<=b):Gn (cz W X a n) b m=Gn W b m:=by simp_all [Gn,Cz]
theorem yR(W:W32){x:I}{a n:G}(h:a+n<=32)(hx:0<=x/\x<2 ^ n):Gn (cz W (BitVec.ofInt 32 x) a n) a n=x:=by
 have h1:(2:I) ^ n=((2 ^ n:G):I):=by grind
 have h2:2 ^ n<=2 ^ 32:=Nat.pow_le_pow_right (by decide) (by omega);have h3:(BitVec.ofInt 32 x).toNat=x.toNat:=by
  grind
 unfold Gn;rw[uY W _ h (NL _) (NL _),Nat.sub_self,KS (by omega) (by grind),h3];omega
theorem fV(W:W32){x:I}{a:G}(h:a+4<=32)(hx:0<=x/\x<16):Gn (cz W (BitVec.ofInt 32 x) a 4) a 4=x:=yR W h hx
theorem bv(W X:W32){a n b m:G}(h:a+n<=32)(h1:a<=b)(h2:b+m<=a+n):Gn (cz W X a n) b m=Gn X (b-a) m:=by simp_all [Gn,uY]
theorem KT(b m:G)(hm:m<=32):Gn 0 b m=0:=by unfold Gn;rw[zH b m hm];rfl
theorem kM:∀f:G,f<4->∀u v:E,Gn (BitVec.ofInt 32 (hdN f u v:I)) 2 2=f/\Gn (BitVec.ofInt 32 (hdN f u v:I)) 1 1=(if u then 1 else 0)/\Gn (BitVec.ofInt 32 (hdN f u v:I)) 0 1=(if v then 1 else 0):=by decide +kernel
def rg(x:I):Prop:=0<=x/\x<16
inductive aP:I->I->I->I->I->E->Prop
 |reg {o a b c:I} {u:E}:0<o->o<12->rg a->rg b->rg c->(u=H->8<=o/\o<=10)->aP 1 o a b c u
 |mov {a c:I}:rg a->rg c->aP 1 0 a 0 c Y
 |imm {o a b:I} {u:E}:0<o->o<12->rg a->rg b->(u=H->8<=o/\o<=10)->aP 2 o a b 0 u
 |movi {a:I} {u:E}:rg a->aP 2 0 a 0 0 u
 |hi {a:I}:rg a->aP 3 0 a 0 0 Y
 |fl {a:I}:rg a->aP 4 0 a 0 0 Y
 |mem {o a b:I}:0<=o->o<4->rg a->rg b->aP 5 o a b 0 Y
 |br {o c:I} {u:E}:rg o->rg c->aP 6 o 0 0 c u
 |jmp {o:I} {u:E}:rg o->aP 7 o 0 0 0 u
theorem Av{o a b c:I}{u:E}(ho:rg o)(ha:rg a)(hb:rg b)(hc:rg c)(hu:u=H->o≠0):bu (aG 1 o a b c 0 u)=(1,o,a,b,c,0,u,()):=by
 obtain⟨h1,h2,h3⟩:=kM 0 (by decide) u Y;generalize hW:aG 1 o a b c 0 u=W;unfold aG dm at hW;rw[S rfl] at hW;simp only[fC] at hW;have w1:Gn W 30 2=0:=by grind [ay,bv]
 have w2:Gn W 29 1=if u then 1 else 0:=by grind [ay,bv]
 have w3:Gn W 24 4=a:=by rw[<- hW,ay _ _ (by decide) (by decide) (by decide),ay _ _ (by decide) (by decide) (by decide),ay _ _ (by decide) (by decide) (by decide),fV _ (by decide) ha]
 have w4:Gn W 20 4=b:=by rw[<- hW,ay _ _ (by decide) (by decide) (by decide),ay _ _ (by decide) (by decide) (by decide),fV _ (by decide) hb]
 have w5:Gn W 16 4=o:=by rw[<- hW,ay _ _ (by decide) (by decide) (by decide),fV _ (by decide) ho]
 have w6:Gn W 0 4=c:=by rw[<- hW,fV _ (by decide) hc]
 simp_all [bu]
theorem Au{o a b:I}{u:E}(ho:rg o)(ha:rg a)(hb:rg b):bu (aG 2 o a b 0 0 u)=(2,o,a,b,0,0,u,()):=by
 obtain⟨h1,h2,h3⟩:=kM 1 (by decide) u Y;generalize hW:aG 2 o a b 0 0 u=W;unfold aG dm at hW;rw[Z (by decide),Z (by decide),S rfl] at hW;simp only[fC] at hW;rw[show N ((0:I)<0)=Y from rfl] at hW;have w1:Gn W 30 2=1:=by grind [ay,bv]
 have w2:Gn W 29 1=if u then 1 else 0:=by grind [ay,bv]
 have w7:Gn W 28 1=0:=by grind [ay,bv]
 have w3:Gn W 24 4=a:=by rw[<- hW,ay _ _ (by decide) (by decide) (by decide),ay _ _ (by decide) (by decide) (by decide),ay _ _ (by decide) (by decide) (by decide),fV _ (by decide) ha]
 have w4:Gn W 20 4=b:=by rw[<- hW,ay _ _ (by decide) (by decide) (by decide),ay _ _ (by decide) (by decide) (by decide),fV _ (by decide) hb]
 have w5:Gn W 16 4=o:=by rw[<- hW,ay _ _ (by decide) (by decide) (by decide),fV _ (by decide) ho]
 have w6:Gn W 0 16=0:=by rw[<- hW,yR _ (by decide) (by decide)]
 unfold bu
 grind
theorem Di{k a:I}(hk:k=3\/k=4)(ha:rg a):bu (aG k 0 a 0 0 0 Y)=(k,0,a,0,0,0,Y,()):=by
 obtain⟨h1,h2,h3⟩:=kM 0 (by decide) H (N (k=4));generalize hW:aG k 0 a 0 0 0 Y=W;unfold aG dm at hW;rw[Z (by omega),S hk] at hW;simp only[fC] at hW;have w1:Gn W 30 2=0:=by grind [ay,bv]
 have w2:Gn W 29 1=1:=by grind [ay,bv]
 have w7:Gn W 28 1=if N (k=4) then 1 else 0:=by grind [ay,bv]
 have w3:Gn W 24 4=a:=by rw[<- hW,fV _ (by decide) ha]
 have w5:Gn W 16 4=0:=by grind [ay,KT]
 unfold bu
 grind
theorem Jz{o a b:I}(ho:0<=o/\o<4)(ha:rg a)(hb:rg b):bu (aG 5 o a b 0 0 Y)=(5,o,a,b,0,0,Y,()):=by
 obtain⟨h1,h2,h3⟩:=kM 2 (by decide) (N (2<=o)) (N (Int.tmod o 2=1));generalize hW:aG 5 o a b 0 0 Y=W;unfold aG dm at hW;rw[Z (by decide),Z (by decide),Z (by decide),S rfl] at hW;simp only[fC] at hW;have w1:Gn W 30 2=2:=by grind [ay,bv]
 have w2:Gn W 29 1=if N (2<=o) then 1 else 0:=by grind [ay,bv]
 have w7:Gn W 28 1=if N (Int.tmod o 2=1) then 1 else 0:=by grind [ay,bv]
 have w3:Gn W 24 4=a:=by rw[<- hW,ay _ _ (by decide) (by decide) (by decide),ay _ _ (by decide) (by decide) (by decide),fV _ (by decide) ha]
 have w4:Gn W 20 4=b:=by rw[<- hW,ay _ _ (by decide) (by decide) (by decide),fV _ (by decide) hb]
 have w6:sgV W 20=0:=Dn (by decide) (by
  rw[<- hW];have:=yR (x:=0) (a:=0) (n:=20) (cz (cz (cz 0 (BitVec.ofInt 32 ((hdN 2 (N (2<=o)) (N (Int.tmod o 2=1)):G):I)) 28 4) (BitVec.ofInt 32 a) 24 4) (BitVec.ofInt 32 b) 20 4) (by decide) (by decide);exact BitVec.eq_of_toNat_eq (by grind))
 have:o=0\/o=1\/o=2\/o=3:=by omega
 unfold bu
 grind
theorem LB{o c:I}{u:E}(ho:rg o)(hc:rg c):bu (aG 6 o 0 0 c 0 u)=(6,o,0,0,c,0,u,()):=by
 obtain⟨h1,h2,h3⟩:=kM 3 (by decide) Y u;generalize hW:aG 6 o 0 0 c 0 u=W;unfold aG dm at hW;rw[Z (by decide),Z (by decide),Z (by decide),Z (by decide),S rfl] at hW;simp only[fC] at hW;have w1:Gn W 30 2=3:=by grind [ay,bv]
 have w2:Gn W 29 1=0:=by grind [ay,bv]
 have w7:Gn W 28 1=if u then 1 else 0:=by grind [ay,bv]
 have w3:Gn W 24 4=o:=by rw[<- hW,ay _ _ (by decide) (by decide) (by decide),fV _ (by decide) ho]
 have w6:Gn W 0 4=c:=by rw[<- hW,fV _ (by decide) hc]
 unfold bu
 grind
theorem Jy{o:I}{u:E}(ho:rg o):bu (aG 7 o 0 0 0 0 u)=(7,o,0,0,0,0,u,()):=by
 obtain⟨h1,h2,h3⟩:=kM 3 (by decide) H u;generalize hW:aG 7 o 0 0 0 0 u=W;unfold aG dm at hW;rw[Z (by decide),Z (by decide),Z (by decide),Z (by decide),Z (by decide)] at hW;simp only[fC] at hW;have w1:Gn W 30 2=3:=by grind [ay,bv]
 have w2:Gn W 29 1=1:=by grind [ay,bv]
 have w7:Gn W 28 1=if u then 1 else 0:=by grind [ay,bv]
 have w3:Gn W 24 4=o:=by rw[<- hW,ay _ _ (by decide) (by decide) (by decide),fV _ (by decide) ho]
 have w6:sgV W 24=0:=Dn (by decide) (by
  rw[<- hW];have:=yR (x:=0) (a:=0) (n:=24) (cz (cz 0 (BitVec.ofInt 32 ((hdN 3 H u:G):I)) 28 4) (BitVec.ofInt 32 o) 24 4) (by decide) (by decide);exact BitVec.eq_of_toNat_eq (by grind))
 simp_all [bu]
theorem jd{k o a b c:I}{u:E}(h:aP k o a b c u):bu (aG k o a b c 0 u)=(k,o,a,b,c,0,u,()):=by
 have z:rg 0:=⟨by decide,by decide⟩
 cases h with
 |reg h1 h2 ha hb hc hu=>exact Av ⟨by omega,by omega⟩ ha hb hc (λ_=>by omega)
 |mov ha hc=>grind [Av]
 |imm h1 h2 ha hb hu=>exact Au ⟨by omega,by omega⟩ ha hb
 |movi ha=>exact Au z ha z
 |hi ha=>exact Di (.inl rfl) ha
 |fl ha=>exact Di (.inr rfl) ha
 |mem h1 h2 ha hb=>grind [Jz]
 |br ho hc=>exact LB ho hc
 |jmp ho=>exact Jy ho
theorem bQ(n l h:I):Zdb.g n l h=U (N (l<=n)&&N (n<=h),()):=by
 unfold Zdb.g Zdb.f
 grind
theorem lD{k o a b c:I}{u:E}(h:aP k o a b c u):1<=k/\k<=7/\0<=o/\o<=15:=by
 cases h<;>refine⟨by decide,by decide,?_,?_⟩<;>first|decide|omega|(rename_i h _;exact h.1)|(rename_i h _;have:=h.2;omega)|(rename_i h;exact h.1)|(rename_i h;have:=h.2;omega)
theorem zP{k o a b c:I}{u:E}(h:aP k o a b c u):Zap.g k o a b c 0 u=U (H,()):=by
 have hr:=jd h;have hk:=lD h;unfold Zap.g;generalize 1000+k.toNat+o.toNat+a.toNat+b.toNat+c.toNat+(0:I).toNat=n;unfold Zap.f;rw[bQ,NE];dsimp only;rw[decide_eq_true hk.1,decide_eq_true hk.2.1,S (by decide),bQ,NE];dsimp only;rw[decide_eq_true hk.2.2.1,decide_eq_true hk.2.2.2,S (by decide),jN,NE];dsimp only;rw[jM,NE,hr];dsimp only;rw[Z (by simp)];simp only[dt,df,Zap.j10,bQ,NE];cases h with
 |reg h1 h2 ha hb hc hu=>
  grind
 |mov ha hc=>rfl
 |imm h1 h2 ha hb hu=>
  grind
 |movi ha=>cases u<;>rfl
 |hi ha=>rfl
 |fl ha=>rfl
 |mem h1 h2 ha hb=>rfl
 |br ho hc=>rfl
 |jmp ho=>rfl
theorem Ce(W:W32):rg (bu W).2.2.1/\rg (bu W).2.2.2.1/\rg (bu W).2.2.2.2.1:=by
 have z:rg 0:=⟨by decide,by decide⟩
 have a:∀p,rg (Gn W p 4):=λp=>bF W p (n:=4) (by decide)
 grind [bu]
theorem xI(k o a b c i:I)(u:E):∃r,Zap.g k o a b c i u=U (r,())/\(r=H->(1<=k/\k<=7)/\rg a/\rg b/\rg c):=by
 unfold Zap.g;generalize 1000+k.toNat+o.toNat+a.toNat+b.toNat+c.toNat+i.toNat=n;unfold Zap.f;rw[bQ,NE];dsimp only;by_cases hk:1<=k/\k<=7
 case neg=>rw[Z (by simp;omega)];grind
 rw[S (by simp[hk]),bQ,NE];dsimp only;by_cases ho:0<=o/\o<=15
 case neg=>rw[Z (by simp;omega)];grind
 rw[S (by simp[ho]),jN,NE];dsimp only;rw[jM,NE];obtain⟨r1,r2,r3⟩:=Ce (aG k o a b c i u);generalize bu (aG k o a b c i u)=y at *;split;·grind
 ·rename_i he;simp only[Bool.not_eq_true',Bool.not_eq_false,NJ,NH] at he;have hg:(1<=k/\k<=7)/\rg a/\rg b/\rg c:=⟨hk,he.2.2.1 ▸ r1,he.2.2.2.1 ▸ r2,he.2.2.2.2.1 ▸ r3⟩
  simp only[dt,df,Zap.j10,bQ,NE]
  grind
end Rv
namespace Rv
open Go
theorem kN{k o a b c:I}{u:E}(h:aP k o a b c u):rg a/\rg b/\rg c:=by
 have z:rg 0:=⟨by decide,by decide⟩
 cases h<;>refine⟨?_,?_,?_⟩<;>assumption
theorem iq(x:I):Zcj.g x=U (N (0<=x/\x<16),()):=by
 unfold Zcj.g Zcj.f;by_cases h:0<=x;·rw[S (by simpa using h)];congr 2;rw[Bool.eq_iff_iff,NH,NH];omega
 ·rw[Z (by simpa using h),decide_eq_false (by omega)]
theorem xz(n:I)(h:n=20\/n=24):Zcc.g 0 n=U (H,()):=by rcases h with rfl|rfl<;>decide +kernel
def I0P(k o a b c:I)(u:E):Prop:=
 (k=1/\0<o/\o<12/\(u=H->8<=o/\o<=10))\/(k=1/\o=0/\b=0/\u=Y)\/(k=2/\0<o/\o<12/\c=0/\(u=H->8<=o/\o<=10))\/(k=2/\o=0/\b=0/\c=0) \/
 (k=3/\o=0/\b=0/\c=0/\u=Y)\/(k=4/\o=0/\b=0/\c=0/\u=Y)\/(k=5/\0<=o/\o<4/\c=0/\u=Y)\/(k=6/\0<=o/\o<16/\a=0/\b=0)\/(k=7/\0<=o/\o<16/\a=0/\b=0/\c=0)
instance (k o a b c:I) (u:E):Decidable (I0P k o a b c u):=by unfold I0P;infer_instance
theorem rZ{k o a b c:I}{u:E}(ha:rg a)(hb:rg b)(hc:rg c):aP k o a b c u↔I0P k o a b c u:=by
 constructor
 ·intro h;unfold I0P;cases h with
  |reg h1 h2 _ _ _ h3=>exact .inl ⟨rfl,h1,h2,h3⟩
  |mov _ _=>exact .inr (.inl ⟨rfl,rfl,rfl,rfl⟩)
  |imm h1 h2 _ _ h3=>exact .inr (.inr (.inl ⟨rfl,h1,h2,rfl,h3⟩))
  |movi _=>exact .inr (.inr (.inr (.inl ⟨rfl,rfl,rfl,rfl⟩)))
  |hi _=>exact .inr (.inr (.inr (.inr (.inl ⟨rfl,rfl,rfl,rfl,rfl⟩))))
  |fl _=>exact .inr (.inr (.inr (.inr (.inr (.inl ⟨rfl,rfl,rfl,rfl,rfl⟩)))))
  |mem h1 h2 _ _=>exact .inr (.inr (.inr (.inr (.inr (.inr (.inl ⟨rfl,h1,h2,rfl,rfl⟩))))))
  |br h _=>exact .inr (.inr (.inr (.inr (.inr (.inr (.inr (.inl ⟨rfl,h.1,h.2,rfl,rfl⟩)))))))
  |jmp h=>exact .inr (.inr (.inr (.inr (.inr (.inr (.inr (.inr ⟨rfl,h.1,h.2,rfl,rfl,rfl⟩)))))))
 ·intro h;unfold I0P at h;rcases h with⟨rfl,h1,h2,h3⟩|⟨rfl,rfl,rfl,rfl⟩|⟨rfl,h1,h2,rfl,h3⟩|⟨rfl,rfl,rfl,rfl⟩|⟨rfl,rfl,rfl,rfl,rfl⟩|⟨rfl,rfl,rfl,rfl,rfl⟩|⟨rfl,h1,h2,rfl,rfl⟩|⟨rfl,h1,h2,rfl,rfl⟩|⟨rfl,h1,h2,rfl,rfl,rfl⟩
  ·exact .reg h1 h2 ha hb hc h3
  ·exact .mov ha hc
  ·exact .imm h1 h2 ha hb h3
  ·exact .movi ha
  ·exact .hi ha
  ·exact .fl ha
  ·exact .mem h1 h2 ha hb
  ·exact .br ⟨h1,h2⟩ hc
  ·exact .jmp ⟨h1,h2⟩
set_option maxHeartbeats 2000000 in
theorem GH(k o a b c:I)(u:E):∃r,Zab.g k o a b c 0 u=U (r,())/\(r=H↔aP k o a b c u):=by
 unfold Zab.g;generalize 1000+k.toNat+o.toNat+a.toNat+b.toNat+c.toNat+(0:I).toNat=n;unfold Zab.f;rw[iq,iq,iq,NE,NE,NE];dsimp only;by_cases ha:rg a
 case neg=>rw[decide_eq_false (show ¬(0<=a/\a<16) from ha),Z (by decide)];exact⟨_,rfl,λh=>(by cases h),λh=>absurd (kN h).1 ha⟩
 by_cases hb:rg b
 case neg=>rw[decide_eq_true (show 0<=a/\a<16 from ha),decide_eq_false (show ¬(0<=b/\b<16) from hb),S (by decide),Z (by decide)];exact⟨_,rfl,λh=>(by cases h),λh=>absurd (kN h).2.1 hb⟩
 by_cases hc:rg c
 case neg=>rw[decide_eq_true (show 0<=a/\a<16 from ha),decide_eq_true (show 0<=b/\b<16 from hb),decide_eq_false (show ¬(0<=c/\c<16) from hc),S (by decide),S (by decide),S (by decide)];exact⟨_,rfl,λh=>(by cases h),λh=>absurd (kN h).2.2 hc⟩
 rw[decide_eq_true (show 0<=a/\a<16 from ha),decide_eq_true (show 0<=b/\b<16 from hb),decide_eq_true (show 0<=c/\c<16 from hc),S (by decide),S (by decide),Z (by decide)];have J:∀cr:E,(cr=H↔8<=o/\o<=10)->Zab.j5 n cr k o a b c 0 u k 0 a 0 0 0 Y=U (N (I0P k o a b c u),()):=by
  intro cr hcr;unfold Zab.j5 Zab.j23 Zab.j26 Zab.j25 Zab.j8 Zab.j13 Zab.j15 Zab.j21 Zab.j22;simp only[dt,df,iq,xz 20 (.inl rfl),xz 24 (.inr rfl),NE];have hcr':cr=Y->¬(8<=o/\o<=10):=λh g=>by rw[hcr.2 g] at h;cases h
  have hcr:=hcr.1;clear ha hb hc;have rest:k≠1->k≠2->k≠3->k≠4->k≠5->k≠6->k≠7->¬I0P k o a b c u:=λh1 h2 h3 h4 h5 h6 h7 g=>by unfold I0P at g;omega
  by_cases k12:k=1\/k=2
  ·rcases k12 with rfl|rfl
   ·simp only[↓reduceIte,Int.reduceEq];by_cases o1:o<0
    ·simp[I0P,o1];omega
    ·by_cases o2:11<o
     ·simp[I0P,o1,o2];omega
     ·by_cases o3:o=0
      ·subst o3;have:cr=Y:=by cases cr;rfl;have:=hcr rfl;omega
       subst this;cases u<;>simp[I0P]<;>omega
      ·cases cr
       ·have:=hcr' rfl;cases u<;>simp[I0P,o1,o2,o3]<;>omega
       ·have:=hcr rfl;cases u<;>simp[I0P,o1,o2,o3]<;>omega
   ·simp only[↓reduceIte,Int.reduceEq];by_cases o1:o<0
    ·simp[I0P,o1];omega
    ·by_cases o2:11<o
     ·simp[I0P,o1,o2];omega
     ·by_cases o3:o=0
      ·subst o3;have:cr=Y:=by cases cr;rfl;have:=hcr rfl;omega
       subst this;by_cases b0:b=0<;>by_cases c0:c=0<;>cases u<;>simp[I0P,b0,c0]<;>omega
      ·by_cases c0:c=0
       ·cases cr
        ·have:=hcr' rfl;cases u<;>simp[I0P,o1,o2,o3,c0]<;>omega
        ·have:=hcr rfl;cases u<;>simp[I0P,o1,o2,o3,c0]<;>omega
       ·cases cr<;>cases u<;>simp[I0P,o1,o2,o3,c0]<;>omega
  ·have k1:k≠1:=by omega
   have k2:k≠2:=by omega
   simp only[k1,k2,↓reduceIte];by_cases k3:k=3;·subst k3;by_cases o0:o=0<;>by_cases b0:b=0<;>by_cases c0:c=0<;>cases u<;>simp[I0P,o0,b0,c0,@eq_comm I 0 o,@eq_comm I 0 b,@eq_comm I 0 c]
   ·by_cases k4:k=4
    ·subst k4;by_cases o0:o=0<;>by_cases b0:b=0<;>by_cases c0:c=0<;>cases u<;>simp[I0P,o0,b0,c0,@eq_comm I 0 o,@eq_comm I 0 b,@eq_comm I 0 c]
    ·simp only[k3,k4,↓reduceIte];by_cases k5:k=5
     ·subst k5;by_cases o1:0<=o<;>by_cases o2:o<=3<;>by_cases c0:c=0<;>cases u<;>simp[I0P,o1,o2,c0]<;>omega
     ·simp only[k5,↓reduceIte];by_cases k6:k=6
      ·subst k6;by_cases a0:a=0<;>by_cases b0:b=0<;>simp[I0P,a0,b0]<;>omega
      ·simp only[k6,↓reduceIte];by_cases k7:k=7
       ·subst k7;by_cases o1:0<=o<;>by_cases o2:o<16<;>by_cases a0:a=0<;>by_cases b0:b=0<;>by_cases c0:c=0<;>simp[I0P,a0,b0,c0,o1,o2]<;>omega
       ·simp only[k7,↓reduceIte];rw[decide_eq_false (rest k1 k2 k3 k4 k5 k6 k7)]
 have fin:∀cr:E,(cr=H↔8<=o/\o<=10)->∃r,Zab.j5 n cr k o a b c 0 u k 0 a 0 0 0 Y=U (r,())/\(r=H↔aP k o a b c u):=λcr h=>⟨_,J cr h,by rw[NH];exact(rZ ha hb hc).symm⟩
 by_cases h8:8<=o;·rw[S (by simpa using h8)];exact fin _ ⟨λh=>⟨h8,of_decide_eq_true h⟩,λh=>decide_eq_true h.2⟩
 ·rw[Z (by simpa using h8)];exact fin _ ⟨λh=>(by cases h),λh=>absurd h.1 h8⟩
end Rv
namespace Rv
open Go
def bD(k o i:I)(u:E):Prop:=
 (k=2/\-65536<=i/\i<=65535/\(o=0->u=H->0<=i))\/(k=5/\-524288<=i/\i<=524287)\/(k=7/\-8388608<=i/\i<=8388607)\/(k≠2/\k≠5/\k≠7/\i=0)
instance (k o i:I) (u:E):Decidable (bD k o i u):=by unfold bD;infer_instance
theorem rY(W:W32){n:G}(hn:n<=32):(dn W 0 n).toNat=W.toNat % 2 ^ n:=by
 refine Nat.eq_of_testBit_eq λj=>?_
 rw[Nat.testBit_mod_two_pow];by_cases hj:j<32
 ·have:=dK W (a:=0) hn hj
  grind
 ·have h1:(dn W 0 n).toNat.testBit j=Y:=BitVec.getLsbD_of_ge _ _ (by omega)
  grind
theorem uZ(W:W32)(i:I){n:G}(hn:n<=32):Gn (cz W (BitVec.ofInt 32 i) 0 n) 0 n=i % 2 ^ n:=by
 unfold Gn;rw[uY W _ (by omega) (NL _) (NL _),Nat.sub_self,rY _ hn,BitVec.toNat_ofInt];have e:((2 ^ n:G):I)=2 ^ n:=by grind
 have e2:((2 ^ 32:G):I)=2 ^ 32:=rfl;rw[Int.natCast_emod,Int.toNat_of_nonneg (Int.emod_nonneg _ (by decide)),e];refine Int.emod_emod_of_dvd i ?_;obtain⟨d,hd⟩:=Nat.exists_eq_add_of_le hn;simp_all [Int.pow_add]
theorem JS(W:W32):sgV W 20=if Gn W 0 20<524288 then Gn W 0 20 else Gn W 0 20-1048576:=by
 unfold sgV Gn
 grind [rY,Nat.shiftLeft_eq,IntKind.wrap_i32,IntKind.wrap_i64]
theorem JU(W:W32):sgV W 24=if Gn W 0 24<8388608 then Gn W 0 24 else Gn W 0 24-16777216:=by
 unfold sgV Gn
 grind [rY,Nat.shiftLeft_eq,IntKind.wrap_i32,IntKind.wrap_i64]
theorem xX{o a b i:I}{u:E}(ho:rg o)(ha:rg a)(hb:rg b)(hi:-65536<=i/\i<=65535):bu (aG 2 o a b 0 i u)=(2,o,a,b,0,i,u,()):=by
 obtain⟨h1,h2,h3⟩:=kM 1 (by decide) u (N (i<0));generalize hW:aG 2 o a b 0 i u=W;unfold aG dm at hW;rw[Z (by decide),Z (by decide),S rfl] at hW;simp only[fC] at hW;have w1:Gn W 30 2=1:=by grind [ay,bv]
 have w2:Gn W 29 1=if u then 1 else 0:=by grind [ay,bv]
 have w7:Gn W 28 1=if N (i<0) then 1 else 0:=by grind [ay,bv]
 have w3:Gn W 24 4=a:=by rw[<- hW,ay _ _ (by decide) (by decide) (by decide),ay _ _ (by decide) (by decide) (by decide),ay _ _ (by decide) (by decide) (by decide),fV _ (by decide) ha]
 have w4:Gn W 20 4=b:=by rw[<- hW,ay _ _ (by decide) (by decide) (by decide),ay _ _ (by decide) (by decide) (by decide),fV _ (by decide) hb]
 have w5:Gn W 16 4=o:=by rw[<- hW,ay _ _ (by decide) (by decide) (by decide),fV _ (by decide) ho]
 have w6:Gn W 0 16=i % 65536:=by grind [uZ]
 unfold bu
 grind
theorem GG{o a b i:I}(ho:0<=o/\o<4)(ha:rg a)(hb:rg b)(hi:-524288<=i/\i<=524287):bu (aG 5 o a b 0 i Y)=(5,o,a,b,0,i,Y,()):=by
 obtain⟨h1,h2,h3⟩:=kM 2 (by decide) (N (2<=o)) (N (Int.tmod o 2=1));generalize hW:aG 5 o a b 0 i Y=W;unfold aG dm at hW;rw[Z (by decide),Z (by decide),Z (by decide),S rfl] at hW;simp only[fC] at hW;have w1:Gn W 30 2=2:=by grind [ay,bv]
 have w2:Gn W 29 1=if N (2<=o) then 1 else 0:=by grind [ay,bv]
 have w7:Gn W 28 1=if N (Int.tmod o 2=1) then 1 else 0:=by grind [ay,bv]
 have w3:Gn W 24 4=a:=by rw[<- hW,ay _ _ (by decide) (by decide) (by decide),ay _ _ (by decide) (by decide) (by decide),fV _ (by decide) ha]
 have w4:Gn W 20 4=b:=by rw[<- hW,ay _ _ (by decide) (by decide) (by decide),fV _ (by decide) hb]
 have w6:sgV W 20=i:=by
  have e:Gn W 0 20=i % 1048576:=by grind [uZ]
  grind [JS]
 have:o=0\/o=1\/o=2\/o=3:=by omega
 unfold bu
 grind
theorem GD{o i:I}{u:E}(ho:rg o)(hi:-8388608<=i/\i<=8388607):bu (aG 7 o 0 0 0 i u)=(7,o,0,0,0,i,u,()):=by
 obtain⟨h1,h2,h3⟩:=kM 3 (by decide) H u;generalize hW:aG 7 o 0 0 0 i u=W;unfold aG dm at hW;rw[Z (by decide),Z (by decide),Z (by decide),Z (by decide),Z (by decide)] at hW;simp only[fC] at hW;have w1:Gn W 30 2=3:=by grind [ay,bv]
 have w2:Gn W 29 1=1:=by grind [ay,bv]
 have w7:Gn W 28 1=if u then 1 else 0:=by grind [ay,bv]
 have w3:Gn W 24 4=o:=by rw[<- hW,ay _ _ (by decide) (by decide) (by decide),fV _ (by decide) ho]
 have w6:sgV W 24=i:=by
  have e:Gn W 0 24=i % 16777216:=by grind [uZ]
  grind [JU]
 simp_all [bu]
theorem EG{k o a b c i:I}{u:E}(h:aP k o a b c u)(hi:bD k o i u):bu (aG k o a b c i u)=(k,o,a,b,c,i,u,()):=by
 have z:rg 0:=⟨by decide,by decide⟩
 unfold bD at hi;have i0:k≠2->k≠5->k≠7->i=0:=λh2 h5 h7=>by
  grind
 have hg:=h;cases h with
 |imm h1 h2 ha hb hu=>exact xX ⟨by omega,by omega⟩ ha hb (by omega)
 |movi ha=>grind [xX]
 |mem h1 h2 ha hb=>grind [GG]
 |jmp ho=>grind [GD]
 |reg h1 h2 ha hb hc hu=>grind [jd]
 |mov ha hc=>grind [jd]
 |hi ha=>grind [jd]
 |fl ha=>grind [jd]
 |br ho hc=>grind [jd]
theorem F4{k o a b c i:I}{u:E}(h:aP k o a b c u)(hi:bD k o i u):Zap.g k o a b c i u=U (H,()):=by
 have hr:=EG h hi;have hk:=lD h;unfold Zap.g;generalize 1000+k.toNat+o.toNat+a.toNat+b.toNat+c.toNat+i.toNat=n;unfold Zap.f;rw[bQ,NE];dsimp only;rw[decide_eq_true hk.1,decide_eq_true hk.2.1,S (by decide),bQ,NE];dsimp only;rw[decide_eq_true hk.2.2.1,decide_eq_true hk.2.2.2,S (by decide),jN,NE];dsimp only;rw[jM,NE,hr];dsimp only;rw[Z (by simp)];simp only[dt,df,Zap.j10,bQ,NE];have i0:k=1->i=0:=λh1=>by grind [bD]
 cases h with
 |reg h1 h2 ha hb hc hu=>
  grind
 |mov ha hc=>grind
 |imm h1 h2 ha hb hu=>
  grind
 |movi ha=>
  grind [bD]
 |hi ha=>rfl
 |fl ha=>rfl
 |mem h1 h2 ha hb=>rfl
 |br ho hc=>rfl
 |jmp ho=>rfl
theorem xH{k o a b c i:I}{u:E}(h:Zap.g k o a b c i u=U (H,())):aP k o a b c u/\bD k o i u:=by
 unfold Zap.g at h;generalize 1000+k.toNat+o.toNat+a.toNat+b.toNat+c.toNat+i.toNat=n at h;unfold Zap.f at h;rw[bQ,NE] at h;dsimp only at h;by_cases hk:1<=k/\k<=7
 case neg=>grind
 rw[S (by simp[hk]),bQ,NE] at h;dsimp only at h;by_cases ho:0<=o/\o<=15
 case neg=>grind
 rw[S (by simp[ho]),jN,NE] at h;dsimp only at h;rw[jM,NE] at h;have s20:=JS (aG k o a b c i u);have s24:=JU (aG k o a b c i u);have r20:=bF (aG k o a b c i u) 0 (n:=20) (by decide);have r24:=bF (aG k o a b c i u) 0 (n:=24) (by decide);have r16:=bF (aG k o a b c i u) 0 (n:=16) (by decide);generalize hW:aG k o a b c i u=W at h s20 s24 r20 r24 r16;have g4:∀p,rg (Gn W p 4):=λp=>bF W p (n:=4) (by decide)
 have g1:∀p,0<=Gn W p 1/\Gn W p 1<2:=λp=>bF W p (n:=1) (by decide)
 split at h;·cases h
 ·rename_i he;simp only[Bool.not_eq_true',Bool.not_eq_false,NJ,NH,beq_iff_eq,and_true] at he;obtain⟨e1,e2,e3,e4,e5,e6,e7⟩:=he;simp only[dt,df,Zap.j10,bQ,NE] at h;unfold bu at e1 e2 e3 e4 e5 e6 e7;split at e1
  ·rename_i f0;rw[S f0] at e2 e3 e4 e5 e6 e7;split at e1
   ·rename_i f1;rw[S f1] at e2 e3 e4 e5 e6 e7;dsimp only at e1 e2 e3 e4 e5 e6 e7;have:=g1 28;subst e2 e4 e5 e7;have hk3:k=3\/k=4:=by omega
    rcases hk3 with rfl|rfl;·exact⟨.hi (e3 ▸ g4 _),.inr (.inr (.inr ⟨by decide,by decide,by decide,e6⟩))⟩
    ·exact⟨.fl (e3 ▸ g4 _),.inr (.inr (.inr ⟨by decide,by decide,by decide,e6⟩))⟩
   ·rename_i f1;rw[Z f1] at e2 e3 e4 e5 e6 e7;dsimp only at e1 e2 e3 e4 e5 e6 e7;subst e1;rw[S rfl,S rfl] at h;by_cases ho0:o=0
    ·subst ho0;rw[S rfl] at h;by_cases hb0:b=0
     ·subst hb0;rw[S rfl,S (by decide)] at h;cases u with
      |false=>exact⟨.mov (e3 ▸ g4 _) (e5 ▸ g4 _),.inr (.inr (.inr ⟨by decide,by decide,by decide,e6⟩))⟩
      |true=>grind
     grind
    ·rw[Z ho0] at h;by_cases h11:11<o
     ·grind
     ·rw[Z h11] at h;refine⟨.reg (by omega) (by omega) (e3 ▸ g4 _) (e4 ▸ g4 _) (e5 ▸ g4 _) λhu=>?_,.inr (.inr (.inr ⟨by decide,by decide,by decide,e6⟩))⟩
      grind
  ·rename_i f0;rw[Z f0] at e2 e3 e4 e5 e6 e7;split at e1
   ·rename_i f1;rw[S f1] at e2 e3 e4 e5 e6 e7;dsimp only at e1 e2 e3 e4 e5 e6 e7;subst e1 e5;rw[Z (by decide),S rfl] at h;by_cases ho0:o=0
    ·subst ho0;rw[S rfl] at h;by_cases hb0:b=0
     ·subst hb0;exact⟨.movi (e3 ▸ g4 _),.inl ⟨rfl,by grind,by grind,λ_ hu=>by grind⟩⟩
     grind
    ·rw[Z ho0] at h;by_cases h11:11<o
     ·grind
     ·rw[Z h11] at h;refine⟨.imm (by omega) (by omega) (e3 ▸ g4 _) (e4 ▸ g4 _) λhu=>?_,.inl ⟨rfl,by grind,by grind,λh0=>absurd h0 ho0⟩⟩
      grind
   ·rename_i f1;rw[Z f1] at e2 e3 e4 e5 e6 e7;split at e1
    ·rename_i f2;rw[S f2] at e2 e3 e4 e5 e6 e7;dsimp only at e1 e2 e3 e4 e5 e6 e7;have q1:=g1 29;have q2:=g1 28;subst e1 e5 e7;exact⟨.mem (by omega) (by omega) (e3 ▸ g4 _) (e4 ▸ g4 _),.inr (.inl ⟨rfl,by grind,by grind⟩)⟩
    ·rename_i f2;rw[Z f2] at e2 e3 e4 e5 e6 e7;split at e1
     ·rename_i f3;rw[S f3] at e2 e3 e4 e5 e6 e7;dsimp only at e1 e2 e3 e4 e5 e6 e7;subst e1 e3 e4 e5;exact⟨.jmp (e2 ▸ g4 _),.inr (.inr (.inl ⟨rfl,by grind,by grind⟩))⟩
     ·rename_i f3;rw[Z f3] at e2 e3 e4 e5 e6 e7;dsimp only at e1 e2 e3 e4 e5 e6 e7;subst e1 e3 e4;exact⟨.br (e2 ▸ g4 _) (e5 ▸ g4 _),.inr (.inr (.inr ⟨by decide,by decide,by decide,e6⟩))⟩
end Rv
namespace Rv
open Go
theorem Mj(x:I):ai .and .i64 x 15=x % 16:=by
 have e:ai .and .i64 x 15=zaa.wrap ((BitVec.ofInt 64 x &&& BitVec.ofInt 64 15).toNat:I):=rfl;have e2:(BitVec.ofInt 64 15).toNat=2 ^ 4-1:=by decide
 rw[e,BitVec.toNat_and,e2,Nat.and_two_pow_sub_one_eq_mod,BitVec.toNat_ofInt,w64 (by omega)];omega
def qJ:Str:=[48,49,50,51,52,53,54,55,56,57,65,66,67,68,69,70]
def nmD(a:I)(k:G):I:=bt qJ (a.fdiv (2 ^ k) % 16)
def nmR(a:I):Str:=bytesOf [95,nmD a 12,nmD a 8,nmD a 4,nmD a 0]
theorem oN(n m:G)(a:I)(b:M I)(k:G)(hk:k<=12)(hb:b.length<=100):Zbd.l3 n (m+1) a b (k:I)=Zbd.l3 n m a (b++[nmD a k]) ((k:I)-4):=by
 rw[Zbd.l3];have e:min ((k:I)).toNat zaa.bits=k:=by
  rw[NM];exact Nat.min_eq_left (Og hk (by decide))
 have h16:0<=a.fdiv (2 ^ k) % 16/\a.fdiv (2 ^ k) % 16<16:=⟨Int.emod_nonneg _ (by decide),Int.emod_lt_of_pos _ (by decide)⟩
 rw[S (by simp),Z (by omega),e,Mj,S ⟨h16.1,h16.2⟩,S (by simp;omega),w64 (by omega)];rfl
theorem FK(a:I):Zbd.g a=U (nmR a,()):=by
 unfold Zbd.g Zbd.f;obtain⟨m,hm⟩:∃m,1000+a.toNat=m+5:=⟨995+a.toNat,by omega⟩
 rw[hm];rw[show(12:I)=((12:G):I) from rfl,oN _ (m+4) a _ 12 (by decide) (by decide)];rw[show((12:G):I)-4=((8:G):I) from rfl,oN _ (m+3) a _ 8 (by decide) (by simp)];rw[show((8:G):I)-4=((4:G):I) from rfl,oN _ (m+2) a _ 4 (by decide) (by simp)];rw[show((4:G):I)-4=((0:G):I) from rfl,oN _ (m+1) a _ 0 (by decide) (by simp)];rw[Zbd.l3,Z (by decide)];rfl
theorem qB(a:I):Zde.g a=U ([((2:I),0,nmR a,())],()):=by
 unfold Zde.g Zde.f;rw[FK,NE]
def gm(a:I):M It:=if a<0 then[((1:I),C.wrap (-a),[],()),((3:I),0,[],())] else[((1:I),C.wrap a,[],())]
theorem uq(a:I):0<(gm a).length/\(gm a).length<=2:=by grind [gm]
theorem KL{v:I}(h:0<=v/\v<=4294967295):gm v=[((1:I),v,[],())]:=by
 unfold gm;rw[Z (by omega),IntKind.wrap_u32,show v % 4294967296=v by omega]
theorem wz{a:I}(h:-9223372036854775808<a/\a<=9223372036854775807):disasm_number.g a=U (gm a,()):=by
 unfold disasm_number.g gm;obtain⟨m,hm⟩:∃m,1000+a.toNat=m+2:=⟨998+a.toNat,by omega⟩
 rw[hm];show disasm_number.f (1000+a.toNat) (bA (m+1)) a=_;unfold disasm_number.f;by_cases hn:a<0
 ·rw[S (by simpa using hn),S hn,w64 (by omega)];have e:(bA (m+1)).disasm_number (0-a)=U ([((1:I),C.wrap (0-a),[],())],()):=by
   show disasm_number.f (1000+(0-a).toNat) (bA m) (0-a)=_;unfold disasm_number.f
   grind
  grind
 grind
theorem zM(n:G)(a:M I)(b:I)(hl:a.length<=9223372036854775806):∀(m i:G),i<=a.length->a.length-i<m->∃y,Zcq.l2 n m a b (a.length:I) (i:I)=U (y,())/\(0<=y↔b∈a.drop i)
 |0,i,_,h=>by omega
 |m+1,i,hi,h=>by
  rw[Zcq.l2];by_cases hlt:i<a.length
  ·rw[S (by simp;omega),S ⟨by omega,by omega⟩];have hd:a.drop i=a.getD i 0::a.drop (i+1):=by
    simp_all
   rw[NM];by_cases he:b=a.getD i 0
   ·rw[S (by simpa using he)]
    grind
   ·rw[Z (by simpa using he),w64 (by omega)];obtain⟨y,h1,h2⟩:=zM n a b hl m (i+1) (by omega) (by omega)
    grind
  simp_all [Z,List.drop_eq_nil_of_le]
theorem zu{a:M I}(hl:a.length<=9223372036854775806)(b:I):Zda.g a b=U (N (b∈a),()):=by
 unfold Zda.g Zda.f Zcq.g Zcq.f;obtain⟨y,h1,h2⟩:=zM (1000+a.length+b.toNat) a b hl (1000+a.length+b.toNat) 0 (Nat.zero_le _) (by omega)
 grind
abbrev Nk:=I×I×I×I×I×I×E×E×zab
def fT(v:I):Nk:=(Zbt.g v).getD (0,0,0,0,0,0,Y,Y,())
theorem kw{v:I}(h:0<=v/\v<=4294967295):Zbt.g v=U (fT v)/\(fT v=(0,0,0,0,0,0,Y,Y,())\/∃k o a b c i u,fT v=(k,o,a,b,c,i,u,H,())/\aP k o a b c u/\bD k o i u/\v=((aG k o a b c i u).toNat:I)):=by
 have key:∃r,Zbt.g v=U r/\(r=(0,0,0,0,0,0,Y,Y,())\/∃k o a b c i u,r=(k,o,a,b,c,i,u,H,())/\aP k o a b c u/\bD k o i u/\v=((aG k o a b c i u).toNat:I)):=by
  obtain⟨W,rfl⟩:∃W:W32,v=(W.toNat:I):=⟨BitVec.ofInt 32 v,by rw[BitVec.toNat_ofInt];omega⟩
  unfold Zbt.g Zbt.f;rw[jM,NE];obtain⟨k,o,a,b,c,i,u,z⟩:=bu W;dsimp only;obtain⟨r,hr,_⟩:=xI k o a b c i u;rw[hr,NE];cases r with
  |false=>grind
  |true=>
   dsimp only;rw[S (by decide),jN,NE];obtain⟨g1,g2⟩:=xH hr
   grind
 grind [fT]
def bY(ws ss:M I)(i:G):I×E×zab:=
 if i<ws.length/\(i:I) ∉ ss/\(fT (ws.getD i 0)).2.2.2.2.2.2.2.1=H/\(fT (ws.getD i 0)).1=7/\0<=(i:I)+1+(fT (ws.getD i 0)).2.2.2.2.2.1/\(i:I)+1+(fT (ws.getD i 0)).2.2.2.2.2.1<=ws.length then(4*((i:I)+1+(fT (ws.getD i 0)).2.2.2.2.2.1),H,()) else(0,Y,())
structure oo (ws ss:M I):Prop where
 w:ws.length<=100000
 s:ss.length<=100000
 u:∀x∈ws,0<=x/\x<=4294967295
theorem oo.at{ws ss:M I}(h:oo ws ss){i:G}(hi:i<ws.length):0<=ws.getD i 0/\ws.getD i 0<=4294967295:=by
 rw[NN,NQ hi];exact h.u _ (Oo hi)
theorem mf{v:I}(h:0<=v/\v<=4294967295):-9000000<=(fT v).2.2.2.2.2.1/\(fT v).2.2.2.2.2.1<=9000000:=by
 rcases(kw h).2 with e|⟨k,o,a,b,c,i,u,e,_,hi,_⟩;·rw[e];decide
 grind [bD]
theorem zx{ws ss:M I}(h:oo ws ss)(ys:M (Str×I×zab))(i:G)(hi:i<=9223372036854775800):Zcl.g ws ss ys (i:I)=U (bY ws ss i):=by
 unfold Zcl.g Zcl.f bY;have hss:=h.s;have hws:=h.w;rw[S (by simp)];by_cases hlt:i<ws.length
 ·rw[S (by simp;omega),zu (by omega),NE];dsimp only;by_cases hm:(i:I)∈ss
  ·grind
  ·rw[Z (by simpa using hm),S ⟨by omega,by omega⟩,NM,(kw (h.at hlt)).1,NE];have hsm:=mf (h.at hlt);generalize fT (ws.getD i 0)=r at hsm⊢;obtain⟨k,o,a,b,c,j,u,okk,z⟩:=r;dsimp only at hsm⊢;rw[w64 (x:=(i:I)+1) (by omega),w64 (x:=(i:I)+1+j) (by omega),w64 (x:=4*((i:I)+1+j)) (by omega),w64 (x:=4*(ws.length:I)) (by omega)]
   grind
 grind
def stN(k:I)(e:M It):Sn:=(k,0,0,0,0,Y,e,[],())
def nmE(a:I):M It:=[((2:I),0,nmR a,())]
def jm(ws ss:M I)(i:G):Sn:=
 if ws.length<=i then stN 0 [] else
 if(i:I)∈ss then stN 9 (if ws.getD i 0 % 4=0 then nmE (ws.getD i 0) else nmE 0++gm (ws.getD i 0)++[((4:I),0,[],())]) else
 let x:=fT (ws.getD i 0)
 if x.2.2.2.2.2.2.2.1=Y then stN 9 (gm (ws.getD i 0)) else
 if x.1=7 then(if(bY ws ss i).2.1=H then(x.1,x.2.1,x.2.2.1,x.2.2.2.1,x.2.2.2.2.1,x.2.2.2.2.2.2.1,nmE (bY ws ss i).1,[],()) else stN 9 (gm (ws.getD i 0))) else
 (x.1,x.2.1,x.2.2.1,x.2.2.2.1,x.2.2.2.2.1,x.2.2.2.2.2.2.1,(if x.1=2\/x.1=5 then gm x.2.2.2.2.2.1 else[]),[],())
theorem zy{ws ss:M I}(h:oo ws ss)(ys:M (Str×I×zab))(i:G)(hi:i<=9223372036854775800):Zal.g ws ss ys (i:I)=U (jm ws ss i):=by
 unfold Zal.g Zal.f jm;have hss:=h.s;have hws:=h.w;rw[S (by simp)];by_cases hge:ws.length<=i;·rw[S (by simp;omega),S hge];rfl
 ·have hlt:i<ws.length:=by omega
  have hat:=h.at hlt;rw[Z (by simp;omega),Z hge,S ⟨by omega,by omega⟩,NM,w64 (by omega),wz (by omega),NE,zu (by omega),NE];dsimp only;by_cases hm:(i:I)∈ss
  ·rw[S (by simpa using hm),S hm,qB,NE];by_cases h4:ws.getD i 0 % 4=0
   ·have ht:Int.tmod (ws.getD i 0) 4=0:=by grind
    rw[Z (by simpa using ht),S h4];rfl
   ·have ht:¬Int.tmod (ws.getD i 0) 4=0:=by grind
    have hn:=uq (ws.getD i 0);rw[S (by simpa using ht),Z h4,qB,NE,NE];dsimp only;generalize gm (ws.getD i 0)=z at hn⊢;rw[S (by simp;omega),S (by simp;omega)];rfl
  ·rw[Z (by simpa using hm),Z hm,S ⟨by omega,by omega⟩,(kw hat).1,NE,zx h ys i hi];have hsm:=mf hat
   generalize fT (ws.getD i 0)=r at hsm⊢;obtain⟨k,o,a,b,c,j,u,okk,z⟩:=r;dsimp only at hsm⊢;cases okk with
   |false=>rw[S (by decide),S rfl];rfl
   |true=>
    rw[Z (show ¬((!H)=H) by decide),Z (show ¬(H=Y) by decide)];by_cases hk:k=7
    ·rw[S (by simpa using hk),S hk,NE];generalize bY ws ss i=q;obtain⟨dst,iz,zz⟩:=q;dsimp only;cases iz with
     |false=>rw[S (by decide),Z (by decide)];rfl
     |true=>rw[Z (by decide),S rfl,qB,NE];rfl
    ·rw[Z (by simpa using hk),Z hk];by_cases h2:k=2
     ·rw[S (by simpa using h2),S (by simpa using h2),wz (by omega),NE,S (.inl h2)];rfl
     ·rw[Z (by simpa using h2)];by_cases h5:k=5
      ·rw[S (by simpa using h5),wz (by omega),NE,S (.inr h5)];rfl
      ·rw[Z (by simpa using h5),Z (by omega)];rfl
end Rv
namespace Rv
open Go
def isL(b:UInt8):E:=N (65<=b.toNat/\b.toNat<=90\/97<=b.toNat/\b.toNat<=122\/b.toNat=95)
def isD(b:UInt8):E:=N (48<=b.toNat/\b.toNat<=57)
def isW(b:UInt8):E:=isL b||isD b
def vX(s:Str):Str:=s.takeWhile isW
theorem Du{p:Prop}[Decidable p](h:p):U (H,())=U (decide p,()):=by simp[h]
theorem Dr{p:Prop}[Decidable p](h:¬p):U (Y,())=U (decide p,()):=by simp[h]
theorem Dt{p q:Prop}[Decidable p][Decidable q](h:p↔q):U (decide p,())=U (decide q,()):=by simp[h]
def D5(b:UInt8):zac G:=
 if 48<=b.toNat/\b.toNat<=57 then U (b.toNat-48) else if 97<=b.toNat/\b.toNat<=122 then U (b.toNat-87) else if 65<=b.toNat/\b.toNat<=90 then U (b.toNat-55) else D
def kY(base:G):G->Str->zac G
 |n,[]=>U n
 |n,c::r=>match D5 c with
  |some d=>if d<base then(if n*base+d<4294967296 then kY base (n*base+d) r else D) else D
  |none=>D
theorem vC{base:G}:∀{s:Str}{v w:G},v<4294967296->kY base v s=U w->w<4294967296
 |[],_,_,hv,h=>by grind [kY]
 |c::r,v,w,hv,h=>by
  simp only[kY] at h;split at h
  ·split at h
   ·split at h
    ·exact vC (by assumption) h
    ·cases h
   ·cases h
  ·cases h
def num(s:Str):zac G:=
 if([48,120]:Str).isPrefixOf s then(if s.drop 2=[] then D else kY 16 0 (s.drop 2)) else if s=[] then D else kY 10 0 s
theorem MH{s:Str}{v:G}(h:num s=U v):v<4294967296:=by
 unfold num at h;split at h<;>split at h<;>first|(cases h;done)|exact vC (by omega) h
abbrev Tok:=I×I×Str×I×zab
def isS(c:UInt8):E:=([44,58,43,45,42,40,41,61]:Str).contains c
def yX(c:UInt8)(r:Str):Except I (G×I×Str×I):=
 if isL c then .ok (0,1,vX (c::r),0)
 else if isD c then match num (vX (c::r)) with
  |some v=>.ok (0,2,vX (c::r),v)
  |none=>.error 21
 else if c=46/\(∃d∈r.head?,isL d) then .ok (1,4,vX r,0)
 else if isS c then .ok (0,3,[c],0)
 else .error 20
def iD(k:I):Str->Except I (M Tok)
 |[]=>.ok []
 |c::r=>
  if c=59 then .ok []
  else if c=32\/c=9 then iD (k+1) r
  else match yX c r with
   | .error e=>.error e
   | .ok (d,q,t,v)=>match iD (k+d+t.length) (r.drop (d+t.length-1)) with
    | .error e=>.error e
    | .ok l=>.ok ((q,k,t,v,())::l)
termination_by s=>s.length
decreasing_by
 all_goals simp
 all_goals omega
theorem Gf(k:I):iD k []=.ok []:=by rw[iD]
theorem Er(k:I)(c:UInt8)(r:Str):iD k (c::r)=if c=59 then .ok [] else if c=32\/c=9 then iD (k+1) r else match yX c r with
   | .error e=>.error e
   | .ok (d,q,t,v)=>match iD (k+d+t.length) (r.drop (d+t.length-1)) with
    | .error e=>.error e
    | .ok l=>.ok ((q,k,t,v,())::l):=by rw[iD]
def si(out:M Tok):Except I (M Tok)->M Tok×I×zab
 | .ok l=>(out++l,0,())
 | .error e=>([],e,())
end Rv
namespace Rv
open Go
def shift(j:I)(t:Tok):Tok:=(t.1,t.2.1+j,t.2.2)
end Rv
namespace Rv
open Go
end Rv
namespace Rv
open Go
end Rv
namespace Rv
open Go
end Rv
namespace Rv
open Go
def gK(s:Str):E:=N (s.getD 0 0=82)&&(N (s.length=2)||N (s.length=3))&&(s.drop 1).all isD
def aF(s:Str):E:=N (s≠[])&&N (s.length<=12)&&!isD (s.getD 0 0)&&s.all isW&&!gK s
def Ei(b:I):E:=
 if ai .or .u8 b 32<97\/122<ai .or .u8 b 32\/b<65 then N (b=95)||(!N (b<48)&&!N (57<b)) else H
theorem I7:((List.range 256).all λk=>Ei k == isW (UInt8.ofNat k))=H:=by decide +kernel
theorem K3(b:UInt8):Ei b.toNat=isW b:=by
 have h:=Oa.1 I7 b.toNat (by simp;exact b.toNat_lt)
 simpa using h
theorem Gt(p:Prop):p=True\/p=False:=(Classical.em p).imp eq_true eq_false
theorem El(s:Str)(n m:G)(i:G)(h1:i<s.length)(X:zac (E×zab))(hX:Zag.j9 n (Zag.l4 n m) s (s.length:I) (i:I)=X) :
  Zag.l4 n (m+1) s (s.length:I) (i:I)=if Ei (bt s i)=H then X else U (Y,()):=by
 have hc:(0:I)<=i/\(i:I)<s.length:=by omega
 have hc2:(i:I)<s.length:=hc.2;simp only[Zag.l4,dt,df,hX,Ei];by_cases a1:ai .or .u8 (bt s i) 32<97<;>by_cases a2:122<ai .or .u8 (bt s i) 32<;>by_cases a3:bt s i<65<;>rcases Gt (bt s i=95) with a4|a4<;>by_cases a5:bt s i<48<;>by_cases a6:57<bt s i<;>
  simp only[hc,hc2,a1,a2,a3,a4,a5,a6,if_true,if_false,not_true_eq_false,not_false_eq_true,ne_eq,true_or,or_true,or_false,false_or,or_self,and_self,true_and,decide_true,decide_false,Bool.true_or,Bool.false_or,Bool.not_true,Bool.not_false,Bool.and_true,Bool.and_false,Bool.false_and,Bool.true_and,Bool.or_self,Bool.or_false,Bool.or_true,Bool.false_eq_true]
theorem Ej(s:Str)(hs:s.length<=12)(n:G):∀(m i:G),i<=s.length->s.length-i<m ->
  Zag.l4 n m s (s.length:I) (i:I)=if(s.drop i).all isW=H then Zag.l4 n 1 s (s.length:I) (s.length:I) else U (Y,()):=by
 intro m
 induction m with
 |zero=>intro i _ h;omega
 |succ m ih=>
  intro i hi hm;by_cases h1:i<s.length
  ·have hnext:Zag.j9 n (Zag.l4 n m) s (s.length:I) (i:I)=if(s.drop (i+1)).all isW=H then Zag.l4 n 1 s (s.length:I) (s.length:I) else U (Y,()):=by
    unfold Zag.j9;rw[w64 (by omega),show(i:I)+1=((i+1:G):I) by omega];exact ih (i+1) (by omega) (by omega)
   rw[El s n m i h1 _ hnext,uL,K3,mg h1,Oy];cases hw:isW (s.getD i 0);·rfl
   ·rw[S rfl,Bool.true_and]
  ·have hi':i=s.length:=by omega
   subst hi';rw[OG,List.all_nil,S rfl];have hlt:¬((s.length:I)<s.length):=by omega
   simp only[Zag.l4,dt,hlt,if_false]
theorem FE(b:UInt8):L.isDig b=isD b:=by simp[L.isDig,isD]
theorem nG{p:UInt8->E}:∀{l:Str}{a:UInt8}{r:Str},l.dropWhile p=a::r->p a=Y
 |[],_,_,h=>by simp at h
 |b::l,a,r,h=>by
  rw[List.dropWhile_cons] at h;cases hb:p b;·rw[hb] at h;simp only[Bool.false_eq_true,if_false,List.cons.injEq] at h;rw[<- h.1];exact hb
  ·rw[hb] at h;exact nG (l:=l) (by simpa using h)
theorem Bq(s:Str):(L.trimDig s=[])=(s.all isD=H):=by
 have gen:∀l:Str,(l.dropWhile L.isDig=[])↔l.all isD=H:=λl=>by
  induction l with
  |nil=>simp
  |cons a l ih=>
   simp only[List.dropWhile_cons,Oy,FE];cases h:isD a;·simp
   ·simp[ih]
 unfold L.trimDig;apply propext;rw[gen];constructor
 ·intro h;have h0:(s.reverse.dropWhile L.isDig)=[]:=by
   cases hr:s.reverse.dropWhile L.isDig with
   |nil=>rfl
   |cons a r=>
    exfalso;rw[hr] at h;have ha:isD a=H:=Oa.1 h a (by simp);rw[<- FE,nG hr] at ha;cases ha
  rw[gen] at h0;simpa using h0
 ·intro h;have h0:s.reverse.dropWhile L.isDig=[]:=(gen _).2 (by simpa using h);rw[h0];rfl
theorem zU(s:Str):Zag.g s=U (aF s,()):=by
 unfold Zag.g Zag.f;simp only[dt,df];by_cases h0:s=[]
 ·subst h0;rw[Z (by simp)];rfl
 ·rw[S h0];have hl0:0<s.length:=List.length_pos_iff.2 h0;by_cases h12:s.length<=12
  ·rw[S (by omega),S (by omega)];have hj:¬isD (s.getD 0 0)=H->Zag.j3 (1000+s.length) s=U (aF s,()):=λhd=>by
    unfold Zag.j3;have:=Ej s h12 (1000+s.length) (1000+s.length) 0 (by omega) (by omega);rw[Om] at this;rw[show((0:G):I)=0 from rfl] at this;rw[this];by_cases hw:s.all isW=H
    ·rw[S hw];simp only[Zag.l4,dt,df,uL];rw[Z (by omega),S (by omega)];have hbt:bt s 0=((s.getD 0 0).toNat:I):=rfl;simp only[hbt];have h82:(((s.getD 0 0).toNat:I)=82)=(s.getD 0 0=82):=kV _ 82 (by omega);simp only[h82];have htake:(s.take (s.length:I).toNat).drop (1:I).toNat=s.drop 1:=by
      rw[show(s.length:I).toNat=s.length by omega,List.take_length];rfl
     have htrim:s.length<=3->L.trimO ((s.take (s.length:I).toNat).drop (1:I).toNat) [48,49,50,51,52,53,54,55,56,57]=U (L.trimDig (s.drop 1),()):=λh=>by
      rw[htake];unfold L.trimO;rw[S ⟨rfl,by simp;omega⟩]
     have hL:aF s=!gK s:=by
      unfold aF;rw[decide_eq_true (show s≠[] from h0),decide_eq_true h12,show isD (s.getD 0 0)=Y by simpa using hd,hw];rfl
     have hT:N (L.trimDig (s.drop 1)=[])=(s.drop 1).all isD:=by
      rw[Bool.eq_iff_iff,NH,Bq]
     rw[hL];unfold gK;by_cases hR:s.getD 0 0=82
     ·rw[S hR,decide_eq_true hR];by_cases h2:s.length=2
      ·rw[Z (by omega),S (by omega),htrim (by omega),NE,decide_eq_true h2];dsimp only;rw[hT];rfl
      ·rw[S (by omega),decide_eq_false h2];by_cases h3:s.length=3
       ·rw[S (by omega),S (by omega),htrim (by omega),NE,decide_eq_true h3];dsimp only;rw[hT];rfl
       ·rw[Z (by omega),decide_eq_false h3];rfl
     ·rw[Z hR,decide_eq_false hR];rfl
    ·rw[Z hw];simp[aF,hw]
   have hbt:bt s 0=((s.getD 0 0).toNat:I):=rfl;simp only[hbt];by_cases h48:(48:I)<=(s.getD 0 0).toNat
   ·rw[S h48,S (by omega)];by_cases h57:((s.getD 0 0).toNat:I)<=57
    ·rw[S h57];have hd:isD (s.getD 0 0)=H:=by unfold isD;rw[NH];omega
     unfold aF;rw[hd,decide_eq_true (show s≠[] from h0),decide_eq_true h12];rfl
    ·rw[Z h57];exact hj (by unfold isD;rw[NH];omega)
   ·rw[Z h48];exact hj (by unfold isD;rw[NH];omega)
  ·rw[Z (by omega)];simp[aF,h12]
end Rv
namespace Rv
open Go
abbrev Item:=I×I×Str×zab
def aJ(x:Item):I×E:=
 if x.1=1 then(0,N (x.2.2.1=[]))
 else if x.1=2 then(0,N (x.2.1=0)&&aF x.2.2.1)
 else if x.1=3 then(1,N (x.2.1=0)&&N (x.2.2.1=[]))
 else if x.1=4\/x.1=5\/x.1=6 then(2,N (x.2.1=0)&&N (x.2.2.1=[]))
 else(0,Y)
theorem lJ(a b:I)(c:Str):Zbv.g a b c=U ((aJ (a,b,c,())).1,(aJ (a,b,c,())).2,()):=by
 unfold Zbv.g Zbv.f;simp only[Zbv.j2,dt,zU,NE];unfold aJ;dsimp only;rcases Gt (b=0) with hb|hb
 all_goals
  by_cases h1:a=1;·subst h1;simp only[hb,if_true,if_false,decide_true,decide_false]
  by_cases h2:a=2;·subst h2;simp only[hb,if_true,if_false,decide_true,decide_false,Bool.true_and,Bool.false_and,show ¬((2:I)=1) by decide]
  by_cases h3:a=3;·subst h3;simp only[hb,if_true,if_false,decide_true,decide_false,Bool.true_and,Bool.false_and,show ¬((3:I)=1) by decide,show ¬((3:I)=2) by decide]
  by_cases h4:a=4;·subst h4;simp only[hb,if_true,if_false,decide_true,decide_false,Bool.true_and,Bool.false_and,true_or,show ¬((4:I)=1) by decide,show ¬((4:I)=2) by decide,show ¬((4:I)=3) by decide]
  by_cases h5:a=5;·subst h5;simp only[hb,if_true,if_false,decide_true,decide_false,Bool.true_and,Bool.false_and,true_or,or_true,show ¬((5:I)=1) by decide,show ¬((5:I)=2) by decide,show ¬((5:I)=3) by decide,show ¬((5:I)=4) by decide]
  by_cases h6:a=6;·subst h6;simp only[hb,if_true,if_false,decide_true,decide_false,Bool.true_and,Bool.false_and,true_or,or_true,show ¬((6:I)=1) by decide,show ¬((6:I)=2) by decide,show ¬((6:I)=3) by decide,show ¬((6:I)=4) by decide,show ¬((6:I)=5) by decide]
  simp only[hb,h1,h2,h3,h4,h5,h6,if_true,if_false,or_self]
def jA:I->M Item->E
 |t,[]=>N (t=1)
 |t,x::r=>(aJ x).2&&(!N (t<(aJ x).1)&&jA (t+(1-(aJ x).1)) r)
def well(e:M Item):E:=jA 0 e&&N (e.length<=64)
theorem tq(x:Item):0<=(aJ x).1/\(aJ x).1<=2:=by
 unfold aJ;split;·simp
 ·split
  ·simp
  ·split
   ·simp
   ·split<;>simp
theorem HY(e:M Item)(he:e.length<=4611686018427387904)(n:G):∀(m i:G) (t:I),i<=e.length->e.length-i<m->0<=t->t<=i ->
  Zbg.l3 n m e t e (e.length:I) (i:I)=U (jA t (e.drop i)&&N (e.length<=64),()):=by
 intro m
 induction m with
 |zero=>intro i t _ h;omega
 |succ m ih=>
  intro i t hi hm h0 ht;by_cases h1:i<e.length
  ·have hx:e.drop i=e.getD i ((0:I),((0:I),(([]:Str),())))::e.drop (i+1):=by
    rw[Oe h1,NN,NQ h1];rfl
   rw[hx];simp only[Zbg.l3,dt,df,lJ,NE];rw[S (by omega),S (by omega),NM];generalize e.getD i ((0:I),((0:I),(([]:Str),())))=x;obtain⟨a,b,c,u⟩:=x;cases u;have hr:=tq (a,b,c,());simp only[jA];generalize aJ (a,b,c,())=y at *;obtain⟨k,ok⟩:=y;simp only at hr⊢;cases ok;·rfl
   ·rw[S (show(!H)=Y from rfl)];by_cases h2:t<k
    ·rw[S h2];simp[h2]
    ·rw[Z h2,w64 (x:=1-k) (by omega),w64 (x:=t+(1-k)) (by omega),w64 (x:=(i:I)+1) (by omega),show(i:I)+1=((i+1:G):I) by omega];rw[ih (i+1) (t+(1-k)) (by omega) (by omega) (by omega) (by omega)];simp[h2]
  ·have hi':i=e.length:=by omega
   subst hi';simp only[Zbg.l3,dt];rw[Z (by omega),OG];simp only[jA];by_cases h3:t=1;·rw[S h3];simp[h3];omega
   ·rw[Z h3];simp[h3]
theorem Dz(e:M Item)(he:e.length<=4611686018427387904):Zbg.g e=U (well e,()):=by
 unfold Zbg.g Zbg.f;exact HY e he _ _ 0 0 (by omega) (by omega) (by omega) (by omega)
end Rv
namespace Rv
open Go
abbrev Sym:=Str×I×zab
def yQ(s:Str):M Sym->zac I
 |[]=>D
 |x::r=>if x.1=s then U x.2.1 else yQ s r
end Rv
namespace Rv
open Go
abbrev Val:=I×I×zab
def Nh(labels:M Sym)(st:M Val)(x:Item):Except I (M Val):=
 if x.1=2 then match yQ x.2.2.1 labels with
  |some a=>.ok (st++[(C.wrap a,1,())])
  |none=>.error 25
 else if x.1=3 then match st.getLast? with
  |some v=>.ok (st.dropLast++[(C.wrap (0-v.1),zaa.wrap (0-v.2.1),())])
  |none=>.error 99
 else if x.1=4\/x.1=5\/x.1=6 then match st.getLast?,st.dropLast.getLast? with
  |some b,U a=>
   if x.1=4 then .ok (st.dropLast.dropLast++[(C.wrap (a.1+b.1),zaa.wrap (a.2.1+b.2.1),())])
   else if x.1=5 then .ok (st.dropLast.dropLast++[(C.wrap (a.1-b.1),zaa.wrap (a.2.1-b.2.1),())])
   else if a.2.1=0/\b.2.1=0 then .ok (st.dropLast.dropLast++[(C.wrap (a.1*b.1),0,())])
   else .error 27
  |_,_=>.error 99
 else .ok (st++[(x.2.1,0,())])
def MP(labels:M Sym):M Val->M Item->Except I (M Val)
 |st,[]=>.ok st
 |st,x::r=>match Nh labels st x with
  | .ok st=>MP labels st r
  | .error e=>.error e
end Rv
namespace Rv
open Go
def M9(st:M Val):zac (I×I×I×zab):=
 match st.getLast? with
 |some v=>U (v.1,v.2.1,0,())
 |none=>D
def ofR(labels:M Sym)(e:M Item):zac (I×I×I×zab):=
 if well e=H then(match MP labels [] e with
  | .error x=>U (0,0,x,())
  | .ok st=>M9 st)
 else U (0,0,23,())
end Rv
namespace Rv
open Go
def enough:I->M Item->zac I
 |t,[]=>U t
 |t,x::r=>if(aJ x).2=H/\¬t<(aJ x).1 then enough (t+(1-(aJ x).1)) r else D
theorem rW:∀(e:M Item) (t:I),(jA t e=H)=(enough t e=U 1)
 |[],t=>by simp[jA,enough]
 |x::r,t=>by
  simp only[jA,enough,NJ,Bool.not_eq_true',decide_eq_false_iff_not];by_cases h:(aJ x).2=H/\¬t<(aJ x).1;·rw[S h,<- rW r];simp[h.1,h.2]
  ·rw[Z h];apply propext;constructor
   ·intro h';exact absurd ⟨h'.1,h'.2.1⟩ h
   ·intro h';cases h'
theorem kK:∀(a b:M Item) (t:I),enough t (a++b)=(enough t a).bind λk=>enough k b
 |[],b,t=>rfl
 |x::a,b,t=>by
  simp only[List.cons_append,enough];split;·exact kK a b _
  ·rfl
def iK(e:M Item):Prop:=enough 0 e=U 1
theorem qD:∀(e:M Item) (t k j:I),0<=j->enough t e=U k->enough (t+j) e=U (k+j)
 |[],t,k,j,_,h=>by
  simp only[enough,ND] at h⊢;omega
 |x::e,t,k,j,hj,h=>by
  simp only[enough] at h⊢;split at h;·rename_i hc;rw[S ⟨hc.1,by omega⟩,show t+j+(1-(aJ x).1)=(t+(1-(aJ x).1))+j by omega];exact qD e _ k j hj h
  ·cases h
theorem sK{e:M Item}(h:iK e)(hl:e.length<=64):well e=H:=by
 unfold well;rw[NJ,NH,rW];exact⟨h,hl⟩
theorem Ka{a b:M Item}(ha:iK a)(hb:iK b)(x:Item)(hx:aJ x=(2,H)):iK (a++b++[x]):=by
 unfold iK at *;have h1:enough 1 b=U 2:=qD b 0 1 1 (by omega) hb;rw[kK,kK,ha,NE,h1,NE];simp[enough,hx]
theorem J9{a:M Item}(ha:iK a)(x:Item)(hx:aJ x=(1,H)):iK (a++[x]):=by
 unfold iK at *;rw[kK,ha,NE];simp[enough,hx]
end Rv
namespace Rv
open Go
end Rv
namespace Rv
open Go
end Rv
namespace Rv
open Go
end Rv
namespace Rv
open Go
end Rv
namespace Rv
open Go
end Rv
namespace Rv
open Go
def isA(b:UInt8):E:=N (65<=b.toNat/\b.toNat<=90\/97<=b.toNat/\b.toNat<=122)
theorem Ee(b:UInt8):isL b=(isA b||N (b.toNat=95)):=by
 unfold isL isA;rw[Bool.eq_iff_iff];simp only[NH,Bool.or_eq_true];omega
def bG(s:Str):E:=N (s≠[])&&N (s.length<=12)&&isA (s.getD 0 0)&&!gK s&&s.all isW
end Rv
namespace Rv
open Go
theorem tF(b:UInt8):Zdk.g (b.toNat:I)=U (isA b,()):=by
 unfold Zdk.g Zdk.f isA;simp only[dt,df]
 (repeat' split)<;>first|(refine Du ?_;omega)|(refine Dr ?_;omega)|(refine Dt ?_;omega)
theorem kT(b:UInt8):Zcr.g (b.toNat:I)=U (isD b,()):=by
 unfold Zcr.g Zcr.f isD;simp only[dt,df]
 (repeat' split)<;>first|(refine Du ?_;omega)|(refine Dr ?_;omega)|(refine Dt ?_;omega)
theorem Jw(s:Str):Zdu.g s=U (gK s,()):=by
 unfold Zdu.g Zdu.f gK;simp only[dt,df]
 match s with
 |[]=>rfl
 |[a]=>simp
 |[a,b]=>
  have ea:bt [a,b] 0=(a.toNat:I):=rfl;have eb:bt [a,b] 1=(b.toNat:I):=rfl;have e82:((a.toNat:I)=82)=(a=82):=kV a 82 (by decide);rw[S (by simp),S (by simp),S (by simp),ea,eb];simp only[ne_eq,e82];by_cases h:a=82;·rw[Z (by simpa using h),S (by simp),kT,NE];cases hb:isD b<;>simp[h,hb]
  ·rw[S h];simp[h]
 |[a,b,c]=>
  have ea:bt [a,b,c] 0=(a.toNat:I):=rfl;have eb:bt [a,b,c] 1=(b.toNat:I):=rfl;have ec:bt [a,b,c] 2=(c.toNat:I):=rfl;have e82:((a.toNat:I)=82)=(a=82):=kV a 82 (by decide);rw[S (by simp),S (by simp),S (by simp),ea,eb,ec];simp only[ne_eq,e82];by_cases h:a=82;·rw[Z (by simpa using h),S (by simp),kT,kT,NE];cases hb:isD b<;>simp[h,hb]
  ·rw[S h];simp[h]
 |a::b::c::d::r=>
  rw[S (by simp;omega),Z (by simp;omega)];simp
theorem Cb(s:Str)(hs:s.length<=1000000)(n:G):∀(m k:G),k<=s.length->s.length-k<m->Zat.l4 n m s (k:I)=U ((s.drop k).all isW,()):=by
 intro m
 induction m with
 |zero=>intro k _ h;omega
 |succ m ih=>
  intro k hk hm;rw[Zat.l4];simp only[dt,Zat.j5];by_cases h:k<s.length
  ·have step:=ih (k+1) (by omega) (by omega);have e1:zaa.wrap ((k:I)+1)=((k+1:G):I):=by rw[w64 (by omega)];omega
   rw[S (by omega),S (by omega),uL,tF,kT,NE,NE,e1,step,mg h,Oy];have e95:(((s.getD k 0).toNat:I)≠95)=¬(s.getD k 0).toNat=95:=by apply propext;constructor<;>intro h<;>omega
   simp only[e95];unfold isW;rw[Ee];generalize s.getD k 0=b;cases hA:isA b
   ·cases hD:isD b
    ·rw[S (by simp),S (by omega),S (by simp),S (by omega)];by_cases h5:b.toNat=95
     ·rw[Z (by simpa using h5)];simp[h5]
     ·rw[S h5];simp[h5]
    ·rw[S (by simp),S (by omega),Z (by simp)];simp
   ·rw[Z (by simp)];simp
  ·have:k=s.length:=by omega
   subst this;rw[Z (by omega),OG];rfl
theorem kE(s:Str)(hs:s.length<=1000000):Zat.g s=U (bG s,()):=by
 unfold Zat.g Zat.f bG;simp only[dt,df];cases s with
 |nil=>rw[Z (by simp)];simp
 |cons c r=>
  rw[S (by simp;omega)];by_cases h12:(c::r).length<=12;·have e0:bt (c::r) 0=(c.toNat:I):=rfl;have hl:=Cb (c::r) hs (1000+(c::r).length) (1000+(c::r).length) 0 (by omega) (by omega);rw[Om,show((0:G):I)=0 from rfl] at hl;rw[S (by omega),S (by simp),e0,tF,Jw,NE,NE,hl];have hg:(c::r).getD 0 0=c:=rfl;rw[hg,decide_eq_true h12];cases isA c<;>cases gK (c::r)<;>simp
  ·rw[Z (by omega),decide_eq_false h12];simp
theorem xY(s:Str)(hs:s.length<=100000):Zby.g s=U (aF s,()):=by
 unfold Zby.g Zby.f;simp only[dt,Zby.j3];cases s with
 |nil=>rw[Z (by simp),kE [] (by simp)];rfl
 |cons c r=>
  have e0:bt (c::r) 0=(c.toNat:I):=rfl;have e95:((c.toNat:I)=95)=(c=95):=kV c 95 (by decide);rw[S (by simp),S (by simp),e0];simp only[e95];by_cases h:c=95
  ·rw[S h,S (by simp;omega),S (by simp at hs⊢;omega)];have ed:(((c::r).take (((c::r).length:I)).toNat).drop ((1:I)).toNat)=r:=by rw[NM,List.take_length];rfl
   rw[ed,kE _ (by simp at hs⊢;omega),NE];subst h;unfold bG aF gK;have h1:isA 97=H:=by decide
   have h2:isW 97=H:=by decide
   have h3:isD 95=Y:=by decide
   have h4:isW 95=H:=by decide
   simp[h1,h2,h3,h4]
  ·rw[Z h,kE _ (by omega),NE];unfold bG aF;have hg:(c::r).getD 0 0=c:=rfl;rw[hg];have hc:(isA c&&(isW c&&r.all isW))=(!isD c&&(isW c&&r.all isW)):=by
    have h95:c.toNat≠95:=λe=>h (UInt8.toNat_inj.1 (by simpa using e))
    unfold isW;rw[Ee,decide_eq_false h95];have hex:isA c=H->isD c=Y:=λhA=>by
     unfold isA at hA;unfold isD;simp only[NH] at hA;rw[decide_eq_false_iff_not];omega
    cases hA:isA c;·cases hD:isD c<;>simp
    ·simp[hex hA]
   rw[Oy];generalize gK (c::r)=x;generalize (isW c&&r.all isW)=y at hc⊢;generalize N ((c::r).length<=12)=z;generalize N (c::r≠[])=t;revert hc;cases isA c<;>cases isD c<;>cases x<;>cases y<;>cases z<;>cases t<;>simp
end Rv
namespace Rv
open Go
theorem GK(x:Item)(hx:x.2.2.1.length<=100000):Zdv.g x.1 x.2.1 x.2.2.1=U (if(aJ x).2=H then(aJ x).1 else -1,()):=by
 obtain⟨a,b,c,u⟩:=x;cases u;unfold Zdv.g Zdv.f aJ;simp only at hx;simp only[dt,df,xY c hx,NE];by_cases h1:a=1;·rw[S h1,S h1];by_cases hc:c=[]<;>simp[hc]
 ·rw[Z h1,Z h1];by_cases h2:a=2
  ·rw[S h2,S h2];by_cases hb:b=0
   ·cases hl:aF c<;>simp[hb,hl]
   ·simp[hb]
  ·rw[Z h2,Z h2];by_cases h3:a=3
   ·rw[S h3];by_cases hb:b=0<;>by_cases hc:c=[]<;>simp[hb,hc,h3]
   ·rw[Z h3];by_cases h4:a=4\/a=5\/a=6
    ·rw[S h4];have g1:4<=a:=by omega
     have g2:a<=6:=by omega
     by_cases hb:b=0<;>by_cases hc:c=[]<;>simp[hb,hc,h3,g1,g2]
    ·rw[Z h4];by_cases hb:b=0
     ·by_cases hc:c=[]
      ·by_cases g1:4<=a
       ·have g2:¬a<=6:=by omega
        simp[hb,hc,h3,g1,g2]
       ·simp[hb,hc,h3,g1]
      ·simp[hb,hc,h3]
     ·simp[hb,h3]
theorem ER(e:M Item)(he:e.length<=100000)(hn:∀x∈e,x.2.2.1.length<=100000)(n:G):∀(m i:G) (t:I),i<=e.length->e.length-i<m->0<=t->t<=i ->
  Zbi.l3 n m e t (i:I)=U (jA t (e.drop i)&&N (e.length<=64),()):=by
 intro m
 induction m with
 |zero=>intro i t _ h;omega
 |succ m ih=>
  intro i t hi hm h0 ht;rw[Zbi.l3];simp only[dt,df,NM];by_cases h1:i<e.length
  ·have hx:e.drop i=e.getD i ((0:I),((0:I),(([]:Str),())))::e.drop (i+1):=by
    rw[Oe h1,NN,NQ h1];rfl
   have hmem:e.getD i ((0:I),((0:I),(([]:Str),())))∈e:=by
    rw[NN,NQ h1];exact Oo h1
   have hnx:=hn _ hmem;rw[hx,S (by omega),S (by omega)];generalize e.getD i ((0:I),((0:I),(([]:Str),())))=x at hnx⊢;rw[GK x hnx,NE];have hr:=tq x;simp only[jA];generalize aJ x=y at *;obtain⟨k,ok⟩:=y;simp only at hr⊢;cases ok;·rw[Z (by simp),Bool.false_and];simp
   ·rw[S rfl,S (by omega)];by_cases h2:t<k
    ·rw[S h2];simp[h2]
    ·rw[Z h2,w64 (x:=t-k) (by omega),w64 (x:=t-k+1) (by omega),w64 (x:=(i:I)+1) (by omega),show(i:I)+1=((i+1:G):I) by omega,show t-k+1=t+(1-k) by omega];rw[ih (i+1) (t+(1-k)) (by omega) (by omega) (by omega) (by omega)];simp[h2]
  ·have hi':i=e.length:=by omega
   subst hi';rw[Z (by omega),OG];simp only[jA];by_cases h3:t=1;·rw[S h3];simp[h3];omega
   ·rw[Z h3];simp[h3]
theorem AX(e:M Item)(he:e.length<=100000)(hn:∀x∈e,x.2.2.1.length<=100000):Zbi.g e=U (well e,()):=by
 unfold Zbi.g Zbi.f;exact ER e he hn _ _ 0 0 (by omega) (by omega) (by omega) (by omega)
end Rv
namespace Rv
open Go
end Rv
namespace Rv
open Go
def uf(x:Item):Prop:=0<=x.2.1/\x.2.1<=4294967295/\(aJ x).2=H
end Rv
namespace Rv
open Go
end Rv
namespace Rv
open Go
end Rv
namespace Rv
open Go
end Rv
namespace Rv
open Go
end Rv
namespace Rv
open Go
end Rv
namespace Rv
open Go
end Rv
namespace Rv
open Go
def yU(p:M I×I)(s:I):M I×I:=(p.1.set s.toNat (p.1.getD s.toNat 0*65536+p.2),s+1)
def stP(ws ss:M I)(i:G):M I×I:=(ss.take i).foldl yU (ws,0)
def mF(ws ss:M I):M I×I:=ss.foldl yU (ws,0)
theorem LX(ws ss:M I):stP ws ss ss.length=mF ws ss:=by unfold stP mF;rw[List.take_length]
theorem MU{ss:M I}{i:G}(h:i<ss.length):ss.take (i+1)=ss.take i++[ss.getD i 0]:=by
 rw[List.take_succ,NN,NQ h];rfl
theorem Bg{ws ss:M I}{i:G}(h:i<ss.length):stP ws ss (i+1)=yU (stP ws ss i) (ss.getD i 0):=by
 unfold stP;rw[MU h,List.foldl_append];rfl
theorem Ll(a k i:G)(h:a<2 ^ i)(hs:2 ^ i*k+a<4294967296):ai .or .u32 ((2 ^ i*k:G):I) (a:I)=((2 ^ i*k+a:G):I):=by
 have ha:(BitVec.ofNat 32 a).toNat=a:=by rw[BitVec.toNat_ofNat];omega
 have hk:(BitVec.ofNat 32 (2 ^ i*k)).toNat=2 ^ i*k:=by rw[BitVec.toNat_ofNat];exact Nat.mod_eq_of_lt (by omega)
 have:=fE (BitVec.ofNat 32 (2 ^ i*k)) (BitVec.ofNat 32 a);rw[BitVec.toNat_or,ha,hk,<- Nat.two_pow_add_eq_or_of_lt h] at this;exact this
structure OkS (ws ss:M I):Prop where
 lw:ws.length<=1024
 wr:∀x∈ws,0<=x/\x<=4294967295
 lt:∀i j,i<j->j<ss.length->ss.getD i 0<ss.getD j 0
 at_:∀i,i<ss.length->0<=ss.getD i 0/\ss.getD i 0<(ws.length:I)
 low:∀i,i<ss.length->ws.getD (ss.getD i 0).toNat 0<=65535
section
variable{ws ss:M I}(O:OkS ws ss)
include O
theorem OkS.len:ss.length<=1024:=by
 have key:∀i,i<ss.length->(i:I)<=ss.getD i 0:=by
  intro i
  induction i with
  |zero=>intro h;have:=(O.at_ 0 h).1;omega
  |succ i ih=>intro h;have:=ih (by omega);have:=O.lt i (i+1) (by omega) h;omega
 have hl:=O.lw;rcases Nat.lt_or_ge 1024 ss.length with h|h;·have:=key 1024 h;have:=(O.at_ 1024 h).2;omega
 ·exact h
theorem Js:∀i,i<=ss.length->(stP ws ss i).1.length=ws.length/\(∀j,i<=j->j<ss.length->(stP ws ss i).1.getD (ss.getD j 0).toNat 0=ws.getD (ss.getD j 0).toNat 0) /\
  0<=(stP ws ss i).2/\(stP ws ss i).2<=1024/\(∀j,i<=j->j<ss.length->(stP ws ss i).2<=ss.getD j 0)/\∀x∈(stP ws ss i).1,0<=x/\x<=4294967295:=by
 intro i
 induction i with
 |zero=>
  intro _;refine⟨rfl,λ_ _ _=>rfl,Int.le_refl _,by show(0:I)<=1024;decide,λj _ hj=>(O.at_ j hj).1,O.wr⟩
 |succ i ih=>
  intro h;obtain⟨h1,h2,h3,h4,h5,h6⟩:=ih (by omega);have hs:=O.at_ i (by omega);have hlow:=O.low i (by omega);have hlw:=O.lw;have e:=h2 i (NL _) (by omega);rw[Bg (by omega)];generalize hq:stP ws ss i=q at h1 h2 h3 h4 h5 h6 e;obtain⟨o,hd⟩:=q;dsimp only at h1 h2 h3 h4 h5 h6 e;have hpos:0<=o.getD (ss.getD i 0).toNat 0:=by
   rw[NN,NQ (by omega)];exact(h6 _ (Oo _)).1
  unfold yU;dsimp only;refine⟨by rw[List.length_set];exact h1,λj hj hj2=>?_,by omega,by omega,λj hj hj2=>?_,λx hx=>?_⟩
  ·have hlt:=O.lt i j (by omega) hj2;rw[NN,List.getElem?_set_ne (by omega),<- NN];exact h2 j (by omega) hj2
  ·have:=O.lt i j (by omega) hj2;omega
  ·rcases List.mem_or_eq_of_mem_set hx with hx|rfl
   ·exact h6 x hx
   ·omega
theorem Jt(n:G):∀(m i:G),i<=ss.length->ss.length-i<m->Zar.l12 n m (stP ws ss i).1 (stP ws ss i).2 ss (ss.length:I) (i:I)=U ((mF ws ss).1,(mF ws ss).2,0,()):=by
 intro m
 induction m with
 |zero=>intro i _ h;omega
 |succ m ih=>
  intro i hi hm;have hl:=O.len;rw[Zar.l12];simp only[dt,NM];by_cases h:i<ss.length
  ·obtain⟨h1,h2,h3,h4,h5,h6⟩:=Js O i hi;have hs:=O.at_ i h;have hlow:=O.low i h;have e:=h2 i (NL _) h;have ih:=ih (i+1) (by omega) (by omega);rw[Bg h] at ih;have hlw:=O.lw;generalize hq:stP ws ss i=q at h1 h2 h3 h4 h5 h6 e ih;obtain⟨o,hd⟩:=q;dsimp only at h1 h2 h3 h4 h5 h6 e ih⊢;have hpos:0<=o.getD (ss.getD i 0).toNat 0:=by
    rw[NN,NQ (by omega)];exact(h6 _ (Oo _)).1
   have hr:0<=ss.getD i 0/\ss.getD i 0<(o.length:I):=by omega
   have hv:ai .or .u32 (C.wrap (o.getD (ss.getD i 0).toNat 0*2 ^ (min (16:I).toNat C.bits))) (C.wrap hd)=o.getD (ss.getD i 0).toNat 0*65536+hd:=by
    have e16:(2:I) ^ (min (16:I).toNat C.bits)=65536:=by decide
    rw[e16,e];rw[e] at hpos;generalize ws.getD (ss.getD i 0).toNat 0=y at hpos hlow;obtain⟨y,rfl⟩:=Int.eq_ofNat_of_zero_le hpos;obtain⟨d,rfl⟩:=Int.eq_ofNat_of_zero_le h3;have a1:C.wrap ((y:I)*65536)=((2 ^ 16*y:G):I):=by rw[IntKind.wrap_u32];omega
    have a2:C.wrap (d:I)=(d:I):=by rw[IntKind.wrap_u32];omega
    rw[a1,a2,Ll _ _ 16 (by omega) (by omega)];omega
   rw[S (by omega),S (by omega),S hr,Z (by omega),S hr,S hr,hv,w64 (by omega),w64 (by omega),show(i:I)+1=((i+1:G):I) by omega];exact ih
  ·obtain rfl:i=ss.length:=by omega
   rw[Z (by omega),LX]
theorem Lr(n:G)(hn:ss.length<n):∀(m i:G) (c:I),i<=ss.length->ss.length-i<m->(∀j,i<=j->j<ss.length->c<ss.getD j 0)->Zar.l3 n m ws ss c ss (ss.length:I) (i:I)=U ((mF ws ss).1,(mF ws ss).2,0,()):=by
 intro m
 induction m with
 |zero=>intro i _ _ h;omega
 |succ m ih=>
  intro i c hi hm hc;have hl:=O.len;have hlw:=O.lw;rw[Zar.l3];simp only[dt,df,NM];by_cases h:i<ss.length;·have hs:=O.at_ i h;have h0:=hc i (NL _) h;rw[S (by omega),S (by omega),S (by omega),S (by omega),Z (by omega),w64 (by omega),show(i:I)+1=((i+1:G):I) by omega];exact ih (i+1) _ (by omega) (by omega) λj hj hj2=>O.lt i j (by omega) hj2
  ·rw[Z (by omega)];unfold L.cloneO;rw[S (by omega),NE];exact Jt O n n 0 (by omega) (by omega)
theorem Lm:Zar.g ws ss=U ((mF ws ss).1,(mF ws ss).2,0,()):=by
 unfold Zar.g;generalize hn:1000+ws.length+ss.length=n;unfold Zar.f;exact Lr O n (by omega) n 0 (-1) (by omega) (by omega) λj _ hj=>by have:=(O.at_ j hj).1;omega
end
end Rv
namespace Rv
open Go
theorem Jb:((List.range 256).all λk=>N (Zbu.g (k:I) H=U (isA (UInt8.ofNat k),()))&&N (Zbu.g (k:I) Y=U (isW (UInt8.ofNat k),())))=H:=by decide +kernel
theorem CJ(b:UInt8)(f:E):Zbu.g (b.toNat:I) f=U (if f then isA b else isW b,()):=by
 have h:=Oa.1 Jb b.toNat (by simp;exact b.toNat_lt)
 simp at h;cases f;·exact h.2
 ·exact h.1
theorem BK(s:Str)(hs:s.length<=12)(n:G):∀(m i:G),1<=i->i<=s.length->s.length-i<m ->
  Zav.l4 n m s (s.length:I) (i:I)=if(s.drop i).all isW=H then Zav.l4 n 1 s (s.length:I) (s.length:I) else U (Y,()):=by
 intro m
 induction m with
 |zero=>intro i _ _ h;omega
 |succ m ih=>
  intro i h0 hi hm;by_cases h1:i<s.length;·rw[Zav.l4,S (by simp;omega),S (by omega),uL,CJ,NE,mg h1,Oy];dsimp only;rw[Z (show ¬N ((i:I)=0)=H by simp;omega),w64 (by omega),show(i:I)+1=((i+1:G):I) by omega,ih (i+1) (by omega) (by omega) (by omega)];cases isW (s.getD i 0)<;>simp
  ·have hi':i=s.length:=by omega
   subst hi';rw[OG,List.all_nil,S rfl];have hlt:¬((s.length:I)<s.length):=by omega
   simp only[Zav.l4,dt,hlt,if_false]
theorem qN(s:Str):Zav.g s=U (bG s,()):=by
 unfold Zav.g Zav.f;simp only[dt,df];by_cases h0:s=[]
 ·subst h0;rw[Z (by simp)];rfl
 ·have hl0:0<s.length:=List.length_pos_iff.2 h0;rw[S (by omega)];by_cases h12:s.length<=12
  ·rw[Z (by omega)];obtain⟨m,hm⟩:∃m,1000+s.length=m+1:=⟨999+s.length,by omega⟩
   rw[show Zav.l4 (1000+s.length) (1000+s.length) s (s.length:I) 0=Zav.l4 (1000+s.length) (m+1) s (s.length:I) 0 by rw[hm],Zav.l4,S (by simp;omega),S (by omega)];have hb0:bt s 0=((s.getD 0 0).toNat:I):=rfl;rw[hb0,CJ,NE];dsimp only;have hdd:N ((0:I)=0)=H:=rfl;rw[hdd,S (show H=H from rfl),show zaa.wrap ((0:I)+1)=((1:G):I) from rfl,BK s h12 (1000+s.length) m 1 (by omega) (by omega) (by omega)];have hall:s.all isW=(isW (s.getD 0 0)&&(s.drop 1).all isW):=by
    have:=mg (s:=s) (k:=0) hl0;rw[Om] at this
    conv=>lhs;rw[this]
    rw[Oy]
   unfold bG;rw[decide_eq_true h0,decide_eq_true h12,hall];have hAW:isA (s.getD 0 0)=H->isW (s.getD 0 0)=H:=λh=>by unfold isW;rw[Ee,h];rfl
   cases hA:isA (s.getD 0 0) with
   |false=>rw[S (by simp)];simp
   |true=>
    rw[Z (by simp),hAW hA];by_cases hw:(s.drop 1).all isW=H
    ·rw[S hw,hw];simp only[Zav.l4,dt,df];rw[Z (by omega),S (by omega),hb0];have h82:(((s.getD 0 0).toNat:I)=82)=(s.getD 0 0=82):=kV _ 82 (by omega);simp only[h82];have htake:(s.take (s.length:I).toNat).drop (1:I).toNat=s.drop 1:=by
      rw[show(s.length:I).toNat=s.length by omega,List.take_length];rfl
     have htrim:s.length<=3->L.trimO ((s.take (s.length:I).toNat).drop (1:I).toNat) [48,49,50,51,52,53,54,55,56,57]=U (L.trimDig (s.drop 1),()):=λh=>by
      rw[htake];unfold L.trimO;rw[S ⟨rfl,by simp;omega⟩]
     have hT:N (L.trimDig (s.drop 1)=[])=(s.drop 1).all isD:=by
      rw[Bool.eq_iff_iff,NH,Bq]
     unfold gK;by_cases hR:s.getD 0 0=82
     ·rw[S hR,decide_eq_true hR];by_cases h2:s.length=2
      ·rw[Z (by omega),S (by omega),htrim (by omega),NE,decide_eq_true h2];dsimp only;rw[hT];simp
      ·rw[S (by omega),decide_eq_false h2];by_cases h3:s.length=3
       ·rw[S (by omega),S (by omega),htrim (by omega),NE,decide_eq_true h3];dsimp only;rw[hT];simp
       ·rw[Z (by omega),decide_eq_false h3];simp
     ·rw[Z hR,decide_eq_false hR];simp
    ·rw[Z hw,Bool.eq_false_iff.2 hw];simp
  ·rw[S (by omega)];unfold bG;rw[decide_eq_false h12];simp
end Rv
namespace Rv
open Go
theorem Et{s:Str}(h:bG s=H):1<=s.length/\s.length<=12:=by
 unfold bG at h;simp only[NJ,NH] at h;refine⟨?_,h.1.1.1.2⟩;cases s with
 |nil=>simp at h
 |cons _ _=>simp
end Rv
namespace Rv
open Go
abbrev zSy:Sym:=(([]:Str),((0:I),()))
abbrev less(a b:Str):E:=Op.bytesLess a b
theorem zt:∀a b:Str,(L.cmpR a b<0↔less a b=H)/\(L.cmpR a b=0↔a=b)
 |[],[]=>by simp[L.cmpR,Op.bytesLess]
 |[],_::_=>by simp[L.cmpR,Op.bytesLess]
 |_::_,[]=>by simp[L.cmpR,Op.bytesLess]
 |a::r,b::s=>by
  have ih:=zt r s;unfold L.cmpR less Op.bytesLess;by_cases h1:a<b
  ·have:a≠b:=λe=>by subst e;exact absurd h1 (UInt8.lt_irrefl a)
   simp[h1,this]
  ·by_cases h2:b<a
   ·have:a≠b:=λe=>by subst e;exact absurd h2 (UInt8.lt_irrefl a)
    simp[h1,h2,this]
   ·have e:a=b:=UInt8.le_antisymm (UInt8.not_lt.1 h2) (UInt8.not_lt.1 h1);subst e;simp only[h1,if_false,decide_false,Bool.false_or,beq_self_eq_true,Bool.true_and,List.cons.injEq,true_and];exact ih
theorem kP:∀{a b c:Str},less a b=H->less b c=H->less a c=H
 |_,[],_,h,_=>by simp[Op.bytesLess] at h
 |_,_::_,[],_,h=>by simp[Op.bytesLess] at h
 |[],_::_,_::_,_,_=>by simp[Op.bytesLess]
 |a::x,b::y,c::z,h1,h2=>by
  simp only[less,Op.bytesLess,Bool.or_eq_true,NH,NJ,beq_iff_eq] at h1 h2⊢;rcases h1 with h1|⟨rfl,h1⟩
  ·rcases h2 with h2|⟨rfl,h2⟩
   ·exact .inl (UInt8.lt_trans h1 h2)
   ·exact .inl h1
  ·rcases h2 with h2|⟨rfl,h2⟩
   ·exact .inl h2
   ·exact .inr ⟨rfl,kP h1 h2⟩
theorem jW(a:Str):less a a=Y:=by
 have:=zt a a;cases h:less a a with
 |false=>rfl
 |true=>
  have h1:=this.1.2 h;have h2:=this.2.2 rfl;omega
theorem Ep{a b:Str}(h:less a b=Y)(hne:a≠b):less b a=H:=by
 induction a generalizing b with
 |nil=>cases b with
  |nil=>exact absurd rfl hne
  |cons b y=>simp[Op.bytesLess] at h
 |cons a x ih=>cases b with
  |nil=>simp[Op.bytesLess]
  |cons b y=>
   simp only[less,Op.bytesLess,Bool.or_eq_false_iff,decide_eq_false_iff_not,Bool.and_eq_false_iff,beq_eq_false_iff_ne,Bool.or_eq_true,NH,NJ,beq_iff_eq] at h⊢;obtain⟨h1,h2⟩:=h;by_cases e:a=b;·subst e;refine .inr ⟨rfl,ih (h2.resolve_left (λg=>g rfl)) λe=>hne (by rw[e])⟩
   ·exact .inl (UInt8.lt_of_le_of_ne (UInt8.not_lt.1 h1) (Ne.symm e))
def wY(y:M Sym):Prop:=y.Pairwise λa b=>less a.1 b.1=H
theorem Hr{x:I}(h:0<=x/\x<=9223372036854775807):zad.wrap x=x:=by
 show(x % 2 ^ 64:I)=x;omega
end Rv
namespace Rv
open Go
theorem FM{a:M Sym}{i:G}(h:i<a.length):a.drop i=a.getD i zSy::a.drop (i+1):=by
 rw[Oe h,NN,NQ h];rfl
theorem yT{a:M Sym}{i:G}(h:i<a.length):a.getD i zSy∈a:=by
 rw[NN,NQ h];exact Oo h
structure OkO (ws ss:M I) (ys:M Sym):Prop extends OkS ws ss where
 bey:∀i,i<ss.length->ws.getD (ss.getD i 0).toNat 0<=4*(ws.length:I)
 nm:∀x∈ys,bG x.1=H
 srt:wY ys
 sat_:∀x∈ys,0<=x.2.1/\x.2.1<=4*(ws.length:I)/\x.2.1 % 4=0
 ly:ys.length<=64
section
variable{ws ss:M I}{ys:M Sym}(O:OkO ws ss ys)
include O
theorem K9(n:G):∀(m i:G),i<=ss.length->ss.length-i<m->Zbl.l2 n m ss (ss.length:I) (i:I) ws ss ys (4*(ws.length:I))=U (-1,ws,ss,ys,4*(ws.length:I),()):=by
 intro m
 induction m with
 |zero=>intro i _ h;omega
 |succ m ih=>
  intro i hi hm;have hl:=O.toOkS.len;have hlw:=O.lw;rw[Zbl.l2];simp only[dt,NM];by_cases h:i<ss.length
  ·have hs:=O.at_ i h;have hb:=O.bey i h;have hx:0<=ws.getD (ss.getD i 0).toNat 0:=by
    rw[NN,NQ (by omega)];exact(O.wr _ (Oo _)).1
   unfold Zdj.g Zdj.f;rw[S (by omega),S (by omega),S hs,NE,w64 (by omega)];dsimp only;rw[Z (by simpa using hb),w64 (by omega)];exact ih (i+1) (by omega) (by omega)
  ·rw[Z (by omega)]
theorem La(n:G):∀(m i:G),i<=ys.length->ys.length-i<m->Zbm.l2 n m ys (ys.length:I) (i:I) (4*(ws.length:I))=U (-1,4*(ws.length:I),()):=by
 intro m
 induction m with
 |zero=>intro i _ h;omega
 |succ m ih=>
  intro i hi hm;have hl:=O.ly;have hlw:=O.lw;rw[Zbm.l2];simp only[dt,NM];by_cases h:i<ys.length
  ·have hs:=O.sat_ _ (yT h);generalize ys.getD i zSy=x at hs;unfold Zcz.g Zcz.f;simp only[df];rw[S (by omega),S (by omega),S (by omega),S (by omega),NE];dsimp only;have ht:Int.tmod x.2.1 4=0:=by rw[Oj hs.1];exact hs.2.2
   rw[Z (by simp[ht]),w64 (by omega)];exact ih (i+1) (by omega) (by omega)
  ·rw[Z (by omega)]
theorem ME(n:G):∀(m i:G),i<=ys.length->ys.length-i<m->Zaq.l2 n m ys (ys.length:I) (i:I) ws ss ys=U (H,ws,ss,ys,()):=by
 intro m
 induction m with
 |zero=>intro i _ h;omega
 |succ m ih=>
  intro i hi hm;have hl:=O.ly;rw[Zaq.l2];unfold Zaq.j6;simp only[dt,NM];by_cases h:i<ys.length
  ·have hn:=O.nm _ (yT h);rw[S (by omega),S (by omega),qN,NE,hn];dsimp only;rw[S (by simp)];have w:zaa.wrap ((i:I)+1)=((i+1:G):I):=by rw[w64 (by omega)];omega
   rw[w];by_cases h0:0<i
   ·have w1:zaa.wrap ((i:I)-1)=((i-1:G):I):=by rw[w64 (by omega)];omega
    have hlt:less (ys.getD (i-1) zSy).1 (ys.getD i zSy).1=H:=by
     have hp:=List.pairwise_iff_getElem.1 O.srt (i-1) i (by omega) h (by omega);rw[NN,NQ (by omega),NN,NQ h];exact hp
    have hno:¬((Op.bytesLess (ys.getD i zSy).1 (ys.getD (i-1) zSy).1||N ((ys.getD i zSy).1=(ys.getD (i-1) zSy).1))=H):=by
     rw[Bool.or_eq_true,NH];rintro(hh|hh);·have:=kP hlt hh;rw[jW] at this;cases this
     ·rw[hh,jW] at hlt;cases hlt
    rw[S (by omega),w1,NM,S (by omega),Z hno];exact ih (i+1) (by omega) (by omega)
   ·rw[Z (by omega)];exact ih (i+1) (by omega) (by omega)
  ·rw[Z (by omega)]
theorem wQ:Zbn.g ws ss ys=U (0,()):=by
 have hlw:=O.lw;have hly:=O.ly;have hls:=O.toOkS.len;unfold Zbn.g;generalize 1000+ws.length+ss.length+ys.length=n;unfold Zbn.f;have w4:zaa.wrap ((4:I)*(ws.length:I))=4*(ws.length:I):=w64 (by omega);have c52:Zco.g ss ws ss ys (4*(ws.length:I))=U (Y,ws,ss,ys,4*(ws.length:I),()):=by
  unfold Zco.g Zco.f Zbl.g Zbl.f;have:=K9 O (1000+ss.length+ws.length+ss.length+ys.length+(4*(ws.length:I)).toNat) (1000+ss.length+ws.length+ss.length+ys.length+(4*(ws.length:I)).toNat) 0 (by omega) (by omega);rw[show((0:G):I)=0 from rfl] at this;rw[this];rfl
 have c3:Zaq.g ws ss ys=U (H,ws,ss,ys,()):=by
  unfold Zaq.g Zaq.f;exact ME O _ _ 0 (by omega) (by omega)
 have c53:Zcp.g ys (4*(ws.length:I))=U (Y,4*(ws.length:I),()):=by
  unfold Zcp.g Zcp.f Zbm.g Zbm.f;have:=La O (1000+ys.length+(4*(ws.length:I)).toNat) (1000+ys.length+(4*(ws.length:I)).toNat) 0 (by omega) (by omega);rw[show((0:G):I)=0 from rfl] at this;rw[this];rfl
 simp only[dt,df];rw[S (by omega),Z (by omega),Lm O.toOkS,NE];dsimp only;rw[Z (by decide),w4,c52,NE];dsimp only;rw[Z (by decide),c3,NE];dsimp only;rw[Z (by decide),c53,NE];rfl
end
section
variable{ws ss:M I}{ys:M Sym}(O:OkO ws ss ys)
include O
end
end Rv
namespace Rv
open Go
theorem oM{x z:I}:∀{l:M I},z∈L.insN x l↔z=x\/z∈l
 |[]=>by simp[L.insN]
 |y::r=>by
  rw[L.insN];split;·simp
  ·split
   ·rename_i h;subst h;simp
   ·rw[NT,oM (l:=r),NT];exact or_left_comm
theorem tV{x:I}:∀{l:M I},l.Pairwise (· < ·)->(L.insN x l).Pairwise (· < ·)
 |[],_=>by simp[L.insN]
 |y::r,h=>by
  rw[L.insN];have h':=List.pairwise_cons.1 h;split
  ·rename_i hx;refine List.pairwise_cons.2 ⟨λz hz=>?_,h⟩;rcases NT.1 hz with rfl|hz
   ·exact hx
   ·have:=h'.1 z hz;omega
  ·split
   ·exact h
   ·refine List.pairwise_cons.2 ⟨λz hz=>?_,tV h'.2⟩;rcases oM.1 hz with rfl|hz
    ·omega
    ·exact h'.1 z hz
def sG(ws:M I)(s:I):I:=if ws.getD s.toNat 0 % 4=0 then ws.getD s.toNat 0 else 0
def plS(ws:M I):M I->M I->M I
 |[],acc=>acc
 |s::r,acc=>plS ws r (L.insN (sG ws s) acc)
def plJ(ws ss:M I):G->G->M I->M I
 |0,_,acc=>acc
 |n+1,i,acc=>plJ ws ss n (i+1) (if(bY ws ss i).2.1=H then L.insN (bY ws ss i).1 acc else acc)
def plR(ws ss:M I):M I:=plJ ws ss ws.length 0 (plS ws ss [])
theorem C9(ws:M I){x:I}:∀{l acc:M I},x∈plS ws l acc↔x∈acc\/∃s∈l,x=sG ws s
 |[],acc=>by simp[plS]
 |s::r,acc=>by
  rw[plS,C9 ws (l:=r),oM];simp only[NT,exists_eq_or_imp];constructor
  ·rintro((h|h)|h)
   ·exact .inr (.inl h)
   ·exact .inl h
   ·exact .inr (.inr h)
  ·rintro(h|h|h)
   ·exact .inl (.inr h)
   ·exact .inl (.inl h)
   ·exact .inr h
theorem CX(ws ss:M I){x:I}:∀{n i:G}{acc:M I},x∈plJ ws ss n i acc↔x∈acc\/∃k,i<=k/\k<i+n/\(bY ws ss k).2.1=H/\x=(bY ws ss k).1
 |0,i,acc=>by
  rw[plJ];exact⟨.inl,λh=>h.elim id λ⟨k,h1,h2,_⟩=>by omega⟩
 |n+1,i,acc=>by
  rw[plJ,CX ws ss (n:=n)];have h0:x∈(if(bY ws ss i).2.1=H then L.insN (bY ws ss i).1 acc else acc)↔x∈acc\/((bY ws ss i).2.1=H/\x=(bY ws ss i).1):=by
   split;·rename_i h;rw[oM];exact⟨λg=>g.elim (λg=>.inr ⟨h,g⟩) .inl,λg=>g.elim .inr λg=>.inl g.2⟩
   ·rename_i h;exact⟨.inl,λg=>g.elim id λg=>absurd g.1 h⟩
  rw[h0];constructor
  ·rintro((h|h)|⟨k,h1,h2,h3⟩)
   ·exact .inl h
   ·exact .inr ⟨i,NL _,by omega,h⟩
   ·exact .inr ⟨k,by omega,by omega,h3⟩
  ·rintro(h|⟨k,h1,h2,h3⟩)
   ·exact .inl (.inl h)
   ·rcases Nat.eq_or_lt_of_le h1 with rfl|h1
    ·exact .inl (.inr h3)
    ·exact .inr ⟨k,h1,by omega,h3⟩
theorem Da(ws:M I):∀{l acc:M I},acc.Pairwise (· < ·)->(plS ws l acc).Pairwise (· < ·)
 |[],_,h=>h
 |s::r,acc,h=>by rw[plS];exact Da ws (tV h)
theorem CY(ws ss:M I):∀{n i:G}{acc:M I},acc.Pairwise (· < ·)->(plJ ws ss n i acc).Pairwise (· < ·)
 |0,_,_,h=>h
 |n+1,i,acc,h=>by
  rw[plJ];refine CY ws ss ?_;split;·exact tV h
  ·exact h
theorem C8(ws ss:M I):(plR ws ss).Pairwise (· < ·):=CY ws ss (Da ws List.Pairwise.nil)
theorem CZ(ws ss:M I){x:I}:x∈plR ws ss↔(∃s∈ss,x=sG ws s)\/∃k,k<ws.length/\(bY ws ss k).2.1=H/\x=(bY ws ss k).1:=by
 unfold plR;rw[CX,C9];simp
section
variable{ws ss:M I}{ys:M Sym}(O:OkO ws ss ys)
include O
theorem OkO.ok:oo ws ss:=⟨by have:=O.lw;omega,by have:=O.lw;have:=O.toOkS.len;omega,O.wr⟩
theorem OkO.site{s:I}(h:s∈ss):(0<=s/\s<(ws.length:I))/\0<=ws.getD s.toNat 0/\ws.getD s.toNat 0<=4*(ws.length:I):=by
 obtain⟨i,hi,rfl⟩:=List.getElem_of_mem h;have h1:=O.at_ i hi;have h2:=O.bey i hi;have e:ss.getD i 0=ss[i]:=by rw[NN,NQ hi];rfl
 rw[e] at h1 h2;refine⟨h1,?_,h2⟩;rw[NN,NQ (by omega)];exact(O.wr _ (Oo _)).1
theorem vI{x:I}(h:x∈plR ws ss):∃k:G,x=4*(k:I)/\k<=ws.length:=by
 rcases(CZ ws ss).1 h with⟨s,hs,rfl⟩|⟨k,hk,h1,rfl⟩
 ·obtain⟨_,h2,h3⟩:=O.site hs;unfold sG;split
  ·exact⟨(ws.getD s.toNat 0 / 4).toNat,by omega,by omega⟩
  ·exact⟨0,rfl,Nat.zero_le _⟩
 ·unfold bY at h1⊢;split at h1
  ·rename_i hc;rw[S hc];exact⟨((k:I)+1+(fT (ws.getD k 0)).2.2.2.2.2.1).toNat,by dsimp only;omega,by omega⟩
  ·cases h1
theorem CG:∀(l acc:M I),(∀s∈l,s∈ss)->L.labS ws l acc=U (plS ws l acc)
 |[],acc,_=>rfl
 |s::r,acc,h=>by
  obtain⟨h1,h2,h3⟩:=O.site (h s (by simp));have hs:s.toNat<ws.length:=by omega
  have hg:ws.getD s.toNat 0=ws[s.toNat]:=by rw[NN,NQ hs];rfl
  have hr:=O.wr _ (Oo hs);rw[L.labS,S h1.1,NQ hs];dsimp only;rw[S hr,CG r _ λt ht=>h t (by simp[ht]),plS];unfold sG;rw[hg]
theorem wK:∀(n i:G) (acc:M I),i+n<=100000->L.labJ (Zcl.g ws ss ys) n (i:I) acc=U (plJ ws ss n i acc)
 |0,i,acc,_=>rfl
 |n+1,i,acc,h=>by
  rw[L.labJ,zx O.ok ys i (by omega)];obtain⟨x,b,u,hj⟩:∃x b u,bY ws ss i=(x,b,u):=⟨_,_,_,rfl⟩
  rw[hj];dsimp only;have hx:b=H->-9223372036854775808<=x/\x<=9223372036854775807:=λhb=>by
   unfold bY at hj;split at hj;·cases hj;have:=O.lw;omega
   ·cases hj;cases hb
  rw[plJ,hj,show(i:I)+1=((i+1:G):I) by omega];by_cases hb:b=H;·rw[S hb,S (hx hb),S hb];exact wK n (i+1) _ (by omega)
  ·rw[Z hb,Z hb];exact wK n (i+1) _ (by omega)
theorem FH:Zee.g ws ss ys=U (plR ws ss,0,()):=by
 have h1:=O.ok.w;have h2:=O.ok.s;unfold Zee.g L.labelOfO;rw[wQ O];dsimp only;rw[S rfl,S ⟨by omega,by omega⟩,CG O ss [] λs h=>h];dsimp only;rw[show(0:I)=((0:G):I) from rfl,wK O ws.length 0 _ (by omega)];rfl
end
end Rv
namespace Rv
open Go
end Rv
