/- Texts put together. -/
import Derived.Test.YtfphlcngbllgoaaGreatDoorBB1
import Derived.Test.YtfphlcngbllgoaaGreatDoorB8
set_option linter.all false
open _root_ renaming Int→I,if_pos→U,if_neg→D,Nat→G,List→N,Bool→zaa,Option→zac,Unit→zad
open Option renaming some→S,none→Z
open Bool renaming false→Y,true→H
open Decidable renaming decide→C
open Go.IntKind renaming u32→E,i64→zab,u64→zae
noncomputable section
namespace Rv
open Go Go.Proofs
noncomputable section
set_option maxRecDepth 100000
set_option maxHeartbeats 2000000
variable{ad:LQ}
abbrev u0:Ty:=.pair .str (.pair (.int .i64) .nil)
abbrev u1:Ty:=.pair (.int .i64) (.pair (.int .i64) (.pair (.int .i64) .nil))
abbrev u2:Ty:=.pair (.int .i64) (.pair (.int .u32) (.pair .str .nil))
abbrev u3:Ty:=.pair .str (.pair (.pair (.int .i64) (.pair (.int .i64) (.pair (.int .i64) (.pair (.int .i64) (.pair (.int .i64) (.pair .bool (.pair (.sl (.pair (.int .i64) (.pair (.int .u32) (.pair .str .nil)))) (.pair .str .nil)))))))) .nil)
abbrev u4:Ty:=.pair .fn (.pair .fn .nil)
abbrev u5:Ty:=.pair (.int .i64) (.pair (.int .i64) (.pair .str (.pair (.int .u32) .nil)))
abbrev u6:Ty:=.pair (.int .u32) (.pair (.int .i64) .nil)
abbrev u7:Ty:=.pair (.sl (.int .u32)) (.pair (.sl (.int .i64)) (.pair (.sl (.pair .str (.pair (.int .i64) .nil))) .nil))
abbrev u8:Ty:=.pair (.int .i64) (.pair (.int .i64) (.pair (.int .i64) (.pair (.int .i64) (.pair (.int .i64) (.pair .bool (.pair (.sl (.pair (.int .i64) (.pair (.int .u32) (.pair .str .nil)))) (.pair .str .nil)))))))
abbrev u9:Ty:=.pair (.sl (.int .u32)) (.pair (.sl (.int .u8)) (.pair (.sl .str) .nil))
abbrev u10:Ty:=.pair (.int .i64) (.pair (.int .i64) (.pair (.int .i64) (.pair (.int .i64) (.pair (.int .i64) (.pair (.int .i64) (.pair .bool .nil))))))
abbrev u11:Ty:=.pair (.sl (.int .i64)) (.pair (.sl (.pair .str (.pair (.int .i64) .nil))) (.pair (.sl (.pair (.int .u32) (.pair (.int .i64) .nil))) (.pair (.int .i64) (.pair (.int .i64) .nil))))
abbrev u12:Ty:=.pair (.pair (.sl (.int .i64)) (.pair (.sl (.pair .str (.pair (.int .i64) .nil))) (.pair (.sl (.pair (.int .u32) (.pair (.int .i64) .nil))) (.pair (.int .i64) (.pair (.int .i64) .nil))))) (.pair (.pair (.sl (.int .u32)) (.pair (.sl (.int .i64)) (.pair (.sl (.pair .str (.pair (.int .i64) .nil))) .nil))) .nil)
abbrev u13:Ty:=.pair (.sl (.pair (.int .i64) (.pair (.int .i64) (.pair .str (.pair (.int .u32) .nil))))) (.pair (.int .i64) (.pair (.int .i64) .nil))
abbrev u14:Ty:=.pair (.int .i64) (.pair (.int .i64) .nil)
abbrev u15:Ty:=.pair (.sl (.pair (.int .i64) (.pair (.int .i64) (.pair .str (.pair (.int .u32) .nil))))) (.pair (.int .i64) (.pair (.sl (.pair (.int .i64) (.pair (.int .u32) (.pair .str .nil)))) (.pair (.int .i64) .nil)))
abbrev c0:N CD:=[.sl (.int .u32),.sl (.int .i64),.sl u0]
abbrev c1:N CD:=[ki,ki,ki,ki,ki,ki,.bool]
abbrev c2:N CD:=[ki,ki,ki,ki,ki,.bool,.sl u2,.str]
abbrev c3:N CD:=[.str,ki,ki,ki,ki,ki,.bool,.sl u2,.str]
abbrev c4:N CD:=[.row 51 (.int .u32),.row 3 (.int .i64),.row 70 u0]
abbrev c5:N CD:=[.sl (.int .u32),.sl (.int .u8),.sl .str]
abbrev c6:N CD:=[.sl u5,ki,.row 53 u2,ki]
abbrev c7:N CD:=[.row 3 (.int .i64),.row 70 u0,.sl u6,ki,ki]
abbrev c8:N CD:=[.sl (.int .i64),.sl u0,.sl u6,ki,ki,.row 51 (.int .u32),.row 3 (.int .i64),.row 70 u0]
abbrev c9:N CD:=[.sl (.int .i64),.sl u0,.sl u6,ki,ki]
def types:N (TypeId×TI):=[
 tI 2 .i64 8,
 tI 3 .i64 8,
 tB 4 1,
 tI 5 .u8 1,
 tS 9 16,
 tI 21 .i32 4,
 tL 22 51 (.int .u32),
 tL 23 3 (.int .i64),
 tL 24 70 u0,
 (26,⟨3,H,72,[.nilS,.nilS,.nilS],[(0,1,Y),(1,1,Y),(2,1,Y)],Z,S u7,Z,Y,Y,Y,Z,Z⟩),
 tL 29 78 u3,
 tI 30 .i64 8,
 tL 36 53 u2,
 (38,⟨8,H,88,[.int .i64 0,.int .i64 0,.int .i64 0,.int .i64 0,.int .i64 0,.bool Y,.nilS,.str []],[(0,1,Y),(1,1,Y),(2,1,Y),(3,1,Y),(4,1,Y),(5,1,Y),(6,1,Y),(7,1,Y)],Z,S u8,Z,Y,Y,Y,Z,Z⟩),
 tL 42 5 (.int .u8),
 tL 43 9 .str,
 (45,⟨3,H,72,[.nilS,.nilS,.nilS],[(0,1,Y),(1,1,Y),(2,1,Y)],Z,S u9,Z,Y,Y,Y,Z,Z⟩),
 (48,⟨7,H,56,[.int .i64 0,.int .i64 0,.int .i64 0,.int .i64 0,.int .i64 0,.int .i64 0,.bool Y],[(0,1,Y),(1,1,Y),(2,1,Y),(3,1,Y),(4,1,Y),(5,1,Y),(6,1,Y)],Z,S u10,Z,Y,Y,Y,S u10,Z⟩),
 tI 51 .u32 4,
 (53,⟨3,H,32,[.int .i64 0,.int .u32 0,.str []],[(0,1,Y),(1,1,Y),(2,1,Y)],Z,S u2,Z,Y,Y,Y,S u2,Z⟩),
 (70,⟨2,H,24,[.str [],.int .i64 0],[(0,1,Y),(1,1,Y)],Z,S u0,Z,Y,Y,Y,S u0,Z⟩),
 (78,⟨9,H,104,[.str [],.int .i64 0,.int .i64 0,.int .i64 0,.int .i64 0,.int .i64 0,.bool Y,.nilS,.str []],[(0,1,Y),(1,8,H)],Z,S u3,Z,Y,Y,Y,Z,Z⟩),
 tL 96 106 u6,
 (98,⟨5,H,88,[.nilS,.nilS,.nilS,.int .i64 0,.int .i64 0],[(0,1,Y),(1,1,Y),(2,1,Y),(3,1,Y),(4,1,Y)],Z,S u11,Z,Y,Y,Y,Z,Z⟩),
 (101,⟨1,Y,8,[.raw (.pointer Z)],[],Z,Z,Z,Y,Y,Y,Z,Z⟩),
 (103,⟨8,H,160,[.nilS,.nilS,.nilS,.int .i64 0,.int .i64 0,.nilS,.nilS,.nilS],[(0,5,H),(5,3,H)],Z,S u12,Z,Y,Y,Y,Z,Z⟩),
 (106,⟨2,H,16,[.int .u32 0,.int .i64 0],[(0,1,Y),(1,1,Y)],Z,S u6,Z,Y,Y,Y,S u6,Z⟩),
 tI 135 .u64 8,
 (138,⟨3,H,24,[.int .i64 0,.int .i64 0,.int .i64 0],[],Z,S u1,Z,Y,Y,Y,Z,S 3⟩),
 tL 143 199 u5,
 (150,⟨1,Y,8,[.raw .nilFunc],[],Z,S .fn,Z,Y,Y,Y,Z,Z⟩),
 tL 155 150 .fn,
 tL 175 180 u4,
 (177,⟨1,Y,8,[.raw .nilFunc],[],Z,S .fn,Z,Y,Y,Y,Z,Z⟩),
 (178,⟨1,Y,8,[.raw .nilFunc],[],Z,S .fn,Z,Y,Y,Y,Z,Z⟩),
 (180,⟨2,H,16,[.raw .nilFunc,.raw .nilFunc],[(0,1,Y),(1,1,Y)],Z,S u4,Z,Y,Y,Y,Z,Z⟩),
 (186,⟨1,Y,16,[.raw .nilIface],[],Z,Z,Z,Y,H,Y,Z,Z⟩),
 tL 194 138 u1,
 (199,⟨4,H,40,[.int .i64 0,.int .i64 0,.str [],.int .u32 0],[(0,1,Y),(1,1,Y),(2,1,Y),(3,1,Y)],Z,S u5,Z,Y,Y,Y,Z,Z⟩),
 (205,⟨3,H,40,[.nilS,.int .i64 0,.int .i64 0],[(0,1,Y),(1,1,Y),(2,1,Y)],Z,S u13,Z,Y,Y,Y,Z,Z⟩),
 tL 212 106 u6,
 (219,⟨2,H,16,[.int .i64 0,.int .i64 0],[],Z,S u14,Z,Y,Y,Y,Z,S 2⟩),
 (236,⟨1,Y,8,[.raw .nilFunc],[],Z,S .fn,Z,Y,Y,Y,Z,Z⟩),
 tI 247 .u64 8,
 (284,⟨1,Y,8,[.raw (.pointer Z)],[],Z,Z,Z,Y,Y,Y,Z,Z⟩),
 (286,⟨4,H,64,[.nilS,.int .i64 0,.nilS,.int .i64 0],[(0,1,Y),(1,1,Y),(2,1,Y),(3,1,Y)],Z,S u15,Z,Y,Y,Y,Z,Z⟩),
 tL 287 289 u0,
 (289,⟨2,H,24,[.str [],.int .i64 0],[(0,1,Y),(1,1,Y)],Z,S u0,Z,Y,Y,Y,Z,Z⟩),
 tI 296 .i64 8]
theorem iE:(types.all λp=>kY P p.1 p.2)=H:=by kernel_rfl
def slices_Clone_uint32_uint32.T(ad:LQ):TF P (LW ad):=⟨109,[],slices_Clone_uint32_uint32.sp,slices_Clone_uint32_uint32.sat,slices_Clone_uint32_uint32.enter⟩
def strings_Trim.T(ad:LQ):TF P (LW ad):=⟨112,[],strings_Trim.sp,strings_Trim.sat,strings_Trim.enter⟩
def strconv_Itoa.T(ad:LQ):TF P (LW ad):=⟨223,[],strconv_Itoa.sp,strconv_Itoa.sat,strconv_Itoa.enter⟩
def internal_strconv_FormatUint.T(ad:LQ):TF P (LW ad):=⟨286,[],internal_strconv_FormatUint.sp,internal_strconv_FormatUint.sat,internal_strconv_FormatUint.enter⟩
def name_Mnemonic.T(ad:LQ):TF P (LW ad):=⟨125,[],name_Mnemonic.sp,name_Mnemonic.sat,name_Mnemonic.enter⟩
def stmt_operands.T(ad:LQ):TF P (LW ad):=⟨128,[],stmt_operands.sp,stmt_operands.sat,stmt_operands.enter⟩
def strings_Join.T(ad:LQ):TF P (LW ad):=⟨82,[],strings_Join.sp,strings_Join.sat,strings_Join.enter⟩
def internal_strconv_underscoreOK.T(ad:LQ):TF P (LW ad):=⟨269,[],internal_strconv_underscoreOK.sp,internal_strconv_underscoreOK.sat,internal_strconv_underscoreOK.enter⟩
def strconv_toError.T(ad:LQ):TF P (LW ad):=⟨246,[],strconv_toError.sp,strconv_toError.sat,strconv_toError.enter⟩
def strings_CutPrefix.T(ad:LQ):TF P (LW ad):=⟨200,[],strings_CutPrefix.sp,strings_CutPrefix.sat,strings_CutPrefix.enter⟩
def strings_Contains.T(ad:LQ):TF P (LW ad):=⟨201,[],strings_Contains.sp,strings_Contains.sat,strings_Contains.enter⟩
def strings_IndexByte.T(ad:LQ):TF P (LW ad):=⟨151,[],strings_IndexByte.sp,strings_IndexByte.sat,strings_IndexByte.enter⟩
def name_Of.T(ad:LQ):TF P (LW ad):=⟨153,[],name_Of.sp,name_Of.sat,name_Of.enter⟩
def strings_Split.T(ad:LQ):TF P (LW ad):=⟨53,[],strings_Split.sp,strings_Split.sat,strings_Split.enter⟩
def strings_Compare.T(ad:LQ):TF P (LW ad):=⟨164,[],strings_Compare.sp,strings_Compare.sat,strings_Compare.enter⟩
def slices_Insert_api_Sym_api_Sym.T(ad:LQ):TF P (LW ad):=⟨165,[],slices_Insert_api_Sym_api_Sym.sp,slices_Insert_api_Sym_api_Sym.sat,slices_Insert_api_Sym_api_Sym.enter⟩
def mkF(ad:LQ):=@mkT P (LW ad) types mixed iE maps jy
def Tp(ad:LQ):=@Tq P (LW ad) types mixed iE maps jy
namespace Zba
def sp:Spec:=af ⟨[(0,.c (.sl (.int .u32))),(1,.c (.sl (.int .i64)))],[]⟩ ⟨[(0,.c (.row 51 (.int .u32))),(1,Si),(2,Si)],[]⟩ g
def T(ad:LQ):=mkF ad 59 [] sp [slices_Clone_uint32_uint32.T ad] t0 (λn=>tl 12 ⟨[(10,.c (.row 51 (.int .u32))),(11,Si),(37,.c (.sl (.int .i64))),(38,Si),(39,Si)],[]⟩ (λ_=>l12 n) <| tl 3 ⟨[(0,.c (.sl (.int .u32))),(1,.c (.sl (.int .i64))),(7,Si),(14,.c (.sl (.int .i64))),(15,Si),(16,Si)],[]⟩ (λ_=>l3 n) <| tn) t0 64 [] f (λa b=>1000+a.length+b.length) (by kernel_rfl)
end Zba
namespace Zev
def sp:Spec:=af ⟨[(0,Si),(1,Sp 0 0),(2,Sp 1 0)],[(S 1,c0),(S 2,[ki])]⟩ ⟨[(0,SB)],[(Z,c0),(Z,[ki])]⟩ g
def T(ad:LQ):=mkF ad 65 [] sp [] t0 t0 t0 13 [] f (λa b c d e=>1000+a.toNat+b.length+c.length+d.length+e.toNat) (by kernel_rfl)
end Zev
namespace Zcq
def sp:Spec:=af ⟨[(0,.c (.sl (.int .i64))),(1,.clo 65 [.ptr 0 0,.ptr 1 0])],[(S 1,c0),(S 2,[ki])]⟩ ⟨[(0,Si)],[(Z,c0),(Z,[ki])]⟩ g
def T(ad:LQ):=mkF ad 113 [65] sp [Zev.T ad] t0 (λn=>tl 2 ⟨[(0,.c (.sl (.int .i64))),(1,.clo 65 [.ptr 0 0,.ptr 1 0]),(7,Si),(8,Si)],[(Z,c0),(Z,[ki])]⟩ (λ_=>l2 n) <| tn) t0 19 [] f (λa b c d e=>1000+a.length+b.length+c.length+d.length+e.toNat) (by kernel_rfl)
end Zcq
namespace Zdx
def sp:Spec:=af ⟨[(0,.c (.sl (.int .i64))),(1,.clo 65 [.ptr 0 0,.ptr 1 0])],[(S 1,c0),(S 2,[ki])]⟩ ⟨[(0,SB)],[(Z,c0),(Z,[ki])]⟩ g
def T(ad:LQ):=mkF ad 69 [65] sp [Zcq.T ad] t0 t0 t0 9 [] f (λa b c d e=>1000+a.length+b.length+c.length+d.length+e.toNat) (by kernel_rfl)
end Zdx
namespace Zby
def sp:Spec:=af ⟨[(0,Sb),(1,SB)],[]⟩ ⟨[(0,SB)],[]⟩ g
def T(ad:LQ):=mkF ad 111 [] sp [] (λn=>tj 4 ⟨[(0,Sb),(1,SB)],[]⟩ (λ_=>j4 n) <| tn) t0 t0 32 [] f (λa _=>1000+a.toNat) (by kernel_rfl)
end Zby
namespace Zak
def sp:Spec:=af ⟨[(0,Ss)],[]⟩ ⟨[(0,SB)],[]⟩ g
def T(ad:LQ):=mkF ad 68 [] sp [Zby.T ad,strings_Trim.T ad] t0 (λn=>tl 4 ⟨[(0,Ss),(14,Si),(15,Si)],[]⟩ (λ_=>l4 n) <| tn) t0 47 [] f (λa=>1000+a.length) (by kernel_rfl)
end Zak
namespace Zbi
def sp:Spec:=af ⟨[(0,Sp 0 0)],[(S 0,c0)]⟩ ⟨[(0,SB)],[(Z,c0)]⟩ g
def T(ad:LQ):=mkF ad 67 [] sp [Zak.T ad] (λn=>tj 6 ⟨[(0,Sp 0 0),(5,.c (.sl u0)),(6,Si),(7,Si)],[(Z,c0)]⟩ (λms=>j6 n (l2 n ms.head!)) <| tn) (λn=>tl 2 ⟨[(0,Sp 0 0),(5,.c (.sl u0)),(6,Si),(7,Si)],[(Z,c0)]⟩ (λ_=>l2 n) <| tn) t0 33 [] f (λa b c=>1000+a.length+b.length+c.length) (by kernel_rfl)
end Zbi
namespace Zew
def sp:Spec:=af ⟨[(0,.agg [.str,ki]),(1,Sp 0 0)],[(S 2,[ki])]⟩ ⟨[(0,SB)],[(Z,[ki])]⟩ g
def T(ad:LQ):=mkF ad 66 [] sp [] t0 t0 t0 19 [] f (λa b c=>1000+a.length+b.toNat+c.toNat) (by kernel_rfl)
end Zew
namespace Zcr
def sp:Spec:=af ⟨[(0,.c (.sl u0)),(1,.clo 66 [.ptr 0 0])],[(S 1,[ki])]⟩ ⟨[(0,Si)],[(Z,[ki])]⟩ g
def T(ad:LQ):=mkF ad 114 [66] sp [Zew.T ad] t0 (λn=>tl 2 ⟨[(0,.c (.sl u0)),(1,.clo 66 [.ptr 0 0]),(7,Si),(8,Si)],[(Z,[ki])]⟩ (λ_=>l2 n) <| tn) t0 19 [] f (λa b=>1000+a.length+b.toNat) (by kernel_rfl)
end Zcr
namespace Zdy
def sp:Spec:=af ⟨[(0,.c (.sl u0)),(1,.clo 66 [.ptr 0 0])],[(S 1,[ki])]⟩ ⟨[(0,SB)],[(Z,[ki])]⟩ g
def T(ad:LQ):=mkF ad 70 [66] sp [Zcr.T ad] t0 t0 t0 9 [] f (λa b=>1000+a.length+b.toNat) (by kernel_rfl)
end Zdy
namespace Zbt
def sp:Spec:=af ⟨[(0,.agg c0)],[]⟩ ⟨[(0,Si)],[]⟩ g
def T(ad:LQ):=mkF ad 29 [] sp [Zba.T ad,Zdx.T ad,Zbi.T ad,Zdy.T ad] t0 t0 t0 54 [] f (λa b c=>1000+a.length+b.length+c.length) (by kernel_rfl)
end Zbt
namespace Zcs
def sp:Spec:=af ⟨[(0,.c (.sl (.int .i64))),(1,Si)],[]⟩ ⟨[(0,Si)],[]⟩ g
def T(ad:LQ):=mkF ad 84 [] sp [] t0 (λn=>tl 2 ⟨[(0,.c (.sl (.int .i64))),(1,Si),(7,Si),(8,Si)],[]⟩ (λ_=>l2 n) <| tn) t0 19 [] f (λa b=>1000+a.length+b.toNat) (by kernel_rfl)
end Zcs
namespace Zcz
def sp:Spec:=af ⟨[(0,.c (.sl (.int .i64))),(1,Si)],[]⟩ ⟨[(0,SB)],[]⟩ g
def T(ad:LQ):=mkF ad 40 [] sp [Zcs.T ad] t0 t0 t0 9 [] f (λa b=>1000+a.length+b.toNat) (by kernel_rfl)
end Zcz
namespace Zee
def sp:Spec:=af ⟨[(0,Si),(1,Si),(2,Sp 0 0),(3,Sp 1 0)],[(S 2,[ku]),(S 3,[ku])]⟩ ⟨[],[(Z,[ku]),(Z,[ku])]⟩ g
def T(ad:LQ):=mkF ad 140 [] sp [] t0 t0 t0 14 [] f (λa b c d=>1000+a.toNat+b.toNat+c.toNat+d.toNat) (by kernel_rfl)
end Zee
namespace Zcv
def sp:Spec:=af ⟨[(0,Si),(1,Si),(2,.clo 140 [.ptr 0 0,.ptr 1 0])],[(S 2,[ku]),(S 3,[ku])]⟩ ⟨[],[(Z,[ku]),(Z,[ku])]⟩ g
def T(ad:LQ):=mkF ad 139 [140] sp [Zee.T ad] t0 (λn=>tl 2 ⟨[(0,Si),(1,Si),(2,.clo 140 [.ptr 0 0,.ptr 1 0]),(6,Si)],[(Z,[ku]),(Z,[ku])]⟩ (λ_=>l2 n) <| tn) t0 38 [] f (λa b c d=>1000+a.toNat+b.toNat+c.toNat+d.toNat) (by kernel_rfl)
end Zcv
namespace Zef
def sp:Spec:=af ⟨[(0,Su),(1,Si),(2,Si)],[]⟩ ⟨[(0,Su)],[]⟩ g
def T(ad:LQ):=mkF ad 88 [] sp [Zcv.T ad] t0 t0 t0 13 [] f (λa b c=>1000+a.toNat+b.toNat+c.toNat) (by kernel_rfl)
end Zef
namespace Zav
def sp:Spec:=af ⟨[(0,Si),(1,Si),(2,.c (.pp (.int .u32)))],[]⟩ ⟨[(0,Si)],[]⟩ g
def T(ad:LQ):=mkF ad 87 [] sp [Zef.T ad] t0 t0 t0 11 [] f (λa b c=>1000+a.toNat+b.toNat+c.toNat) (by kernel_rfl)
end Zav
namespace Zfa
def sp:Spec:=af ⟨[(0,Si)],[]⟩ ⟨[(0,Si)],[]⟩ g
def T(ad:LQ):=mkF ad 141 [] sp [] t0 t0 t0 6 [] f (λa=>1000+a.toNat) (by kernel_rfl)
end Zfa
namespace Zdp
def sp:Spec:=af ⟨[(0,Su),(1,Si)],[]⟩ ⟨[(0,Si)],[]⟩ g
def T(ad:LQ):=mkF ad 89 [] sp [Zfa.T ad] t0 t0 t0 16 [] f (λa b=>1000+a.toNat+b.toNat) (by kernel_rfl)
end Zdp
namespace Zbd
def sp:Spec:=af ⟨[(0,Su)],[]⟩ ⟨[(0,.agg c1)],[]⟩ g
def T(ad:LQ):=mkF ad 50 [] sp [Zav.T ad,Zdp.T ad] (λn=>tj 16 ⟨[(2,Sp 0 0),(6,Sp 1 0)],[(S 0,c1),(S 1,c1)]⟩ (λ_=>j16 n) <| tn) t0 t0 80 [] f (λa=>1000+a.toNat) (by kernel_rfl)
end Zbd
namespace Zdb
def sp:Spec:=af ⟨[(0,Si),(1,Si),(2,Si)],[]⟩ ⟨[(0,SB)],[]⟩ g
def T(ad:LQ):=mkF ad 90 [] sp [] t0 t0 t0 15 [] f (λa b c=>1000+a.toNat+b.toNat+c.toNat) (by kernel_rfl)
end Zdb
namespace Zfe
def sp:Spec:=af ⟨[(0,SB)],[]⟩ ⟨[(0,Su)],[]⟩ g
def T(ad:LQ):=mkF ad 143 [] sp [] t0 t0 t0 4 [] f (λ_=>(1000:G)) (by kernel_rfl)
end Zfe
namespace Zbj
def sp:Spec:=af ⟨[(0,Si),(1,SB),(2,SB)],[]⟩ ⟨[(0,.agg [ki,ki,ki])],[]⟩ g
def T(ad:LQ):=mkF ad 92 [] sp [Zfe.T ad] t0 t0 t0 19 [] f (λa _ _=>1000+a.toNat) (by kernel_rfl)
end Zbj
namespace Zeg
def sp:Spec:=af ⟨[(0,Si),(1,Si),(2,Sp 0 0),(3,Sp 1 0)],[(S 2,[ku]),(S 3,[ku])]⟩ ⟨[],[(Z,[ku]),(Z,[ku])]⟩ g
def T(ad:LQ):=mkF ad 195 [] sp [] t0 t0 t0 17 [] f (λa b c d=>1000+a.toNat+b.toNat+c.toNat+d.toNat) (by kernel_rfl)
end Zeg
namespace Zcw
def sp:Spec:=af ⟨[(0,Si),(1,Si),(2,.clo 195 [.ptr 0 0,.ptr 1 0])],[(S 2,[ku]),(S 3,[ku])]⟩ ⟨[],[(Z,[ku]),(Z,[ku])]⟩ g
def T(ad:LQ):=mkF ad 139 [195] sp [Zeg.T ad] t0 (λn=>tl 2 ⟨[(0,Si),(1,Si),(2,.clo 195 [.ptr 0 0,.ptr 1 0]),(6,Si)],[(Z,[ku]),(Z,[ku])]⟩ (λ_=>l2 n) <| tn) t0 38 [] f (λa b c d=>1000+a.toNat+b.toNat+c.toNat+d.toNat) (by kernel_rfl)
end Zcw
namespace Zeh
def sp:Spec:=af ⟨[(0,Su),(1,Si),(2,Si),(3,Su)],[]⟩ ⟨[(0,Su)],[]⟩ g
def T(ad:LQ):=mkF ad 142 [] sp [Zcw.T ad] t0 t0 t0 14 [] f (λa b c d=>1000+a.toNat+b.toNat+c.toNat+d.toNat) (by kernel_rfl)
end Zeh
namespace Zat
def sp:Spec:=af ⟨[(0,.c (.sl u1))],[]⟩ ⟨[(0,Su)],[]⟩ g
def T(ad:LQ):=mkF ad 91 [] sp [Zeh.T ad] t0 (λn=>tl 3 ⟨[(3,Su),(6,.c (.sl u1)),(7,Si),(8,Si)],[]⟩ (λ_=>l3 n) <| tn) t0 23 [] f (λa=>1000+a.length) (by kernel_rfl)
end Zat
namespace Zbk
def sp:Spec:=af ⟨[(0,.agg c1)],[]⟩ ⟨[(0,Su)],[]⟩ g
def T(ad:LQ):=mkF ad 52 [] sp [Zbj.T ad,Zat.T ad] (λn=>tj 14 ⟨[(1,Sp 0 0),(6,Sp 1 0)],[(S 0,c1),(S 1,[ki,ki,ki])]⟩ (λ_=>j14 n) <| tn) t0 t0 97 [] f (λa b c d e i _=>1000+a.toNat+b.toNat+c.toNat+d.toNat+e.toNat+i.toNat) (by kernel_rfl)
end Zbk
namespace Zan
def sp:Spec:=af ⟨[(0,.agg c1)],[]⟩ ⟨[(0,SB)],[]⟩ g
def T(ad:LQ):=mkF ad 51 [] sp [Zdb.T ad,Zbk.T ad,Zbd.T ad] (λn=>tj 10 ⟨[(1,Sp 0 0)],[(S 0,c1)]⟩ (λ_=>j10 n) <| tn) t0 t0 64 [] f (λa b c d e i _=>1000+a.toNat+b.toNat+c.toNat+d.toNat+e.toNat+i.toNat) (by kernel_rfl)
end Zan
namespace Zcl
def sp:Spec:=af ⟨[(0,Su)],[]⟩ ⟨[(0,.agg c1),(1,SB)],[]⟩ g
def T(ad:LQ):=mkF ad 20 [] sp [Zbd.T ad,Zan.T ad,Zbk.T ad] t0 t0 t0 18 [] f (λa=>1000+a.toNat) (by kernel_rfl)
end Zcl
namespace Zco
def sp:Spec:=af ⟨[(0,.agg c0),(1,Si)],[]⟩ ⟨[(0,Si),(1,SB)],[]⟩ g
def T(ad:LQ):=mkF ad 42 [] sp [Zcz.T ad,Zcl.T ad] t0 t0 t0 59 [] f (λa b c d=>1000+a.length+b.length+c.length+d.toNat) (by kernel_rfl)
end Zco
namespace Zeu
def sp:Spec:=af ⟨[(0,.agg c0)],[]⟩ ⟨[(0,.c (.row 3 (.int .i64))),(1,Si)],[]⟩ g
def T(ad:LQ):TF P (LW ad):=⟨30,[],sp,Rl Rh (show Sat P (LW ad) 29 Zbt.sp from(Zbt.T ad).sat) (show Sat P (LW ad) 42 Zco.sp from(Zco.T ad).sat),aI (by kernel_rfl)⟩
end Zeu
namespace Zdz
def sp:Spec:=af ⟨[(0,Si)],[]⟩ ⟨[(0,SB)],[]⟩ g
def T(ad:LQ):=mkF ad 176 [] sp [] t0 t0 t0 6 [] f (λa=>1000+a.toNat) (by kernel_rfl)
end Zdz
namespace Zea
def sp:Spec:=af ⟨[(0,Si),(1,Si)],[]⟩ ⟨[(0,SB)],[]⟩ g
def T(ad:LQ):=mkF ad 118 [] sp [Zdz.T ad] t0 t0 t0 17 [] f (λa b=>1000+a.toNat+b.toNat) (by kernel_rfl)
end Zea
namespace Zeb
def sp:Spec:=af ⟨[(0,Si)],[]⟩ ⟨[(0,SB)],[]⟩ g
def T(ad:LQ):=mkF ad 119 [] sp [] t0 t0 t0 6 [] f (λa=>1000+a.toNat) (by kernel_rfl)
end Zeb
namespace Zbo
def sp:Spec:=af ⟨[(0,.c (.sl (.int .i64))),(1,Si)],[]⟩ ⟨[(0,Si),(1,SB)],[]⟩ g
def T(ad:LQ):=mkF ad 74 [] sp [Zea.T ad,Zeb.T ad] t0 (λn=>tl 3 ⟨[(0,.c (.sl (.int .i64))),(1,Si),(6,Si),(7,Si),(8,Si)],[]⟩ (λ_=>l3 n) <| tn) t0 54 [] f (λa b=>1000+a.length+b.toNat) (by kernel_rfl)
end Zbo
namespace Zbe
def sp:Spec:=af ⟨[(0,Si)],[]⟩ ⟨[(0,Ss)],[]⟩ g
def T(ad:LQ):=mkF ad 75 [] sp [] t0 (λn=>tl 3 ⟨[(0,Si),(3,.c (.row 5 (.int .u8))),(4,Si)],[]⟩ (λ_=>l3 n) <| tn) t0 20 [] f (λa=>1000+a.toNat) (by kernel_rfl)
end Zbe
def disasm_number.spq(q:G):Spec:=af ⟨[(0,Si)],[]⟩ ⟨[(0,.c (.row 53 u2))],[]⟩ (bI q).disasm_number
namespace disasm_number
theorem step(q:G)(ih:Sat P (LW ad) 39 (disasm_number.spq q)/\True):Sat P (LW ad) 39 (spq (q+1)):=o9 mixed iE jy 39 (spq (q+1)) [((39,[]),disasm_number.spq q)] (eY ih.1 (aI (by kernel_rfl)) ic) t0 t0 t0 15 [] (λn=>f n (bI q)) (λa=>1000+a.toNat) (by kernel_rfl) (by kernel_rfl)
end disasm_number
theorem ky:∀q,Sat P (LW ad) 39 (disasm_number.spq q)/\True
 |0=>⟨jZ λ_=>rfl,trivial⟩
 |q+1=>⟨disasm_number.step q (ky q),trivial⟩
def disasm_number.sp:Spec:=af ⟨[(0,Si)],[]⟩ ⟨[(0,.c (.row 53 u2))],[]⟩ disasm_number.g
def disasm_number.T(ad:LQ):TF P (LW ad):=⟨39,[],disasm_number.sp,oD (F:=λq=>(bI q).disasm_number) (λa=>1000+a.toNat) (λq=>(ky q).1) (λ_=>by kernel_rfl),aI (by kernel_rfl)⟩
namespace Zdl
def sp:Spec:=af ⟨[(0,Si)],[]⟩ ⟨[(0,.c (.row 53 u2))],[]⟩ g
def T(ad:LQ):=mkF ad 41 [] sp [Zbe.T ad] t0 t0 t0 7 [] f (λa=>1000+a.toNat) (by kernel_rfl)
end Zdl
namespace Zbh
def sp:Spec:=af ⟨[(0,.agg c0),(1,Si)],[]⟩ ⟨[(0,.agg c2)],[]⟩ g
def T(ad:LQ):=mkF ad 16 [] sp [disasm_number.T ad,Zcz.T ad,Zdl.T ad,Zcl.T ad,Zco.T ad] (λn=>tj 9 ⟨[(4,Sp 0 0),(6,Sp 1 0)],[(S 0,c2),(S 1,c2)]⟩ (λ_=>j9 n) <| tj 23 ⟨[(4,Sp 0 0),(9,Sp 1 0)],[(S 0,c2),(S 1,c2)]⟩ (λ_=>j23 n) <| tn) t0 t0 99 [] f (λa b c d=>1000+a.length+b.length+c.length+d.toNat) (by kernel_rfl)
end Zbh
namespace Zdm
def sp:Spec:=af ⟨[(0,.agg c0)],[]⟩ ⟨[(0,.c (.row 78 u3)),(1,Si)],[]⟩ g
def T(ad:LQ):TF P (LW ad):=⟨11,[],sp,QN (show Sat P (LW ad) 29 Zbt.sp from(Zbt.T ad).sat) (show Sat P (LW ad) 30 Zeu.sp from(Zeu.T ad).sat) (show Sat P (LW ad) 74 Zbo.sp from(Zbo.T ad).sat) (show Sat P (LW ad) 75 Zbe.sp from(Zbe.T ad).sat) (show Sat P (LW ad) 16 Zbh.sp from(Zbh.T ad).sat),aI (by kernel_rfl)⟩
end Zdm
namespace Zac
def sp:Spec:=af ⟨[(0,Ss)],[]⟩ ⟨[(0,SB)],[]⟩ g
def T(ad:LQ):=mkF ad 123 [] sp [strings_Trim.T ad] (λn=>tj 9 ⟨[(0,Ss),(24,Si),(25,Si)],[]⟩ (λms=>j9 n (l4 n ms.head!)) <| tj 3 ⟨[(0,Ss)],[]⟩ (λ_=>j3 n) <| tn) (λn=>tl 4 ⟨[(0,Ss),(24,Si),(25,Si)],[]⟩ (λ_=>l4 n) <| tn) t0 84 [] f (λa=>1000+a.length) (by kernel_rfl)
end Zac
namespace Zdq
def sp:Spec:=af ⟨[(0,Si)],[]⟩ ⟨[(0,SB)],[]⟩ g
def T(ad:LQ):=mkF ad 177 [] sp [] t0 t0 t0 10 [] f (λa=>1000+a.toNat) (by kernel_rfl)
end Zdq
namespace Zbz
def sp:Spec:=af ⟨[(0,.agg [ki,ku,.str])],[]⟩ ⟨[(0,Si),(1,SB)],[]⟩ g
def T(ad:LQ):=mkF ad 206 [] sp [Zac.T ad] (λn=>tj 2 ⟨[(1,Sp 0 0),(4,SB)],[(S 0,[ki,ku,.str])]⟩ (λ_=>j2 n) <| tn) t0 t0 38 [] f (λa b c=>1000+a.toNat+b.toNat+c.length) (by kernel_rfl)
end Zbz
namespace Zbb
def sp:Spec:=af ⟨[(0,.c (.sl u2))],[]⟩ ⟨[(0,SB)],[]⟩ g
def T(ad:LQ):=mkF ad 157 [] sp [Zbz.T ad] t0 (λn=>tl 3 ⟨[(0,.c (.sl u2)),(3,Si),(8,.c (.sl u2)),(9,Si),(10,Si)],[]⟩ (λ_=>l3 n) <| tn) t0 38 [] f (λa=>1000+a.length) (by kernel_rfl)
end Zbb
namespace Zay
def sp:Spec:=af ⟨[(0,Si)],[]⟩ ⟨[(0,Ss)],[]⟩ g
def T(ad:LQ):=mkF ad 178 [] sp [strconv_Itoa.T ad] t0 t0 t0 12 [] f (λa=>1000+a.toNat) (by kernel_rfl)
end Zay
namespace Zal
def sp:Spec:=af ⟨[(0,.agg c2)],[]⟩ ⟨[(0,SB)],[]⟩ g
def T(ad:LQ):=mkF ad 124 [] sp [Zdq.T ad,Zbb.T ad,Zak.T ad,Zay.T ad,Zan.T ad] (λn=>tj 12 ⟨[(3,Sp 0 0)],[(S 0,c1)]⟩ (λ_=>j12 n) <| tj 4 ⟨[(1,Sp 0 0),(3,Sp 1 0)],[(S 0,c2),(S 1,c1)]⟩ (λ_=>j4 n) <| tn) t0 t0 84 [] f (λa b c d e _ j k=>1000+a.toNat+b.toNat+c.toNat+d.toNat+e.toNat+j.length+k.length) (by kernel_rfl)
end Zal
namespace Zei
def sp:Spec:=af ⟨[(0,Si)],[]⟩ ⟨[(0,Si)],[]⟩ g
def T(ad:LQ):=mkF ad 126 [] sp [] t0 t0 t0 9 [] f (λa=>1000+a.toNat) (by kernel_rfl)
end Zei
namespace Zdc
def sp:Spec:=af ⟨[(0,Si)],[]⟩ ⟨[(0,SB)],[]⟩ g
def T(ad:LQ):=mkF ad 127 [] sp [] t0 t0 t0 9 [] f (λa=>1000+a.toNat) (by kernel_rfl)
end Zdc
namespace Zdr
def sp:Spec:=af ⟨[(0,Sp 0 0)],[(S 0,c2)]⟩ ⟨[(0,Sp 0 2)],[(Z,c2)]⟩ g
def T(ad:LQ):=mkF ad 181 [] sp [] t0 t0 t0 6 [] f (λa b c d e _ j k=>1000+a.toNat+b.toNat+c.toNat+d.toNat+e.toNat+j.length+k.length) (by kernel_rfl)
end Zdr
namespace Zds
def sp:Spec:=af ⟨[(0,Sp 0 0)],[(S 0,c2)]⟩ ⟨[(0,Sp 0 3)],[(Z,c2)]⟩ g
def T(ad:LQ):=mkF ad 182 [] sp [] t0 t0 t0 6 [] f (λa b c d e _ j k=>1000+a.toNat+b.toNat+c.toNat+d.toNat+e.toNat+j.length+k.length) (by kernel_rfl)
end Zds
namespace Zdt
def sp:Spec:=af ⟨[(0,Sp 0 0)],[(S 0,c2)]⟩ ⟨[(0,Sp 0 4)],[(Z,c2)]⟩ g
def T(ad:LQ):=mkF ad 183 [] sp [] t0 t0 t0 6 [] f (λa b c d e _ j k=>1000+a.toNat+b.toNat+c.toNat+d.toNat+e.toNat+j.length+k.length) (by kernel_rfl)
end Zdt
namespace Zcb
def sp:Spec:=af ⟨[(0,.agg c2),(1,.c (.pp .fn))],[]⟩ ⟨[(0,Ss)],[]⟩ g
def T(ad:LQ):=mkF ad 228 [] sp [Zdr.T ad,Zay.T ad,Zds.T ad,Zdt.T ad] t0 t0 t0 9 [K.atA,K.atB,K.atC] f (λa b c d e _ j k _=>1000+a.toNat+b.toNat+c.toNat+d.toNat+e.toNat+j.length+k.length) (by kernel_rfl)
end Zcb
namespace Zec
def sp:Spec:=af ⟨[(0,.c kq),(1,Si)],[]⟩ ⟨[(0,Ss)],[]⟩ g
def T(ad:LQ):=mkF ad 264 [] sp [internal_strconv_FormatUint.T ad] t0 t0 t0 8 [] f (λa b=>1000+a.toNat+b.toNat) (by kernel_rfl)
end Zec
namespace Zbc
def sp:Spec:=af ⟨[(0,.agg [.str,ki]),(1,Si)],[]⟩ ⟨[(0,Ss)],[]⟩ g
def T(ad:LQ):=mkF ad 265 [] sp [] t0 t0 t0 15 [] f (λa b c=>1000+a.length+b.toNat+c.toNat) (by kernel_rfl)
end Zbc
namespace Zaf
def sp:Spec:=af ⟨[(0,.c (.sl u2))],[]⟩ ⟨[(0,Ss),(1,Si)],[]⟩ g
def T(ad:LQ):=mkF ad 232 [] sp [Zbb.T ad,Zbz.T ad,Zec.T ad,Zbc.T ad] (λn=>tj 23 ⟨[(4,.c (.row 289 u0)),(7,Si),(10,Sp 0 0),(14,.c (.sl u2)),(15,Si),(16,Si)],[(S 2,[.str,ki])]⟩ (λms=>j23 n (l5 n ms.head!)) <| tn) (λn=>tl 5 ⟨[(4,.c (.row 289 u0)),(14,.c (.sl u2)),(15,Si),(16,Si)],[]⟩ (λ_=>l5 n) <| tn) t0 106 [] f (λa=>1000+a.length) (by kernel_rfl)
end Zaf
namespace Zcm
def sp:Spec:=af ⟨[(0,Ss),(1,Sb)],[]⟩ ⟨[(0,Ss)],[]⟩ g
def T(ad:LQ):=mkF ad 166 [] sp [] t0 (λn=>tl 1 ⟨[(0,Ss),(1,Sb)],[]⟩ (λ_=>l1 n) <| tn) t0 17 [] f (λa b=>1000+a.length+b.toNat) (by kernel_rfl)
end Zcm
namespace Zdd
def sp:Spec:=af ⟨[(0,Ss),(1,Ss)],[]⟩ ⟨[(0,Ss)],[]⟩ g
def T(ad:LQ):=mkF ad 233 [] sp [Zcm.T ad] (λn=>tj 5 ⟨[(0,Ss),(1,Ss)],[]⟩ (λ_=>j5 n) <| tn) t0 t0 37 [] f (λa b=>1000+a.length+b.length) (by kernel_rfl)
end Zdd
namespace Zdu
def sp:Spec:=af ⟨[(0,.agg c2),(1,.c (.pp .str))],[]⟩ ⟨[(0,Ss)],[]⟩ g
def T(ad:LQ):=mkF ad 231 [] sp [Zaf.T ad,Zdd.T ad] t0 t0 t0 17 [] f (λa b c d e _ j k l=>1000+a.toNat+b.toNat+c.toNat+d.toNat+e.toNat+j.length+k.length+l.length) (by kernel_rfl)
end Zdu
namespace Zfb
def sp:Spec:=af ⟨[(0,.agg c2)],[]⟩ ⟨[(0,Ss)],[]⟩ g
def T(ad:LQ):=mkF ad 186 [] sp [] t0 t0 t0 5 [] f (λa b c d e _ j k=>1000+a.toNat+b.toNat+c.toNat+d.toNat+e.toNat+j.length+k.length) (by kernel_rfl)
end Zfb
namespace Zad
def sp:Spec:=af ⟨[(0,Ss),(1,.agg c2)],[]⟩ ⟨[(0,Ss),(1,Si)],[]⟩ g
def T(ad:LQ):=mkF ad 81 [] sp [Zac.T ad,Zal.T ad,Zei.T ad,name_Mnemonic.T ad,Zdc.T ad,stmt_operands.T ad,strings_Join.T ad,Zcb.T ad,Zdu.T ad,Zfb.T ad] (λn=>tj 15 ⟨[(3,Sp 0 0),(6,.c (.row 9 .str)),(7,Ss),(8,.c (.row 9 .str)),(50,.c (.sl u4)),(51,Si),(52,Si)],[(S 0,c2)]⟩ (λms=>j15 n (l12 n ms.head!)) <| tj 17 ⟨[(6,.c (.row 9 .str))],[]⟩ (λ_=>j17 n) <| tj 10 ⟨[(3,Sp 0 0),(6,.c (.row 9 .str)),(7,Ss)],[(S 0,c2)]⟩ (λ_=>j10 n) <| tj 6 ⟨[(3,Sp 0 0),(6,.c (.row 9 .str))],[(S 0,c2)]⟩ (λ_=>j6 n) <| tj 3 ⟨[(0,Ss),(3,Sp 0 0)],[(S 1,c2)]⟩ (λ_=>j3 n) <| tn) (λn=>tl 12 ⟨[(3,Sp 0 0),(6,.c (.row 9 .str)),(7,Ss),(8,.c (.row 9 .str)),(50,.c (.sl u4)),(51,Si),(52,Si)],[(S 0,c2)]⟩ (λ_=>l12 n) <| tn) t0 72 [K.wrA,K.wrB,K.wrC,K.wrE,K.wrQ,K.wrN] f (λa b c d e i _ k l=>1000+a.length+b.toNat+c.toNat+d.toNat+e.toNat+i.toNat+k.length+l.length) (by kernel_rfl)
end Zad
namespace Zen
def sp:Spec:=af ⟨[(0,.agg c3)],[]⟩ ⟨[(0,Ss),(1,Si)],[]⟩ g
def T(ad:LQ):=mkF ad 80 [] sp [Zad.T ad] t0 t0 t0 11 [] f (λa b c d e i _ k l=>1000+a.length+b.toNat+c.toNat+d.toNat+e.toNat+i.toNat+k.length+l.length) (by kernel_rfl)
end Zen
namespace Zcx
def sp:Spec:=af ⟨[(0,.c (.sl u3)),(1,.c (.raw (.func (.func 80) #[] #[])))],[]⟩ ⟨[(0,.c (.row 9 .str)),(1,Si),(2,Si)],[]⟩ g
def T(ad:LQ):=mkF ad 79 [] sp [Zen.T ad] t0 (λn=>tl 5 ⟨[(1,.c (.raw (.func (.func 80) #[] #[]))),(7,.c (.row 9 .str)),(15,.c (.sl u3)),(16,Si),(17,Si)],[]⟩ (λ_=>l5 n) <| tn) t0 39 [] f (λa=>1000+a.length) (by kernel_rfl)
end Zcx
namespace Zdv
def sp:Spec:=af ⟨[(0,.c (.sl u3))],[]⟩ ⟨[(0,Ss),(1,Si),(2,Si)],[]⟩ g
def T(ad:LQ):=mkF ad 35 [] sp [Zcx.T ad,strings_Join.T ad] t0 t0 t0 20 [] f (λa=>1000+a.length) (by kernel_rfl)
end Zdv
namespace Zbs
def sp:Spec:=af ⟨[(0,.agg c0)],[]⟩ ⟨[(0,Ss),(1,Si)],[]⟩ g
def T(ad:LQ):=mkF ad 13 [] sp [Zdm.T ad,Zdv.T ad] t0 t0 t0 24 [] f (λa b c=>1000+a.length+b.length+c.length) (by kernel_rfl)
end Zbs
namespace Zcp
def sp:Spec:=af ⟨[],[]⟩ ⟨[(0,SB)],[]⟩ g
def T(ad:LQ):=mkF ad 9 [] sp [Zbs.T ad] t0 t0 t0 15 [] f (1000:G) (by kernel_rfl)
end Zcp
namespace Zbn
def sp:Spec:=af ⟨[(0,.c (.sl (.int .u8))),(1,Si)],[]⟩ ⟨[(0,.c (.row 3 (.int .i64)))],[]⟩ g
def T(ad:LQ):=mkF ad 48 [] sp [] (λn=>tj 4 ⟨[(0,.c (.sl (.int .u8))),(1,Si),(5,.c (.row 3 (.int .i64))),(6,Si)],[]⟩ (λms=>j4 n (l3 n ms.head!)) <| tn) (λn=>tl 3 ⟨[(0,.c (.sl (.int .u8))),(1,Si),(5,.c (.row 3 (.int .i64))),(6,Si)],[]⟩ (λ_=>l3 n) <| tn) t0 30 [] f (λa b=>1000+a.length+b.toNat) (by kernel_rfl)
end Zbn
namespace Zca
def sp:Spec:=af ⟨[(0,Ss)],[]⟩ ⟨[(0,Ss)],[]⟩ g
def T(ad:LQ):=mkF ad 49 [] sp [] t0 (λn=>tl 4 ⟨[(0,Ss),(3,Ss),(4,Ss),(5,Si)],[]⟩ (λ_=>l4 n) <| tn) t0 39 [] f (λa=>1000+a.length) (by kernel_rfl)
end Zca
namespace Zae
def sp:Spec:=af ⟨[(0,.c (.sl (.int .u32))),(1,.c (.sl (.int .u8))),(2,.c (.sl .str))],[]⟩ ⟨[(0,.agg c4)],[]⟩ g
def T(ad:LQ):=mkF ad 19 [] sp [Zbn.T ad,Zca.T ad] (λn=>tj 10 ⟨[(2,.c (.sl .str)),(6,Sp 0 0),(7,Sp 1 0),(8,Si),(10,Si)],[(S 1,c4),(S 2,c4)]⟩ (λms=>j10 n (l9 n ms.head!)) <| tj 16 ⟨[(2,.c (.sl .str)),(6,Sp 0 0),(7,Sp 1 0),(8,Si),(10,Si),(11,Ss),(12,Si)],[(S 1,c4),(S 2,c4)]⟩ (λms=>j16 n (l9 n ms.head!)) <| tj 15 ⟨[(2,.c (.sl .str)),(6,Sp 0 0),(7,Sp 1 0),(8,Si),(10,Si),(11,Ss),(12,Si)],[(S 1,c4),(S 2,c4)]⟩ (λms=>j15 n (l9 n ms.head!)) <| tj 18 ⟨[(6,Sp 0 0),(7,Sp 1 0)],[(S 0,c4),(S 1,c4)]⟩ (λ_=>j18 n) <| tn) (λn=>tl 13 ⟨[(2,.c (.sl .str)),(6,Sp 0 0),(7,Sp 1 0),(8,Si),(10,Si),(11,Ss),(12,Si)],[(S 1,c4),(S 2,c4)]⟩ (λms=>l13 n (l9 n ms.head!)) <| tl 9 ⟨[(2,.c (.sl .str)),(6,Sp 0 0),(7,Sp 1 0),(8,Si),(10,Si)],[(S 1,c4),(S 2,c4)]⟩ (λ_=>l9 n) <| tl 5 ⟨[(2,.c (.sl .str)),(6,Sp 0 0),(7,Sp 1 0),(8,Si),(9,Si)],[(S 1,c4),(S 2,c4)]⟩ (λ_=>l5 n) <| tn) t0 134 [] f (λa b c=>1000+a.length+b.length+c.length) (by kernel_rfl)
end Zae
namespace Zct
def sp:Spec:=af ⟨[(0,Sb)],[]⟩ ⟨[(0,SB)],[]⟩ g
def T(ad:LQ):=mkF ad 147 [] sp [] t0 t0 t0 21 [] f (λa=>1000+a.toNat) (by kernel_rfl)
end Zct
namespace Zda
def sp:Spec:=af ⟨[(0,Sb)],[]⟩ ⟨[(0,SB)],[]⟩ g
def T(ad:LQ):=mkF ad 149 [] sp [] t0 t0 t0 9 [] f (λa=>1000+a.toNat) (by kernel_rfl)
end Zda
namespace Zap
def sp:Spec:=af ⟨[(0,Ss)],[]⟩ ⟨[(0,Ss)],[]⟩ g
def T(ad:LQ):=mkF ad 148 [] sp [Zct.T ad,Zda.T ad] (λn=>tj 3 ⟨[(0,Ss),(3,Si)],[]⟩ (λms=>j3 n (l2 n ms.head!)) <| tj 4 ⟨[(0,Ss),(3,Si)],[]⟩ (λ_=>j4 n) <| tn) (λn=>tl 2 ⟨[(0,Ss),(3,Si)],[]⟩ (λ_=>l2 n) <| tn) t0 25 [] f (λa=>1000+a.length) (by kernel_rfl)
end Zap
namespace Zam
def sp:Spec:=af ⟨[(0,Sb)],[]⟩ ⟨[(0,Sb)],[]⟩ g
def T(ad:LQ):=mkF ad 268 [] sp [] t0 t0 t0 5 [] f (λa=>1000+a.toNat) (by kernel_rfl)
end Zam
namespace Zaa
def sp:Spec:=af ⟨[(0,Ss),(1,Si),(2,Si)],[]⟩ ⟨[(0,.c kq),(1,.c (.ifo 296 .i64))],[]⟩ g
def T(ad:LQ):=mkF ad 245 [] sp [Zam.T ad,internal_strconv_underscoreOK.T ad] (λn=>tj 55 ⟨[(1,Si),(8,SB),(9,Ss),(10,.c kq),(11,.c kq),(12,SB),(13,.c kq),(99,.c (.sl (.int .u8))),(100,Si),(101,Si)],[]⟩ (λms=>j55 n (l36 n ms.head!)) <| tj 46 ⟨[(1,Si),(8,SB),(9,Ss),(10,.c kq),(11,.c kq),(12,SB),(13,.c kq),(16,Sb),(99,.c (.sl (.int .u8))),(100,Si),(101,Si)],[]⟩ (λms=>j46 n (l36 n ms.head!)) <| tj 32 ⟨[(0,Ss),(1,Si),(2,Si),(8,SB),(9,Ss),(10,.c kq)],[]⟩ (λ_=>j32 n) <| tj 25 ⟨[(0,Ss),(1,Si),(2,Si),(8,SB),(9,Ss)],[]⟩ (λ_=>j25 n) <| tj 21 ⟨[(0,Ss),(1,Si),(2,Si),(8,SB),(9,Ss)],[]⟩ (λ_=>j21 n) <| tj 17 ⟨[(0,Ss),(1,Si),(2,Si),(8,SB),(9,Ss)],[]⟩ (λ_=>j17 n) <| tj 20 ⟨[(0,Ss),(1,Si),(2,Si),(8,SB),(9,Ss)],[]⟩ (λ_=>j20 n) <| tj 11 ⟨[(0,Ss),(1,Si),(2,Si),(8,SB),(9,Ss)],[]⟩ (λ_=>j11 n) <| tj 9 ⟨[(0,Ss),(1,Si),(2,Si),(8,SB),(9,Ss)],[]⟩ (λ_=>j9 n) <| tn) (λn=>tl 36 ⟨[(1,Si),(8,SB),(9,Ss),(10,.c kq),(11,.c kq),(12,SB),(13,.c kq),(99,.c (.sl (.int .u8))),(100,Si),(101,Si)],[]⟩ (λ_=>l36 n) <| tn) t0 172 [] f (λa b c=>1000+a.length+b.toNat+c.toNat) (by kernel_rfl)
end Zaa
namespace Zcu
def sp:Spec:=af ⟨[(0,Ss),(1,Si),(2,Si)],[]⟩ ⟨[(0,.c kq),(1,Se)],[]⟩ g
def T(ad:LQ):=mkF ad 202 [] sp [Zaa.T ad,strconv_toError.T ad] t0 t0 t0 26 [] f (λa b c=>1000+a.length+b.toNat+c.toNat) (by kernel_rfl)
end Zcu
namespace Zbu
def sp:Spec:=af ⟨[(0,Ss)],[]⟩ ⟨[(0,Su),(1,SB)],[]⟩ g
def T(ad:LQ):=mkF ad 150 [] sp [strings_CutPrefix.T ad,strings_Contains.T ad,Zcu.T ad] (λn=>tj 5 ⟨[(0,Ss),(4,Si)],[]⟩ (λ_=>j5 n) <| tn) t0 t0 28 [] f (λa=>1000+a.length) (by kernel_rfl)
end Zbu
namespace Zah
def sp:Spec:=af ⟨[(0,Ss)],[]⟩ ⟨[(0,.c (.row 199 u5)),(1,Si)],[]⟩ g
def T(ad:LQ):=mkF ad 94 [] sp [Zct.T ad,Zap.T ad,Zda.T ad,Zbu.T ad,strings_IndexByte.T ad] (λn=>tj 23 ⟨[(0,Ss),(4,.c (.row 199 u5)),(5,Si),(6,Sp 0 0)],[(S 3,[ki,ki,.str,ku])]⟩ (λms=>j23 n (g0 n ms.head!)) <| tn) t0 (λn=>tl 0 ⟨[(0,Ss),(4,.c (.row 199 u5)),(5,Si)],[]⟩ (λ_=>g0 n) <| tn) 108 [] f (λa=>1000+a.length) (by kernel_rfl)
end Zah
namespace Zaw
def sp:Spec:=af ⟨[(0,Sp 0 0),(1,SB)],[(S 0,[.sl u5,ki,ki])]⟩ ⟨[],[(Z,[.sl u5,ki,ki])]⟩ g
def T(ad:LQ):=mkF ad 152 [] sp [] t0 t0 t0 16 [] f (λ_ b c d=>1000+b.length+c.toNat+d.toNat) (by kernel_rfl)
end Zaw
namespace Zde
def sp:Spec:=af ⟨[(0,Sp 0 0),(1,Si)],[(S 0,[.sl u5,ki,ki])]⟩ ⟨[(0,Ss)],[(Z,[.sl u5,ki,ki])]⟩ g
def T(ad:LQ):=mkF ad 204 [] sp [] t0 t0 t0 48 [] f (λa b c d=>1000+a.toNat+b.length+c.toNat+d.toNat) (by kernel_rfl)
end Zde
namespace Zbw
def sp:Spec:=af ⟨[(0,Sp 0 0),(1,Si)],[(S 0,[.sl u5,ki,ki])]⟩ ⟨[(0,Ss)],[(Z,[.sl u5,ki,ki])]⟩ g
def T(ad:LQ):=mkF ad 154 [] sp [Zde.T ad] t0 t0 t0 17 [] f (λa b c d=>1000+a.toNat+b.length+c.toNat+d.toNat) (by kernel_rfl)
end Zbw
namespace Zaj
def sp:Spec:=af ⟨[(0,Ss),(1,Si),(2,Si)],[]⟩ ⟨[(0,Si),(1,.c (.ifo 296 .i64))],[]⟩ g
def T(ad:LQ):=mkF ad 289 [] sp [Zaa.T ad] (λn=>tj 21 ⟨[(8,SB),(9,.c kq)],[]⟩ (λ_=>j21 n) <| tj 19 ⟨[(8,SB),(9,.c kq),(10,.c kq)],[]⟩ (λ_=>j19 n) <| tj 16 ⟨[(2,Si),(8,SB),(9,.c kq)],[]⟩ (λ_=>j16 n) <| tj 14 ⟨[(2,Si),(8,SB),(9,.c kq)],[]⟩ (λ_=>j14 n) <| tj 10 ⟨[(0,Ss),(1,Si),(2,Si),(8,SB)],[]⟩ (λ_=>j10 n) <| tn) t0 t0 73 [] f (λa b c=>1000+a.length+b.toNat+c.toNat) (by kernel_rfl)
end Zaj
namespace Zaq
def sp:Spec:=af ⟨[(0,Ss)],[]⟩ ⟨[(0,Si),(1,.c (.ifo 296 .i64))],[]⟩ g
def T(ad:LQ):=mkF ad 274 [] sp [Zaj.T ad] (λn=>tj 8 ⟨[(0,Ss),(5,Ss)],[]⟩ (λ_=>j8 n) <| tj 6 ⟨[(0,Ss),(5,Ss)],[]⟩ (λ_=>j6 n) <| tj 20 ⟨[(0,Ss)],[]⟩ (λ_=>j20 n) <| tn) (λn=>tl 10 ⟨[(5,Ss),(6,Si),(47,.c (.sl (.int .u8))),(48,Si),(49,Si)],[]⟩ (λ_=>l10 n) <| tn) t0 77 [] f (λa=>1000+a.length) (by kernel_rfl)
end Zaq
namespace Zed
def sp:Spec:=af ⟨[(0,Ss)],[]⟩ ⟨[(0,Si),(1,Se)],[]⟩ g
def T(ad:LQ):=mkF ad 248 [] sp [Zaq.T ad,strconv_toError.T ad] t0 t0 t0 18 [] f (λa=>1000+a.length) (by kernel_rfl)
end Zed
namespace Zce
def sp:Spec:=af ⟨[(0,Ss)],[]⟩ ⟨[(0,Si),(1,SB)],[]⟩ g
def T(ad:LQ):=mkF ad 205 [] sp [strings_CutPrefix.T ad,Zed.T ad,Zay.T ad] t0 t0 t0 31 [] f (λa=>1000+a.length) (by kernel_rfl)
end Zce
namespace Zej
def sp:Spec:=af ⟨[(0,Sp 0 0),(1,Sp 1 0)],[(S 0,[.sl u5,ki,ki]),(S 1,c2)]⟩ ⟨[],[(Z,[.sl u5,ki,ki]),(Z,c2)]⟩ g
def T(ad:LQ):=mkF ad 155 [] sp [Zde.T ad,Zce.T ad] t0 t0 t0 50 [] f (λa b c d e i j k _ o p=>1000+a.length+b.toNat+c.toNat+d.toNat+e.toNat+i.toNat+j.toNat+k.toNat+o.length+p.length) (by kernel_rfl)
end Zej
namespace Zdf
def sp:Spec:=af ⟨[(0,Sp 0 0),(1,Sp 1 0),(2,.c (.pp .fn))],[(S 0,[.sl u5,ki,ki]),(S 1,c2)]⟩ ⟨[],[(Z,[.sl u5,ki,ki]),(Z,c2)]⟩ g
def T(ad:LQ):=mkF ad 227 [] sp [Zbw.T ad,Zce.T ad,Zaw.T ad,Zdr.T ad,Zds.T ad,Zdt.T ad] t0 t0 t0 21 [K.atA,K.atB,K.atC] f (λ_ b c d e i j k l _ p q=>1000+b.length+c.toNat+d.toNat+e.toNat+i.toNat+j.toNat+k.toNat+l.toNat+p.length+q.length) (by kernel_rfl)
end Zdf
namespace Zaz
def sp:Spec:=af ⟨[(0,Sp 0 0),(1,Si)],[(S 0,c6)]⟩ ⟨[],[(Z,c6)]⟩ g
def T(ad:LQ):=mkF ad 298 [] sp [] t0 t0 t0 13 [] f (λa b c d e=>1000+a.toNat+b.length+c.toNat+d.length+e.toNat) (by kernel_rfl)
end Zaz
namespace Zbf
def sp:Spec:=af ⟨[(0,Sp 0 0)],[(S 0,c6)]⟩ ⟨[(0,.agg [ki,ki,.str,ku]),(1,SB)],[(Z,c6)]⟩ g
def T(ad:LQ):=mkF ad 299 [] sp [] t0 t0 t0 39 [] f (λa b c d=>1000+a.length+b.toNat+c.length+d.toNat) (by kernel_rfl)
end Zbf
namespace Zag
def sp:Spec:=af ⟨[(0,Sp 0 0),(1,.c (.sl .str))],[(S 0,c6)]⟩ ⟨[(0,Ss),(1,SB)],[(Z,c6)]⟩ g
def T(ad:LQ):=mkF ad 296 [] sp [Zbf.T ad] (λn=>tj 8 ⟨[(0,Sp 0 0),(6,Sp 1 0),(7,SB),(15,.c (.sl .str)),(16,Si),(17,Si)],[(Z,c6),(S 1,[ki,ki,.str,ku])]⟩ (λms=>j8 n (l3 n ms.head!)) <| tn) (λn=>tl 3 ⟨[(0,Sp 0 0),(6,Sp 1 0),(7,SB),(15,.c (.sl .str)),(16,Si),(17,Si)],[(Z,c6),(S 1,[ki,ki,.str,ku])]⟩ (λ_=>l3 n) <| tn) t0 42 [] f (λa b c d e=>1000+a.length+b.length+c.toNat+d.length+e.toNat) (by kernel_rfl)
end Zag
namespace Zas
def sp:Spec:=af ⟨[(0,Sp 0 0),(1,.agg [ki,ku,.str])],[(S 0,c6)]⟩ ⟨[],[(Z,c6)]⟩ g
def T(ad:LQ):=mkF ad 297 [] sp [] t0 t0 t0 14 [] f (λa b c d e i j=>1000+a.toNat+b.toNat+c.length+d.length+e.toNat+i.length+j.toNat) (by kernel_rfl)
end Zas
def expr_parser_sum.spq(q:G):Spec:=af ⟨[(0,Sp 0 0),(1,Si)],[(S 0,c6)]⟩ ⟨[],[(Z,c6)]⟩ (ah q).expr_parser_sum
def expr_parser_row_c283.spq(q:G):Spec:=af ⟨[(0,Sp 0 0),(1,.clo 283 [.ptr 1 0,.ptr 2 0]),(2,.c (.sl .str))],[(S 0,c6),(S 1,[.ptr 0 0]),(S 2,[ki])]⟩ ⟨[],[(Z,c6),(Z,[.ptr 0 0]),(Z,[ki])]⟩ (ah q).expr_parser_row_c283
def expr_parser_sum_1.spq(q:G):Spec:=af ⟨[(0,Sp 0 0),(1,Sp 1 0)],[(S 0,[.ptr 2 0]),(S 1,[ki]),(S 2,c6)]⟩ ⟨[],[(Z,[.ptr 2 0]),(Z,[ki]),(Z,c6)]⟩ (ah q).expr_parser_sum_1
def expr_parser_row_c284.spq(q:G):Spec:=af ⟨[(0,Sp 0 0),(1,.clo 284 [.ptr 1 0,.ptr 2 0]),(2,.c (.sl .str))],[(S 0,c6),(S 1,[.ptr 0 0]),(S 2,[ki])]⟩ ⟨[],[(Z,c6),(Z,[.ptr 0 0]),(Z,[ki])]⟩ (ah q).expr_parser_row_c284
def expr_parser_sum_1_1.spq(q:G):Spec:=af ⟨[(0,Sp 0 0),(1,Sp 1 0)],[(S 0,[.ptr 2 0]),(S 1,[ki]),(S 2,c6)]⟩ ⟨[],[(Z,[.ptr 2 0]),(Z,[ki]),(Z,c6)]⟩ (ah q).expr_parser_sum_1_1
def expr_parser_factor.spq(q:G):Spec:=af ⟨[(0,Sp 0 0),(1,Si)],[(S 0,c6)]⟩ ⟨[],[(Z,c6)]⟩ (ah q).expr_parser_factor
namespace expr_parser_sum
theorem step(q:G)(ih:Sat P (LW ad) 263 (expr_parser_sum.spq q)/\Sat P (LW ad) 282 (expr_parser_row_c283.spq q)/\Sat P (LW ad) 283 (expr_parser_sum_1.spq q)/\Sat P (LW ad) 282 (expr_parser_row_c284.spq q)/\Sat P (LW ad) 284 (expr_parser_sum_1_1.spq q)/\Sat P (LW ad) 285 (expr_parser_factor.spq q)/\True):Sat P (LW ad) 263 (spq (q+1)):=o9 mixed iE jy 263 (spq (q+1)) [((282,[283]),expr_parser_row_c283.spq q)] (eY ih.2.1 (aI (by kernel_rfl)) ic) t0 t0 t0 8 [] (λn=>f n (ah q)) (λa b c d e=>1000+a.toNat+b.length+c.toNat+d.length+e.toNat) (by kernel_rfl) (by kernel_rfl)
end expr_parser_sum
namespace expr_parser_row_c283
theorem step(q:G)(ih:Sat P (LW ad) 263 (expr_parser_sum.spq q)/\Sat P (LW ad) 282 (expr_parser_row_c283.spq q)/\Sat P (LW ad) 283 (expr_parser_sum_1.spq q)/\Sat P (LW ad) 282 (expr_parser_row_c284.spq q)/\Sat P (LW ad) 284 (expr_parser_sum_1_1.spq q)/\Sat P (LW ad) 285 (expr_parser_factor.spq q)/\True):Sat P (LW ad) 282 (spq (q+1)):=o9 mixed iE jy 282 (spq (q+1)) [((283,[]),expr_parser_sum_1.spq q),(Zag.T ad).kv,(Zas.T ad).kv] (eY ih.2.2.1 (aI (by kernel_rfl)) (iR (Zag.T ad) (iR (Zas.T ad) ic))) t0 (λn=>tl 1 ⟨[(0,Sp 0 0),(1,.clo 283 [.ptr 1 0,.ptr 2 0]),(2,.c (.sl .str))],[(Z,c6),(Z,[.ptr 0 0]),(Z,[ki])]⟩ (λ_=>l1 n (ah q)) <| tn) t0 26 [] (λn=>f n (ah q)) (λa b c d e i=>1000+a.length+b.length+c.toNat+d.length+e.toNat+i.toNat) (by kernel_rfl) (by kernel_rfl)
end expr_parser_row_c283
namespace expr_parser_sum_1
theorem step(q:G)(ih:Sat P (LW ad) 263 (expr_parser_sum.spq q)/\Sat P (LW ad) 282 (expr_parser_row_c283.spq q)/\Sat P (LW ad) 283 (expr_parser_sum_1.spq q)/\Sat P (LW ad) 282 (expr_parser_row_c284.spq q)/\Sat P (LW ad) 284 (expr_parser_sum_1_1.spq q)/\Sat P (LW ad) 285 (expr_parser_factor.spq q)/\True):Sat P (LW ad) 283 (spq (q+1)):=o9 mixed iE jy 283 (spq (q+1)) [((282,[284]),expr_parser_row_c284.spq q)] (eY ih.2.2.2.1 (aI (by kernel_rfl)) ic) t0 t0 t0 6 [] (λn=>f n (ah q)) (λa b c d e=>1000+a.toNat+b.length+c.toNat+d.length+e.toNat) (by kernel_rfl) (by kernel_rfl)
end expr_parser_sum_1
namespace expr_parser_row_c284
theorem step(q:G)(ih:Sat P (LW ad) 263 (expr_parser_sum.spq q)/\Sat P (LW ad) 282 (expr_parser_row_c283.spq q)/\Sat P (LW ad) 283 (expr_parser_sum_1.spq q)/\Sat P (LW ad) 282 (expr_parser_row_c284.spq q)/\Sat P (LW ad) 284 (expr_parser_sum_1_1.spq q)/\Sat P (LW ad) 285 (expr_parser_factor.spq q)/\True):Sat P (LW ad) 282 (spq (q+1)):=o9 mixed iE jy 282 (spq (q+1)) [((284,[]),expr_parser_sum_1_1.spq q),(Zag.T ad).kv,(Zas.T ad).kv] (eY ih.2.2.2.2.1 (aI (by kernel_rfl)) (iR (Zag.T ad) (iR (Zas.T ad) ic))) t0 (λn=>tl 1 ⟨[(0,Sp 0 0),(1,.clo 284 [.ptr 1 0,.ptr 2 0]),(2,.c (.sl .str))],[(Z,c6),(Z,[.ptr 0 0]),(Z,[ki])]⟩ (λ_=>l1 n (ah q)) <| tn) t0 26 [] (λn=>f n (ah q)) (λa b c d e i=>1000+a.length+b.length+c.toNat+d.length+e.toNat+i.toNat) (by kernel_rfl) (by kernel_rfl)
end expr_parser_row_c284
namespace expr_parser_sum_1_1
theorem step(q:G)(ih:Sat P (LW ad) 263 (expr_parser_sum.spq q)/\Sat P (LW ad) 282 (expr_parser_row_c283.spq q)/\Sat P (LW ad) 283 (expr_parser_sum_1.spq q)/\Sat P (LW ad) 282 (expr_parser_row_c284.spq q)/\Sat P (LW ad) 284 (expr_parser_sum_1_1.spq q)/\Sat P (LW ad) 285 (expr_parser_factor.spq q)/\True):Sat P (LW ad) 284 (spq (q+1)):=o9 mixed iE jy 284 (spq (q+1)) [((285,[]),expr_parser_factor.spq q)] (eY ih.2.2.2.2.2.1 (aI (by kernel_rfl)) ic) t0 t0 t0 5 [] (λn=>f n (ah q)) (λa b c d e=>1000+a.toNat+b.length+c.toNat+d.length+e.toNat) (by kernel_rfl) (by kernel_rfl)
end expr_parser_sum_1_1
namespace expr_parser_factor
theorem step(q:G)(ih:Sat P (LW ad) 263 (expr_parser_sum.spq q)/\Sat P (LW ad) 282 (expr_parser_row_c283.spq q)/\Sat P (LW ad) 283 (expr_parser_sum_1.spq q)/\Sat P (LW ad) 282 (expr_parser_row_c284.spq q)/\Sat P (LW ad) 284 (expr_parser_sum_1_1.spq q)/\Sat P (LW ad) 285 (expr_parser_factor.spq q)/\True):Sat P (LW ad) 285 (spq (q+1)):=o9 mixed iE jy 285 (spq (q+1)) [(Zaz.T ad).kv,(Zag.T ad).kv,((285,[]),expr_parser_factor.spq q),(Zas.T ad).kv,((263,[]),expr_parser_sum.spq q),(Zbf.T ad).kv,(Zac.T ad).kv] (iR (Zaz.T ad) (iR (Zag.T ad) (eY ih.2.2.2.2.2.1 (aI (by kernel_rfl)) (iR (Zas.T ad) (eY ih.1 (aI (by kernel_rfl)) (iR (Zbf.T ad) (iR (Zac.T ad) ic))))))) (λn=>tj 19 ⟨[(0,Sp 0 0)],[(Z,c6)]⟩ (λ_=>j19 n (ah q)) <| tn) t0 t0 94 [] (λn=>f n (ah q)) (λa b c d e=>1000+a.toNat+b.length+c.toNat+d.length+e.toNat) (by kernel_rfl) (by kernel_rfl)
end expr_parser_factor
theorem aF:∀q,Sat P (LW ad) 263 (expr_parser_sum.spq q)/\Sat P (LW ad) 282 (expr_parser_row_c283.spq q)/\Sat P (LW ad) 283 (expr_parser_sum_1.spq q)/\Sat P (LW ad) 282 (expr_parser_row_c284.spq q)/\Sat P (LW ad) 284 (expr_parser_sum_1_1.spq q)/\Sat P (LW ad) 285 (expr_parser_factor.spq q)/\True
 |0=>⟨jZ λ_=>rfl,jZ λ_=>rfl,jZ λ_=>rfl,jZ λ_=>rfl,jZ λ_=>rfl,jZ λ_=>rfl,trivial⟩
 |q+1=>⟨expr_parser_sum.step q (aF q),expr_parser_row_c283.step q (aF q),expr_parser_sum_1.step q (aF q),expr_parser_row_c284.step q (aF q),expr_parser_sum_1_1.step q (aF q),expr_parser_factor.step q (aF q),trivial⟩
def expr_parser_sum.sp:Spec:=af ⟨[(0,Sp 0 0),(1,Si)],[(S 0,c6)]⟩ ⟨[],[(Z,c6)]⟩ expr_parser_sum.g
def expr_parser_sum.T(ad:LQ):TF P (LW ad):=⟨263,[],expr_parser_sum.sp,oD (F:=λq=>(ah q).expr_parser_sum) (λa b c d e=>1000+a.toNat+b.length+c.toNat+d.length+e.toNat) (λq=>(aF q).1) (λ_=>by kernel_rfl),aI (by kernel_rfl)⟩
def expr_parser_row_c283.sp:Spec:=af ⟨[(0,Sp 0 0),(1,.clo 283 [.ptr 1 0,.ptr 2 0]),(2,.c (.sl .str))],[(S 0,c6),(S 1,[.ptr 0 0]),(S 2,[ki])]⟩ ⟨[],[(Z,c6),(Z,[.ptr 0 0]),(Z,[ki])]⟩ expr_parser_row_c283.g
def expr_parser_row_c283.T(ad:LQ):TF P (LW ad):=⟨282,[283],expr_parser_row_c283.sp,oD (F:=λq=>(ah q).expr_parser_row_c283) (λa b c d e i=>1000+a.length+b.length+c.toNat+d.length+e.toNat+i.toNat) (λq=>(aF q).2.1) (λ_=>by kernel_rfl),aI (by kernel_rfl)⟩
def expr_parser_sum_1.sp:Spec:=af ⟨[(0,Sp 0 0),(1,Sp 1 0)],[(S 0,[.ptr 2 0]),(S 1,[ki]),(S 2,c6)]⟩ ⟨[],[(Z,[.ptr 2 0]),(Z,[ki]),(Z,c6)]⟩ expr_parser_sum_1.g
def expr_parser_sum_1.T(ad:LQ):TF P (LW ad):=⟨283,[],expr_parser_sum_1.sp,oD (F:=λq=>(ah q).expr_parser_sum_1) (λa b c d e=>1000+a.toNat+b.length+c.toNat+d.length+e.toNat) (λq=>(aF q).2.2.1) (λ_=>by kernel_rfl),aI (by kernel_rfl)⟩
def expr_parser_row_c284.sp:Spec:=af ⟨[(0,Sp 0 0),(1,.clo 284 [.ptr 1 0,.ptr 2 0]),(2,.c (.sl .str))],[(S 0,c6),(S 1,[.ptr 0 0]),(S 2,[ki])]⟩ ⟨[],[(Z,c6),(Z,[.ptr 0 0]),(Z,[ki])]⟩ expr_parser_row_c284.g
def expr_parser_row_c284.T(ad:LQ):TF P (LW ad):=⟨282,[284],expr_parser_row_c284.sp,oD (F:=λq=>(ah q).expr_parser_row_c284) (λa b c d e i=>1000+a.length+b.length+c.toNat+d.length+e.toNat+i.toNat) (λq=>(aF q).2.2.2.1) (λ_=>by kernel_rfl),aI (by kernel_rfl)⟩
def expr_parser_sum_1_1.sp:Spec:=af ⟨[(0,Sp 0 0),(1,Sp 1 0)],[(S 0,[.ptr 2 0]),(S 1,[ki]),(S 2,c6)]⟩ ⟨[],[(Z,[.ptr 2 0]),(Z,[ki]),(Z,c6)]⟩ expr_parser_sum_1_1.g
def expr_parser_sum_1_1.T(ad:LQ):TF P (LW ad):=⟨284,[],expr_parser_sum_1_1.sp,oD (F:=λq=>(ah q).expr_parser_sum_1_1) (λa b c d e=>1000+a.toNat+b.length+c.toNat+d.length+e.toNat) (λq=>(aF q).2.2.2.2.1) (λ_=>by kernel_rfl),aI (by kernel_rfl)⟩
def expr_parser_factor.sp:Spec:=af ⟨[(0,Sp 0 0),(1,Si)],[(S 0,c6)]⟩ ⟨[],[(Z,c6)]⟩ expr_parser_factor.g
def expr_parser_factor.T(ad:LQ):TF P (LW ad):=⟨285,[],expr_parser_factor.sp,oD (F:=λq=>(ah q).expr_parser_factor) (λa b c d e=>1000+a.toNat+b.length+c.toNat+d.length+e.toNat) (λq=>(aF q).2.2.2.2.2.1) (λ_=>by kernel_rfl),aI (by kernel_rfl)⟩
namespace Zau
def sp:Spec:=af ⟨[(0,.c (.sl u5)),(1,Si)],[]⟩ ⟨[(0,.c (.row 53 u2)),(1,Si),(2,Si)],[]⟩ g
def T(ad:LQ):=mkF ad 230 [] sp [expr_parser_sum.T ad] (λn=>tj 5 ⟨[(7,Sp 0 0)],[(S 0,c6)]⟩ (λ_=>j5 n) <| tn) t0 t0 47 [] f (λa b=>1000+a.length+b.toNat) (by kernel_rfl)
end Zau
namespace Zbl
def sp:Spec:=af ⟨[(0,Sp 0 0),(1,Sp 1 0),(2,.c (.pp .str))],[(S 0,[.sl u5,ki,ki]),(S 1,c2)]⟩ ⟨[],[(Z,[.sl u5,ki,ki]),(Z,c2)]⟩ g
def T(ad:LQ):=mkF ad 229 [] sp [Zbw.T ad,Zaw.T ad,Zau.T ad] (λn=>tj 2 ⟨[(0,Sp 0 0),(1,Sp 1 0)],[(Z,[.sl u5,ki,ki]),(Z,c2)]⟩ (λ_=>j2 n) <| tn) t0 t0 40 [] f (λa b c d e i j k l _ p q=>1000+a.length+b.length+c.toNat+d.toNat+e.toNat+i.toNat+j.toNat+k.toNat+l.toNat+p.length+q.length) (by kernel_rfl)
end Zbl
namespace Zek
def sp:Spec:=af ⟨[(0,Sp 0 0),(1,Sp 1 0)],[(S 0,[.sl u5,ki,ki]),(S 1,c2)]⟩ ⟨[],[(Z,[.sl u5,ki,ki]),(Z,c2)]⟩ g
def T(ad:LQ):=mkF ad 185 [] sp [Zbw.T ad,Zak.T ad,Zaw.T ad] t0 t0 t0 16 [] f (λa b c d e i j k _ o p=>1000+a.length+b.toNat+c.toNat+d.toNat+e.toNat+i.toNat+j.toNat+k.toNat+o.length+p.length) (by kernel_rfl)
end Zek
namespace Zab
def sp:Spec:=af ⟨[(0,.c (.sl u5))],[]⟩ ⟨[(0,Ss),(1,.agg c2),(2,Si)],[]⟩ g
def T(ad:LQ):=mkF ad 95 [] sp [Zac.T ad,Zaw.T ad,name_Of.T ad,Zdc.T ad,stmt_operands.T ad,Zbw.T ad,Zej.T ad,Zdf.T ad,Zbl.T ad,Zek.T ad] (λn=>tj 20 ⟨[(0,.c (.sl u5)),(2,Ss),(3,Sp 0 0),(5,Sp 1 0),(8,Si),(11,Si),(116,Si),(117,Si)],[(S 2,c2),(S 3,[.sl u5,ki,ki])]⟩ (λms=>j20 n (l13 n ms.head!)) <| tj 19 ⟨[(0,.c (.sl u5)),(2,Ss),(3,Sp 0 0),(5,Sp 1 0),(8,Si),(11,Si),(12,Si),(116,Si),(117,Si)],[(S 2,c2),(S 3,[.sl u5,ki,ki])]⟩ (λms=>j19 n (l13 n ms.head!)) <| tj 17 ⟨[(0,.c (.sl u5)),(2,Ss),(3,Sp 0 0),(5,Sp 1 0),(8,Si),(11,Si),(12,Si),(116,Si),(117,Si)],[(S 2,c2),(S 3,[.sl u5,ki,ki])]⟩ (λms=>j17 n (l13 n ms.head!)) <| tj 22 ⟨[(2,Ss),(3,Sp 0 0),(5,Sp 1 0)],[(S 1,c2),(S 2,[.sl u5,ki,ki])]⟩ (λ_=>j22 n) <| tj 9 ⟨[(0,.c (.sl u5)),(2,Ss),(3,Sp 0 0),(5,Sp 1 0),(7,Si),(8,Si),(9,SB)],[(S 2,c2),(S 3,[.sl u5,ki,ki])]⟩ (λ_=>j9 n) <| tj 5 ⟨[(0,.c (.sl u5)),(2,Ss),(3,Sp 0 0),(5,Sp 1 0)],[(S 2,c2),(S 3,[.sl u5,ki,ki])]⟩ (λ_=>j5 n) <| tn) (λn=>tl 13 ⟨[(0,.c (.sl u5)),(2,Ss),(3,Sp 0 0),(5,Sp 1 0),(8,Si),(11,Si),(116,Si),(117,Si)],[(S 2,c2),(S 3,[.sl u5,ki,ki])]⟩ (λ_=>l13 n) <| tn) t0 165 [K.rdA,K.rdB,K.rdC,K.rdE,K.rdQ,K.rdN] f (λa=>1000+a.length) (by kernel_rfl)
end Zab
namespace Zeo
def sp:Spec:=af ⟨[(0,Ss)],[]⟩ ⟨[(0,.agg c3),(1,Si)],[]⟩ g
def T(ad:LQ):=mkF ad 55 [] sp [Zah.T ad,Zab.T ad] t0 t0 t0 27 [] f (λa=>1000+a.length) (by kernel_rfl)
end Zeo
namespace Zcn
def sp:Spec:=af ⟨[(0,.c (.sl .str)),(1,.c (.raw (.func (.func 55) #[] #[])))],[]⟩ ⟨[(0,.c (.row 78 u3)),(1,Si),(2,Si)],[]⟩ g
def T(ad:LQ):=mkF ad 54 [] sp [Zeo.T ad] t0 (λn=>tl 5 ⟨[(1,.c (.raw (.func (.func 55) #[] #[]))),(7,.c (.row 78 u3)),(15,.c (.sl .str)),(16,Si),(17,Si)],[]⟩ (λ_=>l5 n) <| tn) t0 39 [] f (λa=>1000+a.length) (by kernel_rfl)
end Zcn
namespace Zbm
def sp:Spec:=af ⟨[(0,Ss)],[]⟩ ⟨[(0,.c (.row 78 u3)),(1,Si),(2,Si)],[]⟩ g
def T(ad:LQ):=mkF ad 21 [] sp [strings_Split.T ad,Zcn.T ad] (λn=>tj 7 ⟨[(5,.c (.sl .str))],[]⟩ (λ_=>j7 n) <| tn) t0 t0 28 [] f (λa=>1000+a.length) (by kernel_rfl)
end Zbm
namespace Zex
def sp:Spec:=af ⟨[(0,.agg [.str,ki]),(1,Sp 0 0)],[(S 2,[.str])]⟩ ⟨[(0,SB)],[(Z,[.str])]⟩ g
def T(ad:LQ):=mkF ad 156 [] sp [] t0 t0 t0 8 [] f (λa b c=>1000+a.length+b.toNat+c.length) (by kernel_rfl)
end Zex
namespace Zcf
def sp:Spec:=af ⟨[(0,.c (.sl u0)),(1,.clo 156 [.ptr 0 0])],[(S 1,[.str])]⟩ ⟨[(0,Si)],[(Z,[.str])]⟩ g
def T(ad:LQ):=mkF ad 114 [156] sp [Zex.T ad] t0 (λn=>tl 2 ⟨[(0,.c (.sl u0)),(1,.clo 156 [.ptr 0 0]),(7,Si),(8,Si)],[(Z,[.str])]⟩ (λ_=>l2 n) <| tn) t0 19 [] f (λa b=>1000+a.length+b.length) (by kernel_rfl)
end Zcf
namespace Zcg
def sp:Spec:=af ⟨[(0,.c (.sl u0)),(1,Ss)],[]⟩ ⟨[(0,Si),(1,SB)],[]⟩ g
def T(ad:LQ):=mkF ad 97 [] sp [Zcf.T ad] t0 t0 t0 17 [] f (λa b=>1000+a.length+b.length) (by kernel_rfl)
end Zcg
namespace Zep
def sp:Spec:=af ⟨[(0,.agg c2)],[]⟩ ⟨[(0,Si)],[]⟩ g
def T(ad:LQ):=mkF ad 98 [] sp [] t0 t0 t0 8 [] f (λa b c d e _ j k=>1000+a.toNat+b.toNat+c.toNat+d.toNat+e.toNat+j.length+k.length) (by kernel_rfl)
end Zep
namespace Zcy
def sp:Spec:=af ⟨[(0,.agg c3),(1,Sp 0 0)],[(S 9,c7)]⟩ ⟨[(0,Si)],[(Z,c7)]⟩ g
def T(ad:LQ):=mkF ad 96 [] sp [Zcg.T ad,Zep.T ad] (λn=>tj 7 ⟨[(1,Sp 0 0),(2,Sp 1 0)],[(Z,c7),(S 1,c3)]⟩ (λ_=>j7 n) <| tn) t0 t0 43 [] f (λa b c d e i _ k l o p q r s=>1000+a.length+b.toNat+c.toNat+d.toNat+e.toNat+i.toNat+k.length+l.length+o.length+p.length+q.length+r.toNat+s.toNat) (by kernel_rfl)
end Zcy
namespace Zdh
def sp:Spec:=af ⟨[(0,.c (.sl u3)),(1,.clo 96 [.ptr 0 0])],[(S 1,c7)]⟩ ⟨[(0,Si),(1,Si)],[(Z,c7)]⟩ g
def T(ad:LQ):=mkF ad 102 [96] sp [Zcy.T ad] t0 (λn=>tl 2 ⟨[(1,.clo 96 [.ptr 0 0]),(9,.c (.sl u3)),(10,Si),(11,Si)],[(Z,c7)]⟩ (λ_=>l2 n) <| tn) t0 25 [] f (λa b c d e i=>1000+a.length+b.length+c.length+d.length+e.toNat+i.toNat) (by kernel_rfl)
end Zdh
namespace Zbp
def sp:Spec:=af ⟨[(0,Sp 0 0)],[(S 0,[.row 106 u6])]⟩ ⟨[(0,.agg [ku,ki])],[(Z,[.row 106 u6])]⟩ g
def T(ad:LQ):=mkF ad 159 [] sp [] t0 t0 t0 24 [] f (λa=>1000+a.length) (by kernel_rfl)
end Zbp
namespace Zdn
def sp:Spec:=af ⟨[(0,.agg [ku,ki]),(1,Si)],[]⟩ ⟨[(0,.agg [ku,ki])],[]⟩ g
def T(ad:LQ):=mkF ad 158 [] sp [] t0 t0 t0 15 [] f (λa b c=>1000+a.toNat+b.toNat+c.toNat) (by kernel_rfl)
end Zdn
namespace Zey
def sp:Spec:=af ⟨[(0,.agg [ku,ki]),(1,.agg [ku,ki])],[]⟩ ⟨[(0,.agg [ku,ki])],[]⟩ g
def T(ad:LQ):=mkF ad 160 [] sp [] t0 t0 t0 16 [] f (λa b c d=>1000+a.toNat+b.toNat+c.toNat+d.toNat) (by kernel_rfl)
end Zey
namespace Zai
def sp:Spec:=af ⟨[(0,.c (.sl u2)),(1,.c (.sl u0))],[]⟩ ⟨[(0,.agg [ku,ki]),(1,Si)],[]⟩ g
def T(ad:LQ):=mkF ad 100 [] sp [Zbb.T ad,Zcg.T ad,Zbp.T ad,Zdn.T ad,Zey.T ad] (λn=>tj 27 ⟨[(1,.c (.sl u0)),(4,Sp 0 0),(6,Sp 1 0),(9,Sp 2 0),(20,.c (.sl u2)),(21,Si),(22,Si)],[(S 1,[ku,ki]),(S 2,[.row 106 u6]),(S 3,[ku,ki])]⟩ (λms=>j27 n (l5 n ms.head!)) <| tn) (λn=>tl 5 ⟨[(1,.c (.sl u0)),(4,Sp 0 0),(6,Sp 1 0),(20,.c (.sl u2)),(21,Si),(22,Si)],[(S 1,[ku,ki]),(S 2,[.row 106 u6])]⟩ (λ_=>l5 n) <| tn) t0 92 [] f (λa b=>1000+a.length+b.length) (by kernel_rfl)
end Zai
namespace Zfc
def sp:Spec:=af ⟨[(0,.c (.sl u6))],[]⟩ ⟨[(0,.c (.slc u6))],[]⟩ g
def T(ad:LQ):=mkF ad 161 [] sp [] t0 t0 t0 9 [] f (λa=>1000+a.length) (by kernel_rfl)
end Zfc
namespace Zbx
def sp:Spec:=af ⟨[(0,.c (.sl u6)),(1,.agg [ku,ki])],[]⟩ ⟨[(0,.c (.sl u6)),(1,Si)],[]⟩ g
def T(ad:LQ):=mkF ad 101 [] sp [Zfc.T ad] t0 (λn=>tl 2 ⟨[(0,.c (.sl u6)),(3,Sp 0 0),(8,.c (.sl u6)),(9,Si),(10,Si)],[(S 1,[ku,ki])]⟩ (λ_=>l2 n) <| tn) t0 28 [] f (λa b c=>1000+a.length+b.toNat+c.toNat) (by kernel_rfl)
end Zbx
namespace Zeq
def sp:Spec:=af ⟨[(0,.agg c3),(1,Sp 0 0)],[(S 9,c7)]⟩ ⟨[(0,Si)],[(Z,c7)]⟩ g
def T(ad:LQ):=mkF ad 99 [] sp [Zai.T ad,Zbx.T ad] t0 t0 t0 40 [] f (λa b c d e i _ k l o p q r s=>1000+a.length+b.toNat+c.toNat+d.toNat+e.toNat+i.toNat+k.length+l.length+o.length+p.length+q.length+r.toNat+s.toNat) (by kernel_rfl)
end Zeq
namespace Zdi
def sp:Spec:=af ⟨[(0,.c (.sl u3)),(1,.clo 99 [.ptr 0 0])],[(S 1,c7)]⟩ ⟨[(0,Si),(1,Si)],[(Z,c7)]⟩ g
def T(ad:LQ):=mkF ad 102 [99] sp [Zeq.T ad] t0 (λn=>tl 2 ⟨[(1,.clo 99 [.ptr 0 0]),(9,.c (.sl u3)),(10,Si),(11,Si)],[(Z,c7)]⟩ (λ_=>l2 n) <| tn) t0 25 [] f (λa b c d e i=>1000+a.length+b.length+c.length+d.length+e.toNat+i.toNat) (by kernel_rfl)
end Zdi
namespace Zbg
def sp:Spec:=af ⟨[(0,.c (.sl u3))],[]⟩ ⟨[(0,.agg c7),(1,Si),(2,Si)],[]⟩ g
def T(ad:LQ):=mkF ad 56 [] sp [Zdh.T ad,Zdi.T ad] (λn=>tj 7 ⟨[(0,.c (.sl u3)),(2,Sp 0 0),(3,Si),(4,Si),(13,.c (.clr 0 [96,99])),(14,Si),(15,Si)],[(S 1,c7)]⟩ (λms=>j7 n (l4 n ms.head!)) <| tn) (λn=>tl 4 ⟨[(0,.c (.sl u3)),(2,Sp 0 0),(13,.c (.clr 0 [96,99])),(14,Si),(15,Si)],[(S 1,c7)]⟩ (λ_=>l4 n) <| tn) t0 44 [] f (λa=>1000+a.length) (by kernel_rfl)
end Zbg
namespace Zfd
def sp:Spec:=af ⟨[(0,.agg [.str,ki]),(1,Ss)],[]⟩ ⟨[(0,Si)],[]⟩ g
def T(ad:LQ):=mkF ad 163 [] sp [strings_Compare.T ad] t0 t0 t0 9 [] f (λa b c=>1000+a.length+b.toNat+c.length) (by kernel_rfl)
end Zfd
namespace Zcd
def sp:Spec:=af ⟨[(0,.c (.sl u0)),(1,Ss),(2,.c (.raw (.func (.func 163) #[] #[])))],[]⟩ ⟨[(0,Si),(1,SB)],[]⟩ g
def T(ad:LQ):=mkF ad 162 [] sp [Zfd.T ad] t0 (λn=>tl 3 ⟨[(0,.c (.sl u0)),(1,Ss),(2,.c (.raw (.func (.func 163) #[] #[]))),(8,Si),(9,Si),(10,Si)],[]⟩ (λ_=>l3 n) <| tn) t0 49 [] f (λa b=>1000+a.length+b.length) (by kernel_rfl)
end Zcd
namespace Zer
def sp:Spec:=af ⟨[(0,Sp 0 0),(1,Ss)],[(S 0,c8)]⟩ ⟨[(0,Si)],[(Z,c8)]⟩ g
def T(ad:LQ):=mkF ad 104 [] sp [Zcg.T ad,Zcd.T ad,Zak.T ad,slices_Insert_api_Sym_api_Sym.T ad] t0 t0 t0 53 [] f (λa b c d e i j k l=>1000+a.length+b.length+c.length+d.length+e.toNat+i.toNat+j.length+k.length+l.length) (by kernel_rfl)
end Zer
namespace Zar
def sp:Spec:=af ⟨[(0,.c (.sl u2)),(1,.c (.sl u0)),(2,Si),(3,Si)],[]⟩ ⟨[(0,Si),(1,Si)],[]⟩ g
def T(ad:LQ):=mkF ad 105 [] sp [Zai.T ad] (λn=>tj 11 ⟨[(2,Si),(3,Si),(35,.agg [ki,ki]),(36,Si)],[]⟩ (λms=>j11 n (l7 n ms.head!)) <| tn) (λn=>tl 7 ⟨[(2,Si),(3,Si),(35,.agg [ki,ki]),(36,Si)],[]⟩ (λ_=>l7 n) <| tn) t0 49 [] f (λa b c d=>1000+a.length+b.length+c.toNat+d.toNat) (by kernel_rfl)
end Zar
namespace Zdg
def sp:Spec:=af ⟨[(0,.agg c1)],[]⟩ ⟨[(0,Su),(1,Si)],[]⟩ g
def T(ad:LQ):=mkF ad 23 [] sp [Zan.T ad,Zbk.T ad] t0 t0 t0 9 [] f (λa b c d e i _=>1000+a.toNat+b.toNat+c.toNat+d.toNat+e.toNat+i.toNat) (by kernel_rfl)
end Zdg
namespace Zbr
def sp:Spec:=af ⟨[(0,Sp 0 0),(1,.agg [ku,ki])],[(S 0,c8)]⟩ ⟨[],[(Z,c8)]⟩ g
def T(ad:LQ):=mkF ad 58 [] sp [] (λn=>tj 3 ⟨[(0,Sp 0 0),(3,Sp 1 0)],[(Z,c8),(S 1,[ku,ki])]⟩ (λ_=>j3 n) <| tn) t0 t0 37 [] f (λa b c d e i j k l o=>1000+a.toNat+b.toNat+c.length+d.length+e.length+i.toNat+j.toNat+k.length+l.length+o.length) (by kernel_rfl)
end Zbr
namespace Zes
def sp:Spec:=af ⟨[(0,Sp 0 0),(1,.agg c1)],[(S 0,c8)]⟩ ⟨[(0,Si)],[(Z,c8)]⟩ g
def T(ad:LQ):=mkF ad 108 [] sp [Zdg.T ad,Zbr.T ad] t0 t0 t0 19 [] f (λa b c d e i _ k l o p q r s t=>1000+a.toNat+b.toNat+c.toNat+d.toNat+e.toNat+i.toNat+k.length+l.length+o.length+p.toNat+q.toNat+r.length+s.length+t.length) (by kernel_rfl)
end Zes
namespace Zdj
def sp:Spec:=af ⟨[(0,Sp 0 0),(1,Sp 1 0),(2,Sp 2 0)],[(S 0,c2),(S 1,[.ptr 3 0]),(S 2,[ki]),(S 11,c8)]⟩ ⟨[(0,.agg [ku,ki])],[(Z,c2),(Z,[.ptr 3 0]),(Z,[ki]),(Z,c8)]⟩ g
def T(ad:LQ):=mkF ad 103 [] sp [Zai.T ad] t0 t0 t0 16 [] f (λa b c d e _ j k l o p q r s t u v=>1000+a.toNat+b.toNat+c.toNat+d.toNat+e.toNat+j.length+k.length+l.toNat+o.length+p.length+q.length+r.toNat+s.toNat+t.length+u.length+v.length) (by kernel_rfl)
end Zdj
namespace Zet
def sp:Spec:=af ⟨[(0,.agg [ku,ki]),(1,Si)],[]⟩ ⟨[(0,Si),(1,Si)],[]⟩ g
def T(ad:LQ):=mkF ad 106 [] sp [] t0 t0 t0 35 [] f (λa b c=>1000+a.toNat+b.toNat+c.toNat) (by kernel_rfl)
end Zet
namespace Zdw
def sp:Spec:=af ⟨[(0,Sp 0 0),(1,.agg [ku,ki])],[(S 0,c8)]⟩ ⟨[(0,Si)],[(Z,c8)]⟩ g
def T(ad:LQ):=mkF ad 107 [] sp [] t0 t0 t0 30 [] f (λa b c d e i j k l o=>1000+a.toNat+b.toNat+c.length+d.length+e.length+i.toNat+j.toNat+k.length+l.length+o.length) (by kernel_rfl)
end Zdw
namespace Zao
def sp:Spec:=af ⟨[(0,Sp 0 0),(1,.agg c2),(2,Si)],[(S 0,c8)]⟩ ⟨[(0,Si)],[(Z,c8)]⟩ g
def T(ad:LQ):=mkF ad 57 [] sp [Zer.T ad,Zar.T ad,Zes.T ad,Zdj.T ad,Zet.T ad,Zbx.T ad,Zdw.T ad,Zbr.T ad] (λn=>tj 32 ⟨[(3,Sp 1 0),(6,Sp 2 0),(7,Sp 3 0)],[(Z,c8),(S 0,[.ptr 0 0]),(S 1,[ki]),(S 2,c1)]⟩ (λ_=>j32 n) <| tj 12 ⟨[(3,Sp 1 0),(4,Sp 2 0),(6,Sp 3 0),(7,Sp 4 0),(9,Si)],[(Z,c8),(S 0,[.ptr 0 0]),(S 1,c2),(S 2,[ki]),(S 3,c1)]⟩ (λ_=>j12 n) <| tj 31 ⟨[(6,Sp 1 0)],[(Z,c8),(S 0,[ki])]⟩ (λ_=>j31 n) <| tj 29 ⟨[(3,Sp 1 0),(6,Sp 2 0),(14,Sp 3 0)],[(Z,c8),(S 0,[.ptr 0 0]),(S 1,[ki]),(S 2,[ku,ki])]⟩ (λ_=>j29 n) <| tn) t0 t0 139 [] f (λa b c d e _ j k l o p q r s t u v=>1000+a.toNat+b.toNat+c.toNat+d.toNat+e.toNat+j.length+k.length+l.toNat+o.length+p.length+q.length+r.toNat+s.toNat+t.length+u.length+v.length) (by kernel_rfl)
end Zao
namespace Zax
def sp:Spec:=af ⟨[(0,.c (.sl u3))],[]⟩ ⟨[(0,.agg c4),(1,Si),(2,Si)],[]⟩ g
def T(ad:LQ):=mkF ad 22 [] sp [Zbg.T ad,Zao.T ad,Zbr.T ad] t0 (λn=>tl 14 ⟨[(2,Sp 0 0),(6,Sp 1 0),(53,.c (.sl u6)),(54,Si),(55,Si)],[(S 0,c4),(S 1,c8)]⟩ (λ_=>l14 n) <| tl 7 ⟨[(2,Sp 0 0),(5,Sp 1 0),(6,Sp 2 0),(7,.clo 1000057 [.ptr 2 0]),(29,.c (.sl u3)),(30,Si),(31,Si)],[(S 0,c4),(S 1,c9),(S 2,c8)]⟩ (λ_=>l7 n) <| tn) t0 75 [] f (λa=>1000+a.length) (by kernel_rfl)
end Zax
namespace Zdk
def sp:Spec:=af ⟨[(0,Ss)],[]⟩ ⟨[(0,.agg c4),(1,Si),(2,Si)],[]⟩ g
def T(ad:LQ):=mkF ad 25 [] sp [Zbm.T ad,Zax.T ad] t0 t0 t0 22 [] f (λa=>1000+a.length) (by kernel_rfl)
end Zdk
namespace Zbq
def sp:Spec:=af ⟨[(0,.c (.sl (.int .u32)))],[]⟩ ⟨[(0,.c (.row 5 (.int .u8)))],[]⟩ g
def T(ad:LQ):=mkF ad 60 [] sp [] t0 (λn=>tl 3 ⟨[(3,.c (.row 5 (.int .u8))),(6,.c (.sl (.int .u32))),(7,Si),(8,Si)],[]⟩ (λ_=>l3 n) <| tn) t0 28 [] f (λa=>1000+a.length) (by kernel_rfl)
end Zbq
namespace Zez
def sp:Spec:=af ⟨[(0,Ss)],[]⟩ ⟨[(0,.c (.row 5 (.int .u8))),(1,Si)],[]⟩ g
def T(ad:LQ):TF P (LW ad):=⟨61,[],sp,RX (show Sat P (LW ad) 68 Zak.sp from(Zak.T ad).sat),aI (by kernel_rfl)⟩
end Zez
namespace Zbv
def sp:Spec:=af ⟨[(0,.agg c0)],[]⟩ ⟨[(0,.c (.sl (.int .u8))),(1,Si)],[]⟩ g
def T(ad:LQ):=mkF ad 27 [] sp [Zbt.T ad,Zba.T ad,Zbq.T ad,Zez.T ad] t0 (λn=>tl 10 ⟨[(8,.c (.row 5 (.int .u8))),(46,.c (.sl u0)),(47,Si),(48,Si)],[]⟩ (λ_=>l10 n) <| tn) t0 77 [] f (λa b c=>1000+a.length+b.length+c.length) (by kernel_rfl)
end Zbv
namespace Zch
def sp:Spec:=af ⟨[(0,.c (.sl (.int .u32))),(1,.c (.sl (.int .u32)))],[]⟩ ⟨[(0,SB)],[]⟩ g
def T(ad:LQ):=mkF ad 62 [] sp [] t0 (λn=>tl 4 ⟨[(0,.c (.sl (.int .u32))),(1,.c (.sl (.int .u32))),(12,Si),(13,Si)],[]⟩ (λ_=>l4 n) <| tn) t0 26 [] f (λa b=>1000+a.length+b.length) (by kernel_rfl)
end Zch
namespace Zci
def sp:Spec:=af ⟨[(0,.c (.sl (.int .i64))),(1,.c (.sl (.int .i64)))],[]⟩ ⟨[(0,SB)],[]⟩ g
def T(ad:LQ):=mkF ad 63 [] sp [] t0 (λn=>tl 4 ⟨[(0,.c (.sl (.int .i64))),(1,.c (.sl (.int .i64))),(12,Si),(13,Si)],[]⟩ (λ_=>l4 n) <| tn) t0 26 [] f (λa b=>1000+a.length+b.length) (by kernel_rfl)
end Zci
namespace Zcj
def sp:Spec:=af ⟨[(0,.c (.sl u0)),(1,.c (.sl u0))],[]⟩ ⟨[(0,SB)],[]⟩ g
def T(ad:LQ):=mkF ad 64 [] sp [] t0 (λn=>tl 4 ⟨[(0,.c (.sl u0)),(1,.c (.sl u0)),(12,Si),(13,Si)],[]⟩ (λ_=>l4 n) <| tn) t0 26 [] f (λa b=>1000+a.length+b.length) (by kernel_rfl)
end Zcj
namespace Zdo
def sp:Spec:=af ⟨[(0,.agg c0),(1,.agg c0)],[]⟩ ⟨[(0,SB)],[]⟩ g
def T(ad:LQ):=mkF ad 28 [] sp [Zch.T ad,Zci.T ad,Zcj.T ad] t0 t0 t0 24 [] f (λa b c d e i=>1000+a.length+b.length+c.length+d.length+e.length+i.length) (by kernel_rfl)
end Zdo
namespace rivetlaw23_DisasmBack
def sp:Spec:=af ⟨[(0,.agg c5)],[]⟩ ⟨[(0,SB)],[]⟩ g
def Q(ad:LQ)(a_rivetlaw23_shown:zac (zaa×zad)):G->Env sp.r.T:=mH types maps [((9,[]),af ⟨[],[]⟩ ⟨[(0,SB)],[]⟩ a_rivetlaw23_shown),(Zae.T ad).kv,(Zbs.T ad).kv,(Zdk.T ad).kv,(Zbv.T ad).kv,(Zdo.T ad).kv] t0 t0 t0 76 0 []
theorem q2(ad:LQ)(a_rivetlaw23_shown:zac (zaa×zad)):(λ(n:G)=>sL P 8 sp (Q ad a_rivetlaw23_shown n),λn=>Fh P 8 sp 76 (Q ad a_rivetlaw23_shown n))=(λn=>sR P 8 sp (Q ad a_rivetlaw23_shown n),λn=>ap sp.a.all (f a_rivetlaw23_shown n)):=by kernel_rfl
def T(ad:LQ):=Tp ad 8 [] sp [Zcp.T ad,Zae.T ad,Zbs.T ad,Zdk.T ad,Zbv.T ad,Zdo.T ad] t0 t0 t0 76 [] (λn=>f Zcp.g n) (λa b c=>1000+a.length+b.length+c.length) (by kernel_rfl) (q2 ad Zcp.g)
end rivetlaw23_DisasmBack
namespace Zel
def sp:Spec:=af ⟨[(0,.agg c2)],[]⟩ ⟨[(0,.agg c1)],[]⟩ g
def T(ad:LQ):=mkF ad 37 [] sp [] t0 t0 t0 16 [] f (λa b c d e _ j k=>1000+a.toNat+b.toNat+c.toNat+d.toNat+e.toNat+j.length+k.length) (by kernel_rfl)
end Zel
namespace Zck
def sp:Spec:=af ⟨[(0,.c (.sl u2)),(1,.c (.sl u2))],[]⟩ ⟨[(0,SB)],[]⟩ g
def T(ad:LQ):=mkF ad 38 [] sp [] t0 (λn=>tl 4 ⟨[(0,.c (.sl u2)),(1,.c (.sl u2)),(5,Si)],[]⟩ (λ_=>l4 n) <| tn) t0 26 [] f (λa b=>1000+a.length+b.length) (by kernel_rfl)
end Zck
namespace Zem
def sp:Spec:=af ⟨[(0,.agg c2),(1,.agg c2)],[]⟩ ⟨[(0,SB)],[]⟩ g
def T(ad:LQ):=mkF ad 15 [] sp [Zel.T ad,Zck.T ad] t0 t0 t0 24 [] f (λa b c d e _ j k l o p q r _ t u=>1000+a.toNat+b.toNat+c.toNat+d.toNat+e.toNat+j.length+k.length+l.toNat+o.toNat+p.toNat+q.toNat+r.toNat+t.length+u.length) (by kernel_rfl)
end Zem
namespace Zcc
def sp:Spec:=af ⟨[(0,.c (.sl u3)),(1,.c (.sl u3))],[]⟩ ⟨[(0,SB)],[]⟩ g
def T(ad:LQ):=mkF ad 18 [] sp [Zem.T ad] t0 (λn=>tl 4 ⟨[(0,.c (.sl u3)),(1,.c (.sl u3)),(5,Si)],[]⟩ (λ_=>l4 n) <| tn) t0 44 [] f (λa b=>1000+a.length+b.length) (by kernel_rfl)
end Zcc
namespace rivetlaw23_DisasmTwice
def sp:Spec:=af ⟨[(0,.agg c5)],[]⟩ ⟨[(0,SB)],[]⟩ g
def Q(ad:LQ)(a_rivetlaw23_shown:zac (zaa×zad)):G->Env sp.r.T:=mH types maps [((9,[]),af ⟨[],[]⟩ ⟨[(0,SB)],[]⟩ a_rivetlaw23_shown),(Zae.T ad).kv,(Zdm.T ad).kv,(Zbs.T ad).kv,(Zbm.T ad).kv,(Zax.T ad).kv,(Zcc.T ad).kv] t0 t0 t0 83 0 []
theorem q2(ad:LQ)(a_rivetlaw23_shown:zac (zaa×zad)):(λ(n:G)=>sL P 5 sp (Q ad a_rivetlaw23_shown n),λn=>Fh P 5 sp 83 (Q ad a_rivetlaw23_shown n))=(λn=>sR P 5 sp (Q ad a_rivetlaw23_shown n),λn=>ap sp.a.all (f a_rivetlaw23_shown n)):=by kernel_rfl
def T(ad:LQ):=Tp ad 5 [] sp [Zcp.T ad,Zae.T ad,Zdm.T ad,Zbs.T ad,Zbm.T ad,Zax.T ad,Zcc.T ad] t0 t0 t0 83 [] (λn=>f Zcp.g n) (λa b c=>1000+a.length+b.length+c.length) (by kernel_rfl) (q2 ad Zcp.g)
end rivetlaw23_DisasmTwice
theorem rivetlaw23_DisasmBack.sat:Sat P (LW ad) 8 rivetlaw23_DisasmBack.sp:=(rivetlaw23_DisasmBack.T ad).sat
theorem rivetlaw23_DisasmTwice.sat:Sat P (LW ad) 5 rivetlaw23_DisasmTwice.sp:=(rivetlaw23_DisasmTwice.T ad).sat
end
end Rv
namespace Rv
open Go
theorem w64{x:I}(h:-9223372036854775808<=x/\x<=9223372036854775807):zab.wrap x=x:=IntWalk.i64_in _ h
theorem U3{x:I}(h:0<=x/\x<=4294967295):E.wrap x=x:=IntWalk.u32_in _ h
theorem w8u{x:I}(h:0<=x/\x<=255):IntKind.u8.wrap x=x:=IntWalk.u8_in _ h
theorem yF{x:I}(h:0<=x/\x<=18446744073709551615):zae.wrap x=x:=IntWalk.u64_in _ h
theorem dt{p:Prop}[Decidable p]:(decide p=H)=p:=by simp
theorem df{p:Prop}[Decidable p]:(decide p=Y)=¬p:=by simp
theorem qj(s:Str)(k:G):bt s (k:I)=((s.getD k 0).toNat:I):=rfl
theorem GU(b:UInt8):(b.toNat:I)<256:=by have:=b.toNat_lt;omega
theorem eZ{s:Str}{k:G}(h:k<s.length):s.drop k=s.getD k 0::s.drop (k+1):=by
 rw[Vs h];congr 1;simp[List.getD,h]
theorem kV(b:UInt8)(n:G)(hn:n<256):((b.toNat:I)=(n:I))=(b=UInt8.ofNat n):=by
 apply propext;constructor;·intro h;apply UInt8.toNat_inj.1;rw[UInt8.toNat_ofNat',Nat.mod_eq_of_lt hn];omega
 ·intro h;rw[h,UInt8.toNat_ofNat',Nat.mod_eq_of_lt hn]
theorem UE{n:I}(h:(Lit.int .u32 n).wf=H):0<=n/\n<=4294967295:=by
 simp[Lit.wf,IntKind.min,IntKind.max,IntKind.signed,IntKind.bits] at h;omega
end Rv
namespace Rv
open Go
abbrev W32:=BitVec 32
theorem ofI(W:W32):BitVec.ofInt 32 (W.toNat:I)=W:=by simp
theorem Ud(x:I):E.wrap x=((BitVec.ofInt 32 x).toNat:I):=by
 rw[IntKind.wrap_u32,BitVec.toNat_ofInt];omega
theorem Qb(W:W32):E.wrap (W.toNat:I)=(W.toNat:I):=by rw[Ud,ofI]
theorem Pf(A B:W32):bn .or .u32 (A.toNat:I) (B.toNat:I)=((A ||| B).toNat:I):=by
 show E.wrap (((BitVec.ofInt 32 (A.toNat:I) ||| BitVec.ofInt 32 (B.toNat:I)).toNat:G):I)=_;rw[ofI,ofI,Qb]
theorem Qh(A B:W32):bn .and .u32 (A.toNat:I) (B.toNat:I)=((A &&& B).toNat:I):=by
 show E.wrap (((BitVec.ofInt 32 (A.toNat:I) &&& BitVec.ofInt 32 (B.toNat:I)).toNat:G):I)=_;rw[ofI,ofI,Qb]
theorem Nk(A B:W32):bn .andNot .u32 (A.toNat:I) (B.toNat:I)=((A &&& ~~~B).toNat:I):=by
 show E.wrap (((BitVec.ofInt 32 (A.toNat:I) &&& ~~~BitVec.ofInt 32 (B.toNat:I)).toNat:G):I)=_;rw[ofI,ofI,Qb]
theorem DC(A:W32)(b:G)(hb:b<=32):E.wrap ((A.toNat:I)*2 ^ (min ((b:I)).toNat E.bits))=((A <<< b).toNat:I):=by
 have e:min ((b:I)).toNat E.bits=b:=by show min ((b:I)).toNat 32=b;omega
 grind [IntKind.wrap_u32,Nat.shiftLeft_eq]
theorem Qq(A:W32)(b:G)(hb:b<=32):(A.toNat:I).fdiv (2 ^ (min ((b:I)).toNat E.bits))=((A >>> b).toNat:I):=by
 have e:min ((b:I)).toNat E.bits=b:=by show min ((b:I)).toNat 32=b;omega
 grind [Nat.shiftRight_eq_div_pow]
def wJ(W X:W32)(b p:G):W32:=(W &&& ~~~(1#32 <<< b)) ||| (((X >>> p) &&& 1#32) <<< b)
def gB(W X:W32)(a:G):G->W32
 |0=>W
 |k+1=>wJ (gB W X a k) X (a+k) k
def gq(W:W32)(a:G):G->W32
 |0=>0
 |k+1=>gq W a k ||| (((W >>> (a+k)) &&& 1#32) <<< k)
theorem RL(j:G):(1#32).getLsbD j=C (j=0):=by
 grind
theorem GJ(W X:W32){b p:G}(hb:b<32){j:G}(hj:j<32):(wJ W X b p).getLsbD j=if j=b then X.getLsbD p else W.getLsbD j:=by
 unfold wJ
 grind
theorem yE(W X:W32){a:G}:∀{n:G},a+n<=32->∀{j:G},j<32->(gB W X a n).getLsbD j=if a<=j/\j<a+n then X.getLsbD (j-a) else W.getLsbD j
 |0,_,j,_=>by rw[D (by omega)];rfl
 |n+1,h,j,hj=>by
  rw[gB,GJ _ _ (by omega) hj];by_cases e:j=a+n;·grind
  ·rw[D e,yE W X (by omega) hj]
   grind
theorem gu(W:W32){a:G}:∀{n:G},n<=32->∀{j:G},j<32->(gq W a n).getLsbD j=(C (j<n)&&W.getLsbD (a+j))
 |0,_,j,_=>by simp[gq]
 |n+1,h,j,hj=>by
  rw[gq,BitVec.getLsbD_or,gu W (by omega) hj,BitVec.getLsbD_shiftLeft,BitVec.getLsbD_and,BitVec.getLsbD_ushiftRight,RL]
  grind
theorem qg{A B:W32}(h:∀j,j<32->A.getLsbD j=B.getLsbD j):A=B:=BitVec.eq_of_getLsbD_eq λj hj=>h j hj
theorem Em(W X:W32){a n b m:G}(h:a+n<=32)(h1:a<=b)(h2:b+m<=a+n):gq (gB W X a n) b m=gq X (b-a) m:=qg λj hj=>by
 rw[gu _ (by omega) hj,gu _ (by omega) hj];by_cases e:j<m;·rw[yE _ _ h (by omega),U (by omega),show b+j-a=b-a+j by omega]
 ·simp[e]
theorem Q0(W X:W32){a n b m:G}(h:a+n<=32)(hb:b+m<=32)(h1:b+m<=a\/a+n<=b):gq (gB W X a n) b m=gq W b m:=qg λj hj=>by
 rw[gu _ (by omega) hj,gu _ (by omega) hj];by_cases e:j<m;·rw[yE _ _ h (by omega),D (by omega)]
 ·simp[e]
theorem Oc(b m:G)(hm:m<=32):gq 0 b m=0:=qg λj hj=>by
 grind [gu]
theorem QZ{X:W32}{n:G}(hn:n<=32)(hx:X.toNat<2 ^ n):gq X 0 n=X:=qg λj hj=>by
 rw[gu _ hn hj,Nat.zero_add];by_cases e:j<n;·simp[e]
 ·have:X.getLsbD j=Y:=by
   show X.toNat.testBit j=Y
   grind [Nat.testBit_lt_two_pow,Nat.lt_of_lt_of_le,Nat.pow_le_pow_right]
  simp[e,this]
theorem SY(W:W32)(a:G){n:G}(hn:n<=32):(gq W a n).toNat<2 ^ n:=by
 refine Nat.lt_pow_two_of_testBit _ λj hj=>?_
 by_cases h:j<32
 ·have:=gu W (a:=a) hn h
  grind
 ·exact BitVec.getLsbD_of_ge _ _ (by omega)
theorem R7(W X:W32){b p:G}(hb:b<32)(hp:p<32):Zeg.g (b:I) (p:I) (W.toNat:I) (X.toNat:I)=S (((wJ W X b p).toNat:I),(X.toNat:I),()):=by
 unfold Zeg.g Zeg.f;have e1:(1:I)=((1#32).toNat:I):=rfl;rw[D (by omega),D (by omega),D (by omega),Qq X p (by omega),e1,DC (1#32) b (by omega),Qh,DC _ b (by omega),Nk,Pf];rfl
theorem NR(n:G)(X W:W32){a c:G}(hc:1<=c)(h:a+c<=32):∀(m k:G),k<=c->c-k<m->Zcw.l2 n m (a:I) (c:I) ((a+k:G):I) ((gB W X a k).toNat:I) (X.toNat:I)=S (((gB W X a c).toNat:I),(X.toNat:I),()):=by
 intro m
 induction m with
 |zero=>grind
 |succ m ih=>
  intro k hk hm;rw[Zcw.l2];simp only[dt];by_cases e:k=c
  ·subst e;by_cases e2:a+k<32
   ·rw[U (by omega),D (by rw[w64 (by omega)];omega)]
   grind
  ·rw[U (by omega),w64 (by omega),U (by omega),show((a+k:G):I)-(a:I)=(k:I) by omega,R7 _ X (by omega) (by omega),U4];dsimp only;rw[w64 (by omega),show((a+k:G):I)+1=((a+(k+1):G):I) by omega];exact ih (k+1) (by omega) (by omega)
theorem TQ(W X:W32){a c:G}(hc:1<=c)(h:a+c<=32):Zeh.g (W.toNat:I) (a:I) (c:I) (X.toNat:I)=S (((gB W X a c).toNat:I),()):=by
 unfold Zeh.g Zeh.f Zcw.g Zcw.f;simp only[dt,df];rw[U (by omega),U (by omega),w64 (by omega),D (by omega)];have hmx:mx (a:I) 0=((a+0:G):I):=by grind [mx]
 rw[hmx];have:=NR (1000+((a:I)).toNat+((c:I)).toNat+((W.toNat:I)).toNat+((X.toNat:I)).toNat) X W hc h (1000+((a:I)).toNat+((c:I)).toNat+((W.toNat:I)).toNat+((X.toNat:I)).toNat) 0 (by omega) (by omega);simp_all [gB]
theorem QY(O W:W32){b p:G}(hb:b<32)(hp:p<32):Zee.g (b:I) (p:I) (O.toNat:I) (W.toNat:I)=S (((O ||| (((W >>> b) &&& 1#32) <<< p)).toNat:I),(W.toNat:I),()):=by
 unfold Zee.g Zee.f;have e1:(1:I)=((1#32).toNat:I):=rfl;rw[D (by omega),D (by omega),Qq W b (by omega),e1,Qh,DC _ p (by omega),Pf]
theorem NQ(n:G)(W:W32){a c:G}(hc:1<=c)(h:a+c<=32):∀(m k:G),k<=c->c-k<m->Zcv.l2 n m (a:I) (c:I) ((a+k:G):I) ((gq W a k).toNat:I) (W.toNat:I)=S (((gq W a c).toNat:I),(W.toNat:I),()):=by
 intro m
 induction m with
 |zero=>grind
 |succ m ih=>
  intro k hk hm;rw[Zcv.l2];simp only[dt];by_cases e:k=c
  ·subst e;by_cases e2:a+k<32
   ·rw[U (by omega),D (by rw[w64 (by omega)];omega)]
   grind
  ·rw[U (by omega),w64 (by omega),U (by omega),show((a+k:G):I)-(a:I)=(k:I) by omega,QY _ W (by omega) (by omega),U4];dsimp only;rw[w64 (by omega),show((a+k:G):I)+1=((a+(k+1):G):I) by omega];exact ih (k+1) (by omega) (by omega)
theorem SX(W:W32){a c:G}(hc:1<=c)(h:a+c<=32):Zef.g (W.toNat:I) (a:I) (c:I)=S (((gq W a c).toNat:I),()):=by
 unfold Zef.g Zef.f Zcv.g Zcv.f;simp only[dt,df];rw[U (by omega),U (by omega),w64 (by omega),D (by omega)];have hmx:mx (a:I) 0=((a+0:G):I):=by grind [mx]
 rw[hmx];have:=NQ (1000+((a:I)).toNat+((c:I)).toNat+((0:I)).toNat+((W.toNat:I)).toNat) W hc h (1000+((a:I)).toNat+((c:I)).toNat+((0:I)).toNat+((W.toNat:I)).toNat) 0 (by omega) (by omega);simp_all [gq]
end Rv
namespace Rv
open Go
def lC:W32->N (G×G×I)->W32
 |W,[]=>W
 |W,(a,n,x)::r=>lC (gB W (BitVec.ofInt 32 x) a n) r
abbrev fld(f:G×G×I):I×I×I×zad:=((f.1:I),(f.2.1:I),f.2.2,())
abbrev UN:I×I×I×zad:=((0:I),((0:I),((0:I),())))
theorem Oy(n:G)(fs:N (G×G×I))(hf:∀f∈fs,1<=f.2.1/\f.1+f.2.1<=32)(hl:fs.length<=1000):∀(m i:G) (W:W32),i<=fs.length->fs.length-i<m ->
  Zat.l3 n m (W.toNat:I) (fs.map fld) ((fs.map fld).length:I) (i:I)=S (((lC W (fs.drop i)).toNat:I),()):=by
 intro m
 induction m with
 |zero=>grind
 |succ m ih=>
  intro i W hi hm;rw[Zat.l3];simp only[dt,VL];by_cases h:i<fs.length
  ·have hd:fs.drop i=fs[i]::fs.drop (i+1):=Vs h;have hg:(fs.map fld).getD ((i:I)).toNat UN=fld fs[i]:=by
    grind
   obtain⟨h1,h2⟩:=hf fs[i] (VI h);rw[U (by omega),U (by omega),U (by decide),U (by decide),U (by decide),hg];have q1:∀x y z:I,([x,y,z]:N I).getD ((0:I)).toNat 0=x:=λ_ _ _=>rfl
   have q2:∀x y z:I,([x,y,z]:N I).getD ((1:I)).toNat 0=y:=λ_ _ _=>rfl
   have q3:∀x y z:I,([x,y,z]:N I).getD ((2:I)).toNat 0=z:=λ_ _ _=>rfl
   rw[q1,q2,q3];dsimp only[fld];rw[Ud,TQ _ _ h1 h2,U4];dsimp only;rw[w64 (by omega),show(i:I)+1=((i+1:G):I) by omega,hd];have:=ih (i+1) (gB W (BitVec.ofInt 32 fs[i].2.2) fs[i].1 fs[i].2.1) (by omega) (by omega);rw[VL] at this;exact this
  ·rw[D (by omega),List.drop_eq_nil_of_le (by omega)];rfl
theorem Tf(fs:N (G×G×I))(hf:∀f∈fs,1<=f.2.1/\f.1+f.2.1<=32)(hl:fs.length<=1000)(l:N (I×I×I×zad))(e:l=fs.map fld):Zat.g l=S (((lC 0 fs).toNat:I),()):=by
 subst e;unfold Zat.g Zat.f;have:=Oy (1000+(fs.map fld).length) fs hf hl (1000+(fs.map fld).length) 0 0 (by omega) (by grind)
 grind
def hdN(f:G)(u v:zaa):G:=f*4+(if u then 2 else 0)+(if v then 1 else 0)
theorem lq(f:G)(hf:f<4)(u v:zaa):Zbj.g (f:I) u v=S (28,4,(hdN f u v:I),()):=by
 have:∀f:G,f<4->∀u v:zaa,Zbj.g (f:I) u v=S (28,4,(hdN f u v:I),()):=by decide +kernel
 grind
def gp(k o a b c i:I)(u:zaa):N (G×G×I):=
 if k=1 then[(28,4,(hdN 0 u Y:I)),(24,4,a),(20,4,b),(16,4,o),(0,4,c)] else
 if k=3\/k=4 then[(28,4,(hdN 0 H (C (k=4)):I)),(24,4,a)] else
 if k=2 then[(28,4,(hdN 1 u (C (i<0)):I)),(24,4,a),(20,4,b),(16,4,o),(0,16,i)] else
 if k=5 then[(28,4,(hdN 2 (C (2<=o)) (C (Int.tmod o 2=1)):I)),(24,4,a),(20,4,b),(0,20,i)] else
 if k=6 then[(28,4,(hdN 3 Y u:I)),(24,4,o),(0,4,c)] else
 [(28,4,(hdN 3 H u:I)),(24,4,o),(0,24,i)]
theorem G9(k o a b c i:I)(u:zaa):(∀f∈gp k o a b c i u,1<=f.2.1/\f.1+f.2.1<=32)/\(gp k o a b c i u).length<=1000:=by
 unfold gp
 grind
def aP(k o a b c i:I)(u:zaa):W32:=lC 0 (gp k o a b c i u)
theorem nU(k o a b c i:I)(u:zaa)(l:N (I×I×I×zad))(e:l=(gp k o a b c i u).map fld):Zat.g l=S (((aP k o a b c i u).toNat:I),()):=
 Tf _ (G9 k o a b c i u).1 (G9 k o a b c i u).2 l e
theorem lu(k o a b c i:I)(u:zaa):Zbk.g k o a b c i u=S (((aP k o a b c i u).toNat:I),()):=by
 have J:∀n,k≠1->k≠2->k≠3->k≠4->k≠5->k≠6->Zbk.j14 n k o a b c i u 24 4 o=S (((aP k o a b c i u).toNat:I),()):=λn h1 h2 h3 h4 h5 h6=>by
  unfold Zbk.j14;rw[show(3:I)=((3:G):I) from rfl,lq 3 (by decide),U4,nU k o a b c i u _ (by grind [gp]),U4]
 unfold Zbk.g;generalize 1000+k.toNat+o.toNat+a.toNat+b.toNat+c.toNat+i.toNat=n;unfold Zbk.f;simp only[dt];have e0:(0:I)=((0:G):I):=rfl;by_cases h1:k=1;·rw[U h1];have:=lq 0 (by decide) u Y;rw[show((0:G):I)=0 from rfl] at this;rw[this,U4,nU k o a b c i u _ (by unfold gp;simp[h1]),U4]
 ·rw[D h1];have h0:=lq 0 (by decide) H (C (k=4));rw[show((0:G):I)=0 from rfl] at h0;have g2:=lq 1 (by decide) u (C (i<0));rw[show((1:G):I)=1 from rfl] at g2;have g5:=lq 2 (by decide) (C (2<=o)) (C (Int.tmod o 2=1));rw[show((2:G):I)=2 from rfl] at g5;have g6:=lq 3 (by decide) Y u;rw[show((3:G):I)=3 from rfl] at g6;rw[h0,g2,g5,g6];simp only[U4];by_cases h3:k=3
  ·rw[U h3,U h3,nU k o a b c i u _ (by unfold gp;simp[h3]),U4]
  ·rw[D h3];by_cases h4:k=4
   ·rw[U h4,nU k o a b c i u _ (by unfold gp;simp[h4]),U4]
   ·rw[D h4];by_cases h2:k=2
    ·rw[U h2,nU k o a b c i u _ (by unfold gp;simp[h2]),U4]
    ·rw[D h2];by_cases h5:k=5
     ·rw[U h5,nU k o a b c i u _ (by unfold gp;simp[h5]),U4]
     ·rw[D h5];by_cases h6:k=6
      ·rw[U h6,nU k o a b c i u _ (by unfold gp;simp[h6]),U4]
      grind
abbrev Gn(W:W32)(a n:G):I:=((gq W a n).toNat:I)
theorem gy(W:W32)(a:G){n:G}(hn:n<=32):0<=Gn W a n/\Gn W a n<2 ^ n:=by
 have:=SY W a hn
 grind
theorem jl(W:W32)(a n:G)(hn:1<=n)(h:a+n<=32):Zav.g (a:I) (n:I) (W.toNat:I)=S (Gn W a n,()):=by
 unfold Zav.g Zav.f;rw[SX W hn h,U4];dsimp only;have:=gy W a (n:=n) (by omega);have h32:(gq W a n).toNat<2 ^ 32:=(gq W a n).isLt;rw[w64 (by omega)]
def sgV(W:W32)(n:G):I:=zab.wrap ((IntKind.i32.wrap ((W <<< (32-n)).toNat:I)).fdiv (2 ^ (32-n)))
theorem CP(W:W32)(n:G)(h:1<=n)(h2:n<=32):Zdp.g (W.toNat:I) (n:I)=S (sgV W n,()):=by
 unfold Zdp.g Zdp.f Zfa.g Zfa.f;have hk:mn (mx (n:I) 1) 32=(n:I):=by grind [mn,mx]
 rw[hk,U4];dsimp only;rw[w64 (by omega),show(32:I)-(n:I)=((32-n:G):I) by omega,D (by omega),D (by omega),DC W (32-n) (by omega)];have e:min (((32-n:G):I)).toNat IntKind.i32.bits=32-n:=by show min (((32-n:G):I)).toNat 32=_;omega
 rw[e];rfl
theorem Iq{W:W32}{n:G}(h:n<=32)(h0:gq W 0 n=0):sgV W n=0:=by
 have:W <<< (32-n)=0:=qg λj hj=>by
  rw[BitVec.getLsbD_shiftLeft];by_cases e:j<32-n;·simp[e]
  ·have:=congrArg (λV:W32=>V.getLsbD (j-(32-n))) h0;simp only[gu W h (show j-(32-n)<32 by omega)] at this
   grind
 unfold sgV;rw[this];show zab.wrap ((IntKind.i32.wrap 0).fdiv (2 ^ (32-n)))=0;rw[show IntKind.i32.wrap 0=0 from rfl,Int.zero_fdiv];rfl
def bM(W:W32):I×I×I×I×I×I×zaa×zad:=
 if Gn W 30 2=0 then
  (if Gn W 29 1=1/\Gn W 16 4=0 then(3+Gn W 28 1,0,Gn W 24 4,0,0,0,Y,()) else(1,Gn W 16 4,Gn W 24 4,Gn W 20 4,Gn W 0 4,0,C (Gn W 29 1=1),()))
 else if Gn W 30 2=1 then(2,Gn W 16 4,Gn W 24 4,Gn W 20 4,0,Gn W 0 16-Gn W 28 1*65536,C (Gn W 29 1=1),())
 else if Gn W 30 2=2 then(5,Gn W 29 1*2+Gn W 28 1,Gn W 24 4,Gn W 20 4,0,sgV W 20,Y,())
 else if Gn W 29 1=1 then(7,Gn W 24 4,0,0,0,sgV W 24,C (Gn W 28 1=1),())
 else(6,Gn W 24 4,0,0,Gn W 0 4,0,C (Gn W 28 1=1),())
theorem nP(W:W32):Zbd.g (W.toNat:I)=S (bM W):=by
 unfold Zbd.g Zbd.f;have r1:=jl W 29 1 (by decide) (by decide);have r2:=jl W 28 1 (by decide) (by decide);have r3:=jl W 24 4 (by decide) (by decide);have r4:=jl W 20 4 (by decide) (by decide);have r5:=jl W 16 4 (by decide) (by decide);have r6:=jl W 30 2 (by decide) (by decide);have r7:=jl W 0 4 (by decide) (by decide);have r8:=jl W 0 16 (by decide) (by decide);have s1:=CP W 20 (by decide) (by decide);have s2:=CP W 24 (by decide) (by decide);have b1:=gy W 29 (n:=1) (by decide);have b2:=gy W 28 (n:=1) (by decide);have b8:=gy W 0 (n:=16) (by decide);have p16:zab.wrap (Gn W 28 1*2 ^ (min (16:I).toNat zab.bits))=Gn W 28 1*65536:=by
  show zab.wrap (Gn W 28 1*65536)=_;rw[w64 (by omega)]
 simp only[Int.cast_ofNat_Int] at r1 r2 r3 r4 r5 r6 r7 r8 s1 s2;simp only[r1,r2,r3,r4,r5,r6,r7,r8,s1,s2,U4,dt,Zbd.j16,p16];unfold bM;by_cases h1:Gn W 30 2=0
 ·rw[U h1,U h1];by_cases h2:Gn W 29 1=1
  ·rw[U h2];by_cases h3:Gn W 16 4=0
   ·rw[U h3,U ⟨h2,h3⟩,w64 (by omega)]
   grind
  grind
 ·rw[D h1,D h1];by_cases h2:Gn W 30 2=1
  ·rw[U h2,U h2,w64 (by omega)]
  ·rw[D h2,D h2];by_cases h3:Gn W 30 2=2
   ·rw[U h3,U h3,w64 (x:=Gn W 29 1*2) (by omega),w64 (by omega)]
   grind
theorem aC(W X:W32){a n b m:G}(h:a+n<=32)(hb:b+m<=32)(h1:b+m<=a\/a+n<=b):Gn (gB W X a n) b m=Gn W b m:=by simp_all [Gn,Q0]
theorem Dt(W:W32){x:I}{a n:G}(h:a+n<=32)(hx:0<=x/\x<2 ^ n):Gn (gB W (BitVec.ofInt 32 x) a n) a n=x:=by
 have h1:(2:I) ^ n=((2 ^ n:G):I):=by grind
 have h2:2 ^ n<=2 ^ 32:=Nat.pow_le_pow_right (by decide) (by omega);have h3:(BitVec.ofInt 32 x).toNat=x.toNat:=by
  grind
 unfold Gn;rw[Em W _ h (U7 _) (U7 _),Nat.sub_self,QZ (by omega) (by grind),h3];omega
theorem iq(W:W32){x:I}{a:G}(h:a+4<=32)(hx:0<=x/\x<16):Gn (gB W (BitVec.ofInt 32 x) a 4) a 4=x:=Dt W h hx
theorem bF(W X:W32){a n b m:G}(h:a+n<=32)(h1:a<=b)(h2:b+m<=a+n):Gn (gB W X a n) b m=Gn X (b-a) m:=by simp_all [Gn,Em]
theorem Q3(b m:G)(hm:m<=32):Gn 0 b m=0:=by unfold Gn;rw[Oc b m hm];rfl
theorem mQ:∀f:G,f<4->∀u v:zaa,Gn (BitVec.ofInt 32 (hdN f u v:I)) 2 2=f/\Gn (BitVec.ofInt 32 (hdN f u v:I)) 1 1=(if u then 1 else 0)/\Gn (BitVec.ofInt 32 (hdN f u v:I)) 0 1=(if v then 1 else 0):=by decide +kernel
def rg(x:I):Prop:=0<=x/\x<16
inductive bE:I->I->I->I->I->zaa->Prop
 |reg {o a b c:I} {u:zaa}:0<o->o<12->rg a->rg b->rg c->(u=H->8<=o/\o<=10)->bE 1 o a b c u
 |mov {a c:I}:rg a->rg c->bE 1 0 a 0 c Y
 |imm {o a b:I} {u:zaa}:0<o->o<12->rg a->rg b->(u=H->8<=o/\o<=10)->bE 2 o a b 0 u
 |movi {a:I} {u:zaa}:rg a->bE 2 0 a 0 0 u
 |hi {a:I}:rg a->bE 3 0 a 0 0 Y
 |fl {a:I}:rg a->bE 4 0 a 0 0 Y
 |mem {o a b:I}:0<=o->o<4->rg a->rg b->bE 5 o a b 0 Y
 |br {o c:I} {u:zaa}:rg o->rg c->bE 6 o 0 0 c u
 |jmp {o:I} {u:zaa}:rg o->bE 7 o 0 0 0 u
theorem E5{o a b c:I}{u:zaa}(ho:rg o)(ha:rg a)(hb:rg b)(hc:rg c)(hu:u=H->o≠0):bM (aP 1 o a b c 0 u)=(1,o,a,b,c,0,u,()):=by
 obtain⟨h1,h2,h3⟩:=mQ 0 (by decide) u Y;generalize hW:aP 1 o a b c 0 u=W;unfold aP gp at hW;rw[U rfl] at hW;simp only[lC] at hW;have w1:Gn W 30 2=0:=by grind [aC,bF]
 have w2:Gn W 29 1=if u then 1 else 0:=by grind [aC,bF]
 have w3:Gn W 24 4=a:=by rw[<- hW,aC _ _ (by decide) (by decide) (by decide),aC _ _ (by decide) (by decide) (by decide),aC _ _ (by decide) (by decide) (by decide),iq _ (by decide) ha]
 have w4:Gn W 20 4=b:=by rw[<- hW,aC _ _ (by decide) (by decide) (by decide),aC _ _ (by decide) (by decide) (by decide),iq _ (by decide) hb]
 have w5:Gn W 16 4=o:=by rw[<- hW,aC _ _ (by decide) (by decide) (by decide),iq _ (by decide) ho]
 have w6:Gn W 0 4=c:=by rw[<- hW,iq _ (by decide) hc]
 simp_all [bM]
theorem EZ{o a b:I}{u:zaa}(ho:rg o)(ha:rg a)(hb:rg b):bM (aP 2 o a b 0 0 u)=(2,o,a,b,0,0,u,()):=by
 obtain⟨h1,h2,h3⟩:=mQ 1 (by decide) u Y;generalize hW:aP 2 o a b 0 0 u=W;unfold aP gp at hW;rw[D (by decide),D (by decide),U rfl] at hW;simp only[lC] at hW;rw[show C ((0:I)<0)=Y from rfl] at hW;have w1:Gn W 30 2=1:=by grind [aC,bF]
 have w2:Gn W 29 1=if u then 1 else 0:=by grind [aC,bF]
 have w7:Gn W 28 1=0:=by grind [aC,bF]
 have w3:Gn W 24 4=a:=by rw[<- hW,aC _ _ (by decide) (by decide) (by decide),aC _ _ (by decide) (by decide) (by decide),aC _ _ (by decide) (by decide) (by decide),iq _ (by decide) ha]
 have w4:Gn W 20 4=b:=by rw[<- hW,aC _ _ (by decide) (by decide) (by decide),aC _ _ (by decide) (by decide) (by decide),iq _ (by decide) hb]
 have w5:Gn W 16 4=o:=by rw[<- hW,aC _ _ (by decide) (by decide) (by decide),iq _ (by decide) ho]
 have w6:Gn W 0 16=0:=by rw[<- hW,Dt _ (by decide) (by decide)]
 unfold bM
 grind
theorem Io{k a:I}(hk:k=3\/k=4)(ha:rg a):bM (aP k 0 a 0 0 0 Y)=(k,0,a,0,0,0,Y,()):=by
 obtain⟨h1,h2,h3⟩:=mQ 0 (by decide) H (C (k=4));generalize hW:aP k 0 a 0 0 0 Y=W;unfold aP gp at hW;rw[D (by omega),U hk] at hW;simp only[lC] at hW;have w1:Gn W 30 2=0:=by grind [aC,bF]
 have w2:Gn W 29 1=1:=by grind [aC,bF]
 have w7:Gn W 28 1=if C (k=4) then 1 else 0:=by grind [aC,bF]
 have w3:Gn W 24 4=a:=by rw[<- hW,iq _ (by decide) ha]
 have w5:Gn W 16 4=0:=by grind [aC,Q3]
 unfold bM
 grind
theorem Py{o a b:I}(ho:0<=o/\o<4)(ha:rg a)(hb:rg b):bM (aP 5 o a b 0 0 Y)=(5,o,a,b,0,0,Y,()):=by
 obtain⟨h1,h2,h3⟩:=mQ 2 (by decide) (C (2<=o)) (C (Int.tmod o 2=1));generalize hW:aP 5 o a b 0 0 Y=W;unfold aP gp at hW;rw[D (by decide),D (by decide),D (by decide),U rfl] at hW;simp only[lC] at hW;have w1:Gn W 30 2=2:=by grind [aC,bF]
 have w2:Gn W 29 1=if C (2<=o) then 1 else 0:=by grind [aC,bF]
 have w7:Gn W 28 1=if C (Int.tmod o 2=1) then 1 else 0:=by grind [aC,bF]
 have w3:Gn W 24 4=a:=by rw[<- hW,aC _ _ (by decide) (by decide) (by decide),aC _ _ (by decide) (by decide) (by decide),iq _ (by decide) ha]
 have w4:Gn W 20 4=b:=by rw[<- hW,aC _ _ (by decide) (by decide) (by decide),iq _ (by decide) hb]
 have w6:sgV W 20=0:=Iq (by decide) (by
  rw[<- hW];have:=Dt (x:=0) (a:=0) (n:=20) (gB (gB (gB 0 (BitVec.ofInt 32 ((hdN 2 (C (2<=o)) (C (Int.tmod o 2=1)):G):I)) 28 4) (BitVec.ofInt 32 a) 24 4) (BitVec.ofInt 32 b) 20 4) (by decide) (by decide);exact BitVec.eq_of_toNat_eq (by grind))
 have:o=0\/o=1\/o=2\/o=3:=by omega
 unfold bM
 grind
theorem R5{o c:I}{u:zaa}(ho:rg o)(hc:rg c):bM (aP 6 o 0 0 c 0 u)=(6,o,0,0,c,0,u,()):=by
 obtain⟨h1,h2,h3⟩:=mQ 3 (by decide) Y u;generalize hW:aP 6 o 0 0 c 0 u=W;unfold aP gp at hW;rw[D (by decide),D (by decide),D (by decide),D (by decide),U rfl] at hW;simp only[lC] at hW;have w1:Gn W 30 2=3:=by grind [aC,bF]
 have w2:Gn W 29 1=0:=by grind [aC,bF]
 have w7:Gn W 28 1=if u then 1 else 0:=by grind [aC,bF]
 have w3:Gn W 24 4=o:=by rw[<- hW,aC _ _ (by decide) (by decide) (by decide),iq _ (by decide) ho]
 have w6:Gn W 0 4=c:=by rw[<- hW,iq _ (by decide) hc]
 unfold bM
 grind
theorem Px{o:I}{u:zaa}(ho:rg o):bM (aP 7 o 0 0 0 0 u)=(7,o,0,0,0,0,u,()):=by
 obtain⟨h1,h2,h3⟩:=mQ 3 (by decide) H u;generalize hW:aP 7 o 0 0 0 0 u=W;unfold aP gp at hW;rw[D (by decide),D (by decide),D (by decide),D (by decide),D (by decide)] at hW;simp only[lC] at hW;have w1:Gn W 30 2=3:=by grind [aC,bF]
 have w2:Gn W 29 1=1:=by grind [aC,bF]
 have w7:Gn W 28 1=if u then 1 else 0:=by grind [aC,bF]
 have w3:Gn W 24 4=o:=by rw[<- hW,aC _ _ (by decide) (by decide) (by decide),iq _ (by decide) ho]
 have w6:sgV W 24=0:=Iq (by decide) (by
  rw[<- hW];have:=Dt (x:=0) (a:=0) (n:=24) (gB (gB 0 (BitVec.ofInt 32 ((hdN 3 H u:G):I)) 28 4) (BitVec.ofInt 32 o) 24 4) (by decide) (by decide);exact BitVec.eq_of_toNat_eq (by grind))
 simp_all [bM]
theorem kw{k o a b c:I}{u:zaa}(h:bE k o a b c u):bM (aP k o a b c 0 u)=(k,o,a,b,c,0,u,()):=by
 have z:rg 0:=⟨by decide,by decide⟩
 cases h with
 |reg h1 h2 ha hb hc hu=>exact E5 ⟨by omega,by omega⟩ ha hb hc (λ_=>by omega)
 |mov ha hc=>grind [E5]
 |imm h1 h2 ha hb hu=>exact EZ ⟨by omega,by omega⟩ ha hb
 |movi ha=>exact EZ z ha z
 |hi ha=>exact Io (.inl rfl) ha
 |fl ha=>exact Io (.inr rfl) ha
 |mem h1 h2 ha hb=>grind [Py]
 |br ho hc=>exact R5 ho hc
 |jmp ho=>exact Px ho
theorem dh(n l h:I):Zdb.g n l h=S (C (l<=n)&&C (n<=h),()):=by
 unfold Zdb.g Zdb.f
 grind
theorem jg{k o a b c:I}{u:zaa}(h:bE k o a b c u):1<=k/\k<=7/\0<=o/\o<=15:=by
 cases h<;>refine⟨by decide,by decide,?_,?_⟩<;>first|decide|omega|(rename_i h _;exact h.1)|(rename_i h _;have:=h.2;omega)|(rename_i h;exact h.1)|(rename_i h;have:=h.2;omega)
theorem Ev{k o a b c:I}{u:zaa}(h:bE k o a b c u):Zan.g k o a b c 0 u=S (H,()):=by
 have hr:=kw h;have hk:=jg h;unfold Zan.g;generalize 1000+k.toNat+o.toNat+a.toNat+b.toNat+c.toNat+(0:I).toNat=n;unfold Zan.f;rw[dh,U4];dsimp only;rw[decide_eq_true hk.1,decide_eq_true hk.2.1,U (by decide),dh,U4];dsimp only;rw[decide_eq_true hk.2.2.1,decide_eq_true hk.2.2.2,U (by decide),lu,U4];dsimp only;rw[nP,U4,hr];dsimp only;rw[D (by simp)];simp only[dt,df,Zan.j10,dh,U4];cases h with
 |reg h1 h2 ha hb hc hu=>
  grind
 |mov ha hc=>rfl
 |imm h1 h2 ha hb hu=>
  grind
 |movi ha=>cases u<;>rfl
 |hi ha=>rfl
 |fl ha=>rfl
 |mem h1 h2 ha hb=>rfl
 |br ho hc=>rfl
 |jmp ho=>rfl
theorem GA(W:W32):rg (bM W).2.2.1/\rg (bM W).2.2.2.1/\rg (bM W).2.2.2.2.1:=by
 have z:rg 0:=⟨by decide,by decide⟩
 have a:∀p,rg (Gn W p 4):=λp=>gy W p (n:=4) (by decide)
 grind [bM]
theorem Cb(k o a b c i:I)(u:zaa):∃r,Zan.g k o a b c i u=S (r,())/\(r=H->(1<=k/\k<=7)/\rg a/\rg b/\rg c):=by
 unfold Zan.g;generalize 1000+k.toNat+o.toNat+a.toNat+b.toNat+c.toNat+i.toNat=n;unfold Zan.f;rw[dh,U4];dsimp only;by_cases hk:1<=k/\k<=7
 case neg=>rw[D (by simp;omega)];grind
 rw[U (by simp[hk]),dh,U4];dsimp only;by_cases ho:0<=o/\o<=15
 case neg=>rw[D (by simp;omega)];grind
 rw[U (by simp[ho]),lu,U4];dsimp only;rw[nP,U4];obtain⟨r1,r2,r3⟩:=GA (aP k o a b c i u);generalize bM (aP k o a b c i u)=y at *;split;·grind
 ·rename_i he;simp only[Bool.not_eq_true',Bool.not_eq_false,Va,Vf] at he;have hg:(1<=k/\k<=7)/\rg a/\rg b/\rg c:=⟨hk,he.2.2.1 ▸ r1,he.2.2.2.1 ▸ r2,he.2.2.2.2.1 ▸ r3⟩
  simp only[dt,df,Zan.j10,dh,U4]
  grind
end Rv
namespace Rv
open Go
theorem Jm{k o a b c:I}{u:zaa}(h:bE k o a b c u):rg a/\rg b/\rg c:=by
 have z:rg 0:=⟨by decide,by decide⟩
 cases h<;>refine⟨?_,?_,?_⟩<;>assumption
def I0P(k o a b c:I)(u:zaa):Prop:=
 (k=1/\0<o/\o<12/\(u=H->8<=o/\o<=10))\/(k=1/\o=0/\b=0/\u=Y)\/(k=2/\0<o/\o<12/\c=0/\(u=H->8<=o/\o<=10))\/(k=2/\o=0/\b=0/\c=0) \/
 (k=3/\o=0/\b=0/\c=0/\u=Y)\/(k=4/\o=0/\b=0/\c=0/\u=Y)\/(k=5/\0<=o/\o<4/\c=0/\u=Y)\/(k=6/\0<=o/\o<16/\a=0/\b=0)\/(k=7/\0<=o/\o<16/\a=0/\b=0/\c=0)
instance (k o a b c:I) (u:zaa):Decidable (I0P k o a b c u):=by unfold I0P;infer_instance
theorem Hf{k o a b c:I}{u:zaa}(ha:rg a)(hb:rg b)(hc:rg c):bE k o a b c u↔I0P k o a b c u:=by
 constructor
 ·intro h;unfold I0P;cases h with
  |reg h1 h2 _ _ _ h3=>exact .inl ⟨rfl,h1,h2,h3⟩
  |mov _ _=>exact .inr (.inl ⟨rfl,rfl,rfl,rfl⟩)
  |imm h1 h2 _ _ h3=>exact .inr (.inr (.inl ⟨rfl,h1,h2,rfl,h3⟩))
  |movi _=>exact .inr (.inr (.inr (.inl ⟨rfl,rfl,rfl,rfl⟩)))
  |hi _=>exact .inr (.inr (.inr (.inr (.inl ⟨rfl,rfl,rfl,rfl,rfl⟩))))
  |fl _=>exact .inr (.inr (.inr (.inr (.inr (.inl ⟨rfl,rfl,rfl,rfl,rfl⟩)))))
  |mem h1 h2 _ _=>exact .inr (.inr (.inr (.inr (.inr (.inr (.inl ⟨rfl,h1,h2,rfl,rfl⟩))))))
  |br h _=>exact .inr (.inr (.inr (.inr (.inr (.inr (.inr (.inl ⟨rfl,h.1,h.2,rfl,rfl⟩)))))))
  |jmp h=>exact .inr (.inr (.inr (.inr (.inr (.inr (.inr (.inr ⟨rfl,h.1,h.2,rfl,rfl,rfl⟩)))))))
 ·intro h;unfold I0P at h;rcases h with⟨rfl,h1,h2,h3⟩|⟨rfl,rfl,rfl,rfl⟩|⟨rfl,h1,h2,rfl,h3⟩|⟨rfl,rfl,rfl,rfl⟩|⟨rfl,rfl,rfl,rfl,rfl⟩|⟨rfl,rfl,rfl,rfl,rfl⟩|⟨rfl,h1,h2,rfl,rfl⟩|⟨rfl,h1,h2,rfl,rfl⟩|⟨rfl,h1,h2,rfl,rfl,rfl⟩
  ·exact .reg h1 h2 ha hb hc h3
  ·exact .mov ha hc
  ·exact .imm h1 h2 ha hb h3
  ·exact .movi ha
  ·exact .hi ha
  ·exact .fl ha
  ·exact .mem h1 h2 ha hb
  ·exact .br ⟨h1,h2⟩ hc
  ·exact .jmp ⟨h1,h2⟩
end Rv
namespace Rv
open Go
def iT(k o i:I)(u:zaa):Prop:=
 (k=2/\-65536<=i/\i<=65535/\(o=0->u=H->0<=i))\/(k=5/\-524288<=i/\i<=524287)\/(k=7/\-8388608<=i/\i<=8388607)\/(k≠2/\k≠5/\k≠7/\i=0)
instance (k o i:I) (u:zaa):Decidable (iT k o i u):=by unfold iT;infer_instance
theorem Aw(W:W32){n:G}(hn:n<=32):(gq W 0 n).toNat=W.toNat % 2 ^ n:=by
 refine Nat.eq_of_testBit_eq λj=>?_
 rw[Nat.testBit_mod_two_pow];by_cases hj:j<32
 ·have:=gu W (a:=0) hn hj
  grind
 ·have h1:(gq W 0 n).toNat.testBit j=Y:=BitVec.getLsbD_of_ge _ _ (by omega)
  grind
theorem Eo(W:W32)(i:I){n:G}(hn:n<=32):Gn (gB W (BitVec.ofInt 32 i) 0 n) 0 n=i % 2 ^ n:=by
 unfold Gn;rw[Em W _ (by omega) (U7 _) (U7 _),Nat.sub_self,Aw _ hn,BitVec.toNat_ofInt];have e:((2 ^ n:G):I)=2 ^ n:=by grind
 have e2:((2 ^ 32:G):I)=2 ^ 32:=rfl;rw[Int.natCast_emod,Int.toNat_of_nonneg (Int.emod_nonneg _ (by decide)),e];refine Int.emod_emod_of_dvd i ?_;obtain⟨d,hd⟩:=Nat.exists_eq_add_of_le hn;simp_all [Int.pow_add]
theorem TR(W:W32):sgV W 20=if Gn W 0 20<524288 then Gn W 0 20 else Gn W 0 20-1048576:=by
 unfold sgV Gn
 grind [Aw,Nat.shiftLeft_eq,IntKind.wrap_i32,IntKind.wrap_i64]
theorem TT(W:W32):sgV W 24=if Gn W 0 24<8388608 then Gn W 0 24 else Gn W 0 24-16777216:=by
 unfold sgV Gn
 grind [Aw,Nat.shiftLeft_eq,IntKind.wrap_i32,IntKind.wrap_i64]
theorem Cy{o a b i:I}{u:zaa}(ho:rg o)(ha:rg a)(hb:rg b)(hi:-65536<=i/\i<=65535):bM (aP 2 o a b 0 i u)=(2,o,a,b,0,i,u,()):=by
 obtain⟨h1,h2,h3⟩:=mQ 1 (by decide) u (C (i<0));generalize hW:aP 2 o a b 0 i u=W;unfold aP gp at hW;rw[D (by decide),D (by decide),U rfl] at hW;simp only[lC] at hW;have w1:Gn W 30 2=1:=by grind [aC,bF]
 have w2:Gn W 29 1=if u then 1 else 0:=by grind [aC,bF]
 have w7:Gn W 28 1=if C (i<0) then 1 else 0:=by grind [aC,bF]
 have w3:Gn W 24 4=a:=by rw[<- hW,aC _ _ (by decide) (by decide) (by decide),aC _ _ (by decide) (by decide) (by decide),aC _ _ (by decide) (by decide) (by decide),iq _ (by decide) ha]
 have w4:Gn W 20 4=b:=by rw[<- hW,aC _ _ (by decide) (by decide) (by decide),aC _ _ (by decide) (by decide) (by decide),iq _ (by decide) hb]
 have w5:Gn W 16 4=o:=by rw[<- hW,aC _ _ (by decide) (by decide) (by decide),iq _ (by decide) ho]
 have w6:Gn W 0 16=i % 65536:=by grind [Eo]
 unfold bM
 grind
theorem Mr{o a b i:I}(ho:0<=o/\o<4)(ha:rg a)(hb:rg b)(hi:-524288<=i/\i<=524287):bM (aP 5 o a b 0 i Y)=(5,o,a,b,0,i,Y,()):=by
 obtain⟨h1,h2,h3⟩:=mQ 2 (by decide) (C (2<=o)) (C (Int.tmod o 2=1));generalize hW:aP 5 o a b 0 i Y=W;unfold aP gp at hW;rw[D (by decide),D (by decide),D (by decide),U rfl] at hW;simp only[lC] at hW;have w1:Gn W 30 2=2:=by grind [aC,bF]
 have w2:Gn W 29 1=if C (2<=o) then 1 else 0:=by grind [aC,bF]
 have w7:Gn W 28 1=if C (Int.tmod o 2=1) then 1 else 0:=by grind [aC,bF]
 have w3:Gn W 24 4=a:=by rw[<- hW,aC _ _ (by decide) (by decide) (by decide),aC _ _ (by decide) (by decide) (by decide),iq _ (by decide) ha]
 have w4:Gn W 20 4=b:=by rw[<- hW,aC _ _ (by decide) (by decide) (by decide),iq _ (by decide) hb]
 have w6:sgV W 20=i:=by
  have e:Gn W 0 20=i % 1048576:=by grind [Eo]
  grind [TR]
 have:o=0\/o=1\/o=2\/o=3:=by omega
 unfold bM
 grind
theorem Mq{o i:I}{u:zaa}(ho:rg o)(hi:-8388608<=i/\i<=8388607):bM (aP 7 o 0 0 0 i u)=(7,o,0,0,0,i,u,()):=by
 obtain⟨h1,h2,h3⟩:=mQ 3 (by decide) H u;generalize hW:aP 7 o 0 0 0 i u=W;unfold aP gp at hW;rw[D (by decide),D (by decide),D (by decide),D (by decide),D (by decide)] at hW;simp only[lC] at hW;have w1:Gn W 30 2=3:=by grind [aC,bF]
 have w2:Gn W 29 1=1:=by grind [aC,bF]
 have w7:Gn W 28 1=if u then 1 else 0:=by grind [aC,bF]
 have w3:Gn W 24 4=o:=by rw[<- hW,aC _ _ (by decide) (by decide) (by decide),iq _ (by decide) ho]
 have w6:sgV W 24=i:=by
  have e:Gn W 0 24=i % 16777216:=by grind [Eo]
  grind [TT]
 simp_all [bM]
theorem JU{k o a b c i:I}{u:zaa}(h:bE k o a b c u)(hi:iT k o i u):bM (aP k o a b c i u)=(k,o,a,b,c,i,u,()):=by
 have z:rg 0:=⟨by decide,by decide⟩
 unfold iT at hi;have i0:k≠2->k≠5->k≠7->i=0:=λh2 h5 h7=>by
  grind
 have hg:=h;cases h with
 |imm h1 h2 ha hb hu=>exact Cy ⟨by omega,by omega⟩ ha hb (by omega)
 |movi ha=>grind [Cy]
 |mem h1 h2 ha hb=>grind [Mr]
 |jmp ho=>grind [Mq]
 |reg h1 h2 ha hb hc hu=>grind [kw]
 |mov ha hc=>grind [kw]
 |hi ha=>grind [kw]
 |fl ha=>grind [kw]
 |br ho hc=>grind [kw]
theorem Lh{k o a b c i:I}{u:zaa}(h:bE k o a b c u)(hi:iT k o i u):Zan.g k o a b c i u=S (H,()):=by
 have hr:=JU h hi;have hk:=jg h;unfold Zan.g;generalize 1000+k.toNat+o.toNat+a.toNat+b.toNat+c.toNat+i.toNat=n;unfold Zan.f;rw[dh,U4];dsimp only;rw[decide_eq_true hk.1,decide_eq_true hk.2.1,U (by decide),dh,U4];dsimp only;rw[decide_eq_true hk.2.2.1,decide_eq_true hk.2.2.2,U (by decide),lu,U4];dsimp only;rw[nP,U4,hr];dsimp only;rw[D (by simp)];simp only[dt,df,Zan.j10,dh,U4];have i0:k=1->i=0:=λh1=>by grind [iT]
 cases h with
 |reg h1 h2 ha hb hc hu=>
  grind
 |mov ha hc=>grind
 |imm h1 h2 ha hb hu=>
  grind
 |movi ha=>
  grind [iT]
 |hi ha=>rfl
 |fl ha=>rfl
 |mem h1 h2 ha hb=>rfl
 |br ho hc=>rfl
 |jmp ho=>rfl
theorem Ca{k o a b c i:I}{u:zaa}(h:Zan.g k o a b c i u=S (H,())):bE k o a b c u/\iT k o i u:=by
 unfold Zan.g at h;generalize 1000+k.toNat+o.toNat+a.toNat+b.toNat+c.toNat+i.toNat=n at h;unfold Zan.f at h;rw[dh,U4] at h;dsimp only at h;by_cases hk:1<=k/\k<=7
 case neg=>grind
 rw[U (by simp[hk]),dh,U4] at h;dsimp only at h;by_cases ho:0<=o/\o<=15
 case neg=>grind
 rw[U (by simp[ho]),lu,U4] at h;dsimp only at h;rw[nP,U4] at h;have s20:=TR (aP k o a b c i u);have s24:=TT (aP k o a b c i u);have r20:=gy (aP k o a b c i u) 0 (n:=20) (by decide);have r24:=gy (aP k o a b c i u) 0 (n:=24) (by decide);have r16:=gy (aP k o a b c i u) 0 (n:=16) (by decide);generalize hW:aP k o a b c i u=W at h s20 s24 r20 r24 r16;have g4:∀p,rg (Gn W p 4):=λp=>gy W p (n:=4) (by decide)
 have g1:∀p,0<=Gn W p 1/\Gn W p 1<2:=λp=>gy W p (n:=1) (by decide)
 split at h;·cases h
 ·rename_i he;simp only[Bool.not_eq_true',Bool.not_eq_false,Va,Vf,beq_iff_eq,and_true] at he;obtain⟨e1,e2,e3,e4,e5,e6,e7⟩:=he;simp only[dt,df,Zan.j10,dh,U4] at h;unfold bM at e1 e2 e3 e4 e5 e6 e7;split at e1
  ·rename_i f0;rw[U f0] at e2 e3 e4 e5 e6 e7;split at e1
   ·rename_i f1;rw[U f1] at e2 e3 e4 e5 e6 e7;dsimp only at e1 e2 e3 e4 e5 e6 e7;have:=g1 28;subst e2 e4 e5 e7;have hk3:k=3\/k=4:=by omega
    rcases hk3 with rfl|rfl;·exact⟨.hi (e3 ▸ g4 _),.inr (.inr (.inr ⟨by decide,by decide,by decide,e6⟩))⟩
    ·exact⟨.fl (e3 ▸ g4 _),.inr (.inr (.inr ⟨by decide,by decide,by decide,e6⟩))⟩
   ·rename_i f1;rw[D f1] at e2 e3 e4 e5 e6 e7;dsimp only at e1 e2 e3 e4 e5 e6 e7;subst e1;rw[U rfl,U rfl] at h;by_cases ho0:o=0
    ·subst ho0;rw[U rfl] at h;by_cases hb0:b=0
     ·subst hb0;rw[U rfl,U (by decide)] at h;cases u with
      |false=>exact⟨.mov (e3 ▸ g4 _) (e5 ▸ g4 _),.inr (.inr (.inr ⟨by decide,by decide,by decide,e6⟩))⟩
      |true=>grind
     grind
    ·rw[D ho0] at h;by_cases h11:11<o
     ·grind
     ·rw[D h11] at h;refine⟨.reg (by omega) (by omega) (e3 ▸ g4 _) (e4 ▸ g4 _) (e5 ▸ g4 _) λhu=>?_,.inr (.inr (.inr ⟨by decide,by decide,by decide,e6⟩))⟩
      grind
  ·rename_i f0;rw[D f0] at e2 e3 e4 e5 e6 e7;split at e1
   ·rename_i f1;rw[U f1] at e2 e3 e4 e5 e6 e7;dsimp only at e1 e2 e3 e4 e5 e6 e7;subst e1 e5;rw[D (by decide),U rfl] at h;by_cases ho0:o=0
    ·subst ho0;rw[U rfl] at h;by_cases hb0:b=0
     ·subst hb0;exact⟨.movi (e3 ▸ g4 _),.inl ⟨rfl,by grind,by grind,λ_ hu=>by grind⟩⟩
     grind
    ·rw[D ho0] at h;by_cases h11:11<o
     ·grind
     ·rw[D h11] at h;refine⟨.imm (by omega) (by omega) (e3 ▸ g4 _) (e4 ▸ g4 _) λhu=>?_,.inl ⟨rfl,by grind,by grind,λh0=>absurd h0 ho0⟩⟩
      grind
   ·rename_i f1;rw[D f1] at e2 e3 e4 e5 e6 e7;split at e1
    ·rename_i f2;rw[U f2] at e2 e3 e4 e5 e6 e7;dsimp only at e1 e2 e3 e4 e5 e6 e7;have q1:=g1 29;have q2:=g1 28;subst e1 e5 e7;exact⟨.mem (by omega) (by omega) (e3 ▸ g4 _) (e4 ▸ g4 _),.inr (.inl ⟨rfl,by grind,by grind⟩)⟩
    ·rename_i f2;rw[D f2] at e2 e3 e4 e5 e6 e7;split at e1
     ·rename_i f3;rw[U f3] at e2 e3 e4 e5 e6 e7;dsimp only at e1 e2 e3 e4 e5 e6 e7;subst e1 e3 e4 e5;exact⟨.jmp (e2 ▸ g4 _),.inr (.inr (.inl ⟨rfl,by grind,by grind⟩))⟩
     ·rename_i f3;rw[D f3] at e2 e3 e4 e5 e6 e7;dsimp only at e1 e2 e3 e4 e5 e6 e7;subst e1 e3 e4;exact⟨.br (e2 ▸ g4 _) (e5 ▸ g4 _),.inr (.inr (.inr ⟨by decide,by decide,by decide,e6⟩))⟩
end Rv
namespace Rv
open Go
theorem SK(x:I):bn .and .i64 x 15=x % 16:=by
 have e:bn .and .i64 x 15=zab.wrap ((BitVec.ofInt 64 x &&& BitVec.ofInt 64 15).toNat:I):=rfl;have e2:(BitVec.ofInt 64 15).toNat=2 ^ 4-1:=by decide
 rw[e,BitVec.toNat_and,e2,Nat.and_two_pow_sub_one_eq_mod,BitVec.toNat_ofInt,w64 (by omega)];omega
def UT:Str:=[48,49,50,51,52,53,54,55,56,57,65,66,67,68,69,70]
def nmD(a:I)(k:G):I:=bt UT (a.fdiv (2 ^ k) % 16)
def nmR(a:I):Str:=bytesOf [95,nmD a 12,nmD a 8,nmD a 4,nmD a 0]
theorem rz(n m:G)(a:I)(b:N I)(k:G)(hk:k<=12)(hb:b.length<=100):Zbe.l3 n (m+1) a b (k:I)=Zbe.l3 n m a (b++[nmD a k]) ((k:I)-4):=by
 rw[Zbe.l3];have e:min ((k:I)).toNat zab.bits=k:=by
  rw[Vj];exact Nat.min_eq_left (Vv hk (by decide))
 have h16:0<=a.fdiv (2 ^ k) % 16/\a.fdiv (2 ^ k) % 16<16:=⟨Int.emod_nonneg _ (by decide),Int.emod_lt_of_pos _ (by decide)⟩
 rw[U (by simp),D (by omega),e,SK,U ⟨h16.1,h16.2⟩,U (by simp;omega),w64 (by omega)];rfl
theorem KR(a:I):Zbe.g a=S (nmR a,()):=by
 unfold Zbe.g Zbe.f;obtain⟨m,hm⟩:∃m,1000+a.toNat=m+5:=⟨995+a.toNat,by omega⟩
 rw[hm];rw[show(12:I)=((12:G):I) from rfl,rz _ (m+4) a _ 12 (by decide) (by decide)];rw[show((12:G):I)-4=((8:G):I) from rfl,rz _ (m+3) a _ 8 (by decide) (by simp)];rw[show((8:G):I)-4=((4:G):I) from rfl,rz _ (m+2) a _ 4 (by decide) (by simp)];rw[show((4:G):I)-4=((0:G):I) from rfl,rz _ (m+1) a _ 0 (by decide) (by simp)];rw[Zbe.l3,D (by decide)];rfl
theorem ut(a:I):Zdl.g a=S ([((2:I),0,nmR a,())],()):=by
 unfold Zdl.g Zdl.f;rw[KR,U4]
def fE(a:I):N It:=if a<0 then[((1:I),E.wrap (-a),[],()),((3:I),0,[],())] else[((1:I),E.wrap a,[],())]
theorem O0(a:I):0<(fE a).length/\(fE a).length<=2:=by grind [fE]
theorem G5{v:I}(h:0<=v/\v<=4294967295):fE v=[((1:I),v,[],())]:=by
 unfold fE;rw[D (by omega),IntKind.wrap_u32,show v % 4294967296=v by omega]
theorem Ak{a:I}(h:-9223372036854775808<a/\a<=9223372036854775807):disasm_number.g a=S (fE a,()):=by
 unfold disasm_number.g fE;obtain⟨m,hm⟩:∃m,1000+a.toNat=m+2:=⟨998+a.toNat,by omega⟩
 rw[hm];show disasm_number.f (1000+a.toNat) (bI (m+1)) a=_;unfold disasm_number.f;by_cases hn:a<0
 ·rw[U (by simpa using hn),U hn,w64 (by omega)];have e:(bI (m+1)).disasm_number (0-a)=S ([((1:I),E.wrap (0-a),[],())],()):=by
   show disasm_number.f (1000+(0-a).toNat) (bI m) (0-a)=_;unfold disasm_number.f
   grind
  grind
 grind
theorem Es(n:G)(a:N I)(b:I)(hl:a.length<=9223372036854775806):∀(m i:G),i<=a.length->a.length-i<m->∃y,Zcs.l2 n m a b (a.length:I) (i:I)=S (y,())/\(0<=y↔b∈a.drop i)
 |0,i,_,h=>by omega
 |m+1,i,hi,h=>by
  rw[Zcs.l2];by_cases hlt:i<a.length
  ·rw[U (by simp;omega),U ⟨by omega,by omega⟩];have hd:a.drop i=a.getD i 0::a.drop (i+1):=by
    simp_all
   rw[Vj];by_cases he:b=a.getD i 0
   ·rw[U (by simpa using he)]
    grind
   ·rw[D (by simpa using he),w64 (by omega)];obtain⟨y,h1,h2⟩:=Es n a b hl m (i+1) (by omega) (by omega)
    grind
  simp_all [D,List.drop_eq_nil_of_le]
theorem D9{a:N I}(hl:a.length<=9223372036854775806)(b:I):Zcz.g a b=S (C (b∈a),()):=by
 unfold Zcz.g Zcz.f Zcs.g Zcs.f;obtain⟨y,h1,h2⟩:=Es (1000+a.length+b.toNat) a b hl (1000+a.length+b.toNat) 0 (Nat.zero_le _) (by omega)
 grind
abbrev UG:=I×I×I×I×I×I×zaa×zaa×zad
def jV(v:I):UG:=(Zcl.g v).getD (0,0,0,0,0,0,Y,Y,())
theorem ko{v:I}(h:0<=v/\v<=4294967295):Zcl.g v=S (jV v)/\(jV v=(0,0,0,0,0,0,Y,Y,())\/∃k o a b c i u,jV v=(k,o,a,b,c,i,u,H,())/\bE k o a b c u/\iT k o i u/\v=((aP k o a b c i u).toNat:I)):=by
 have key:∃r,Zcl.g v=S r/\(r=(0,0,0,0,0,0,Y,Y,())\/∃k o a b c i u,r=(k,o,a,b,c,i,u,H,())/\bE k o a b c u/\iT k o i u/\v=((aP k o a b c i u).toNat:I)):=by
  obtain⟨W,rfl⟩:∃W:W32,v=(W.toNat:I):=⟨BitVec.ofInt 32 v,by rw[BitVec.toNat_ofInt];omega⟩
  unfold Zcl.g Zcl.f;rw[nP,U4];obtain⟨k,o,a,b,c,i,u,z⟩:=bM W;dsimp only;obtain⟨r,hr,_⟩:=Cb k o a b c i u;rw[hr,U4];cases r with
  |false=>grind
  |true=>
   dsimp only;rw[U (by decide),lu,U4];obtain⟨g1,g2⟩:=Ca hr
   grind
 grind [jV]
def eH(ws ss:N I)(i:G):I×zaa×zad:=
 if i<ws.length/\(i:I) ∉ ss/\(jV (ws.getD i 0)).2.2.2.2.2.2.2.1=H/\(jV (ws.getD i 0)).1=7/\0<=(i:I)+1+(jV (ws.getD i 0)).2.2.2.2.2.1/\(i:I)+1+(jV (ws.getD i 0)).2.2.2.2.2.1<=ws.length then(4*((i:I)+1+(jV (ws.getD i 0)).2.2.2.2.2.1),H,()) else(0,Y,())
structure Ab (ws ss:N I):Prop where
 w:ws.length<=100000
 s:ss.length<=100000
 u:∀x∈ws,0<=x/\x<=4294967295
theorem Ab.at{ws ss:N I}(h:Ab ws ss){i:G}(hi:i<ws.length):0<=ws.getD i 0/\ws.getD i 0<=4294967295:=by
 rw[Vh,Ve hi];exact h.u _ (VI hi)
theorem BG{v:I}(h:0<=v/\v<=4294967295):-9000000<=(jV v).2.2.2.2.2.1/\(jV v).2.2.2.2.2.1<=9000000:=by
 rcases(ko h).2 with e|⟨k,o,a,b,c,i,u,e,_,hi,_⟩;·rw[e];decide
 grind [iT]
theorem Ec{ws ss:N I}(h:Ab ws ss)(ys:N (Str×I×zad))(i:G)(hi:i<=9223372036854775800):Zco.g ws ss ys (i:I)=S (eH ws ss i):=by
 unfold Zco.g Zco.f eH;have hss:=h.s;have hws:=h.w;rw[U (by simp)];by_cases hlt:i<ws.length
 ·rw[U (by simp;omega),D9 (by omega),U4];dsimp only;by_cases hm:(i:I)∈ss
  ·grind
  ·rw[D (by simpa using hm),U ⟨by omega,by omega⟩,Vj,(ko (h.at hlt)).1,U4];have hsm:=BG (h.at hlt);generalize jV (ws.getD i 0)=r at hsm⊢;obtain⟨k,o,a,b,c,j,u,okk,z⟩:=r;dsimp only at hsm⊢;rw[w64 (x:=(i:I)+1) (by omega),w64 (x:=(i:I)+1+j) (by omega),w64 (x:=4*((i:I)+1+j)) (by omega),w64 (x:=4*(ws.length:I)) (by omega)]
   grind
 grind
def stN(k:I)(e:N It):Sn:=(k,0,0,0,0,Y,e,[],())
def nmE(a:I):N It:=[((2:I),0,nmR a,())]
def kI(ws ss:N I)(i:G):Sn:=
 if ws.length<=i then stN 0 [] else
 if(i:I)∈ss then stN 9 (if ws.getD i 0 % 4=0 then nmE (ws.getD i 0) else nmE 0++fE (ws.getD i 0)++[((4:I),0,[],())]) else
 let x:=jV (ws.getD i 0)
 if x.2.2.2.2.2.2.2.1=Y then stN 9 (fE (ws.getD i 0)) else
 if x.1=7 then(if(eH ws ss i).2.1=H then(x.1,x.2.1,x.2.2.1,x.2.2.2.1,x.2.2.2.2.1,x.2.2.2.2.2.2.1,nmE (eH ws ss i).1,[],()) else stN 9 (fE (ws.getD i 0))) else
 (x.1,x.2.1,x.2.2.1,x.2.2.2.1,x.2.2.2.2.1,x.2.2.2.2.2.2.1,(if x.1=2\/x.1=5 then fE x.2.2.2.2.2.1 else[]),[],())
theorem NP{ws ss:N I}(h:Ab ws ss)(ys:N (Str×I×zad))(i:G)(hi:i<=9223372036854775800):Zbh.g ws ss ys (i:I)=S (kI ws ss i):=by
 unfold Zbh.g Zbh.f kI;have hss:=h.s;have hws:=h.w;rw[U (by simp)];by_cases hge:ws.length<=i;·rw[U (by simp;omega),U hge];rfl
 ·have hlt:i<ws.length:=by omega
  have hat:=h.at hlt;rw[D (by simp;omega),D hge,U ⟨by omega,by omega⟩,Vj,w64 (by omega),Ak (by omega),U4,D9 (by omega),U4];dsimp only;by_cases hm:(i:I)∈ss
  ·rw[U (by simpa using hm),U hm,ut,U4];by_cases h4:ws.getD i 0 % 4=0
   ·have ht:Int.tmod (ws.getD i 0) 4=0:=by grind
    rw[D (by simpa using ht),U h4];rfl
   ·have ht:¬Int.tmod (ws.getD i 0) 4=0:=by grind
    have hn:=O0 (ws.getD i 0);rw[U (by simpa using ht),D h4,ut,U4,U4];dsimp only;generalize fE (ws.getD i 0)=z at hn⊢;rw[U (by simp;omega),U (by simp;omega)];rfl
  ·rw[D (by simpa using hm),D hm,U ⟨by omega,by omega⟩,(ko hat).1,U4,Ec h ys i hi];have hsm:=BG hat
   generalize jV (ws.getD i 0)=r at hsm⊢;obtain⟨k,o,a,b,c,j,u,okk,z⟩:=r;dsimp only at hsm⊢;cases okk with
   |false=>rw[U (by decide),U rfl];rfl
   |true=>
    rw[D (show ¬((!H)=H) by decide),D (show ¬(H=Y) by decide)];by_cases hk:k=7
    ·rw[U (by simpa using hk),U hk,U4];generalize eH ws ss i=q;obtain⟨dst,iz,zz⟩:=q;dsimp only;cases iz with
     |false=>rw[U (by decide),D (by decide)];rfl
     |true=>rw[D (by decide),U rfl,ut,U4];rfl
    ·rw[D (by simpa using hk),D hk];by_cases h2:k=2
     ·rw[U (by simpa using h2),U (by simpa using h2),Ak (by omega),U4,U (.inl h2)];rfl
     ·rw[D (by simpa using h2)];by_cases h5:k=5
      ·rw[U (by simpa using h5),Ak (by omega),U4,U (.inr h5)];rfl
      ·rw[D (by simpa using h5),D (by omega)];rfl
end Rv
namespace Rv
open Go
def isL(b:UInt8):zaa:=C (65<=b.toNat/\b.toNat<=90\/97<=b.toNat/\b.toNat<=122\/b.toNat=95)
def isD(b:UInt8):zaa:=C (48<=b.toNat/\b.toNat<=57)
def isW(b:UInt8):zaa:=isL b||isD b
def aZ(s:Str):Str:=s.takeWhile isW
theorem Iy{p q:Prop}[Decidable p][Decidable q](h:p↔q):S (decide p,())=S (decide q,()):=by simp[h]
theorem letter_eq(b:UInt8):Zct.g (b.toNat:I)=S (isL b,()):=by
 unfold Zct.g Zct.f isL;simp only[dt,df]
 grind [Iy]
theorem digit_eq(b:UInt8):Zda.g (b.toNat:I)=S (isD b,()):=by
 unfold Zda.g Zda.f isD;simp only[dt,df]
 grind [Iy]
theorem Nb(s:Str)(hs:s.length<=9223372036854775807)(n:G):∀(m k:G),k<=s.length->s.length-k<m->Zap.l2 n m s (k:I)=S (s.take (k+(aZ (s.drop k)).length),()):=by
 intro m
 induction m with
 |zero=>grind
 |succ m ih=>
  intro k hk hm;have hend:Zap.j4 n s (k:I)=S (s.take k,()):=by
   simp_all [Zap.j4]
  simp only[Zap.l2,dt,df];by_cases hlt:k<s.length
  ·have hd:=eZ hlt;have step:Zap.j3 n (Zap.l2 n m) s (k:I)=S (s.take (k+1+(aZ (s.drop (k+1))).length),()):=by
    unfold Zap.j3;rw[w64 (by omega)]
    grind
   rw[U (by omega),U (by omega),qj,letter_eq,U4];cases hl:isL (s.getD k 0) with
   |true=>
    rw[D (by simp),step,hd];simp only[aZ,List.takeWhile_cons,isW,hl,Bool.true_or,if_true,Vn]
    grind
   |false=>
    rw[U rfl,U (by omega),digit_eq,U4];cases hdg:isD (s.getD k 0) with
    |true=>
     rw[U rfl,step,hd];simp only[aZ,List.takeWhile_cons,isW,hl,hdg,Bool.or_true,if_true,Vn]
     grind
    |false=>
     rw[D (by simp),hend,hd];simp only[aZ,List.takeWhile_cons,isW,hl,hdg,Bool.or_self,Bool.false_eq_true,if_false,Vz,Nat.add_zero]
  grind
theorem IL(s:Str)(hs:s.length<=9223372036854775807):Zap.g s=S (aZ s,()):=by
 unfold Zap.g Zap.f;have:=Nb s hs (1000+s.length) (1000+s.length) 0 (by omega) (by omega);rw[show((0:G):I)=0 from rfl] at this;rw[this];congr 2;simp only[VB,Nat.zero_add];exact(List.prefix_iff_eq_take.1 (List.takeWhile_prefix isW)).symm
def pU(c:I):I:=if c / 32 % 2=1 then c else c+32
theorem LF:((List.range 256).all λn=>C (bn .or .u8 (n:I) 32=pU n))=H:=by decide +kernel
theorem lower_eq(b:UInt8):Zam.g (b.toNat:I)=S (pU b.toNat,()):=by
 unfold Zam.g Zam.f;have:=Vq.1 LF b.toNat (by have:=b.toNat_lt;grind)
 grind
def iY(b:UInt8):zac G:=
 if 48<=b.toNat/\b.toNat<=57 then S (b.toNat-48) else if 97<=b.toNat/\b.toNat<=122 then S (b.toNat-87) else if 65<=b.toNat/\b.toNat<=90 then S (b.toNat-55) else Z
def aS(base:G):G->Str->zac G
 |n,[]=>S n
 |n,c::r=>match iY c with
  |some d=>if d<base then(if n*base+d<4294967296 then aS base (n*base+d) r else Z) else Z
  |none=>Z
def PuR(o:zac G)(r:zac (I×zac I×zad)):Prop:=
 (∀v,o=S v->r=S ((v:I),Z,()))/\(o=Z->∃x e,r=S (x,S e,())/\(e=1\/e=2))
theorem PuR.bad{x e:I}(h:e=1\/e=2):PuR Z (S (x,S e,())):=⟨λ_ e=>(by cases e),λ_=>⟨x,e,rfl,h⟩⟩
theorem OJ(s:Str)(k:G)(h:k<s.length):(s.map λb=>(b.toNat:I)).getD ((k:I)).toNat 0=((s.getD k 0).toNat:I):=by
 grind
theorem Pp{n:G}{rl:I->zaa->Str->I->I->zaa->I->(N I)->I->I->zac (I×(zac I)×zad)}{base d v k:G}{s9:Str}{cutoff:I}{t:N I}{l:I}{o:G->zac G}(hb:base=10\/base=16)(hd:d<36)(hv:v<4294967296)(hc:4294967296<=cutoff)(hk:k<9223372036854775807)
  (hr:∀v,v<4294967296->PuR (o v) (rl base Y s9 cutoff 4294967295 Y v t l ((k+1:G):I))) :
  PuR (if d<base then(if v*base+d<4294967296 then o (v*base+d) else Z) else Z) (Zaa.j46 n rl base Y s9 cutoff 4294967295 Y v d t l k):=by
 unfold Zaa.j46 Zaa.j55;have hm:v*base<68719476736:=by
  grind
 rw[w8u (by omega),w64 (x:=(k:I)+1) (by omega),yF (x:=(base:I)) (by omega),yF (x:=(d:I)) (by omega)];have e1:((v:I)*(base:I))=((v*base:G):I):=by simp
 rw[e1];have hr':=λh=>hr (v*base+d) h
 generalize v*base=M at *;rw[yF (x:=(M:I)) (by omega),yF (x:=(M:I)+d) (by omega)];simp only[dt,df];by_cases h1:d<base
 ·by_cases h2:M+d<4294967296
  ·grind
  ·rw[U h1,D h2,D (by omega),D (by omega),U (by omega),U (by omega)];exact PuR.bad (.inl rfl)
 simp_all [D,PuR.bad]
theorem RS(s s9:Str)(base:G)(cutoff:I)(hb:base=10\/base=16)(hc:4294967296<=cutoff)(hs:s.length<9223372036854775807)(n:G):∀(m k v:G),k<=s.length->s.length-k<m->v<4294967296 ->
  PuR (aS base v (s.drop k)) (Zaa.l36 n m base Y s9 cutoff 4294967295 Y v (s.map λb=>(b.toNat:I)) ((s.map λb=>(b.toNat:I)).length:I) k):=by
 intro m
 induction m with
 |zero=>grind
 |succ m ih=>
  intro k v hk hm hv;simp only[Zaa.l36,dt,df];by_cases hlt:k<s.length
  ·have hl:k<(s.map λb=>(b.toNat:I)).length:=by simpa using hlt
   rw[U (by omega),U (by omega),eZ hlt];simp only[OJ s k hlt,lower_eq,U4,Bool.false_eq_true,if_false];have step:∀d,iY (s.getD k 0)=S d->d<36->PuR (aS base v (s.getD k 0::s.drop (k+1))) (Zaa.j46 n (Zaa.l36 n m) base Y s9 cutoff 4294967295 Y v d (s.map λb=>(b.toNat:I)) ((s.map λb=>(b.toNat:I)).length:I) k):=by
    intro d hd hd36;simp only[aS,hd];exact Pp (o:=λv=>aS base v (s.drop (k+1))) hb hd36 hv hc (by omega) λv hv=>ih (k+1) v (by omega) (by omega) hv
   have bad:iY (s.getD k 0)=Z->PuR (aS base v (s.getD k 0::s.drop (k+1))) (S ((0:I),S (2:I),())):=by
    simp_all [aS,PuR.bad]
   generalize hbb:s.getD k 0=b at *;have hb1:=GU b;have dig1:(48:I)<=b.toNat->(b.toNat:I)<=57->iY b=S (b.toNat-48):=λh1 h2=>by unfold iY;grind
   have dig2:¬((48:I)<=b.toNat/\(b.toNat:I)<=57)->(97:I)<=pU b.toNat->pU b.toNat<=(122:I)->∃d,iY b=S d/\d<36/\IntKind.u8.wrap (IntKind.u8.wrap (pU b.toNat-97)+10)=(d:I):=λh1 h2 h3=>by
    rw[w8u (x:=pU b.toNat-97) (by omega),w8u (by omega)];unfold pU at h2 h3⊢;unfold iY
    grind
   have dig3:¬((48:I)<=b.toNat/\(b.toNat:I)<=57)->¬((97:I)<=pU b.toNat/\pU b.toNat<=(122:I))->iY b=Z:=λh1 h2=>by
    unfold pU at h2;unfold iY
    grind
   have wr:(48:I)<=b.toNat->(b.toNat:I)<=57->IntKind.u8.wrap ((b.toNat:I)-48)=((b.toNat-48:G):I):=λh1 h2=>by grind [w8u]
   grind
  ·have:k=s.length:=by omega
   subst this;rw[D (by simp),VH];simp only[Bool.false_eq_true,if_false];exact⟨λv' e=>by grind [aS],λe=>by simp[aS] at e⟩
theorem Gu(s:Str)(base:G)(hb:base=10\/base=16)(hs:s.length<9223372036854775807):PuR (if s=[] then Z else aS base 0 s) (Zaa.g s base 32):=by
 unfold Zaa.g Zaa.f;simp only[dt,df];by_cases h0:s=[]
 ·simp_all [PuR.bad]
 ·rw[D h0,D h0,U (by omega),U (by omega)];have hb0:C ((base:I)=0)=Y:=by simp;omega
  rw[hb0];unfold Zaa.j21;simp only[dt,df];rw[D (by omega),U (by omega),D (by omega)];unfold Zaa.j25;simp only[dt,df];have fin:∀cutoff:I,4294967296<=cutoff->PuR (aS base 0 s) (Zaa.j32 (1000+s.length+(base:I).toNat+(32:I).toNat) s base 32 Y s cutoff):=by
   intro cutoff hc;unfold Zaa.j32;have e1:zae.wrap 32=32:=yF (by omega);rw[e1,D (by omega)];have e2:zae.wrap (zae.wrap (1*2 ^ min (32:I).toNat zae.bits)-1)=4294967295:=by decide
   rw[e2];have:=RS s s base cutoff hb hc hs (1000+s.length+(base:I).toNat+(32:I).toNat) (1000+s.length+(base:I).toNat+(32:I).toNat) 0 0 (by omega) (by omega) (by omega)
   grind
  grind
theorem Pj(s:Str)(base:G)(hb:base=10\/base=16)(hs:s.length<=281474976710656):(∀v,(if s=[] then Z else aS base 0 s)=S v->Zcu.g s base 32=S ((v:I),H,())) /\
  ((if s=[] then Z else aS base 0 s)=Z->∃x,Zcu.g s base 32=S (x,Y,())):=by
 obtain⟨h1,h2⟩:=Gu s base hb (by omega);refine⟨λv hv=>?_,λhn=>?_⟩;·grind [Zcu.g,Zcu.f]
 ·obtain⟨x,e,he,hc⟩:=h2 hn;simp_all [Zcu.g,Zcu.f,L.toErrorO]
theorem uo:∀{s:Str}{c:UInt8},Lib.contains s [c]=H->c∈s
 |[],c,h=>by simp[Lib.contains,Lib.index] at h
 |b::l,c,h=>by
  by_cases hb:c=b;·simp[hb]
  ·have:Lib.contains l [c]=H:=by
    simp only[Lib.contains,Lib.index,List.isPrefixOf,Bool.and_true,beq_iff_eq,Vf] at h⊢
    grind
   exact U9 _ (uo this)
theorem xe{base:G}:∀{s:Str}{v:G},(95:UInt8)∈s->aS base v s=Z
 |[],_,h=>by cases h
 |c::r,v,h=>by
  simp only[aS];rcases Vg.1 h with h|h
  ·rw[<- h]
   grind [iY]
  ·(repeat' split)<;>first|rfl|exact xe h
theorem rY{base:G}:∀{s:Str}{v w:G},v<4294967296->aS base v s=S w->w<4294967296
 |[],_,_,hv,h=>by grind [aS]
 |c::r,v,w,hv,h=>by
  simp only[aS] at h;split at h
  ·split at h
   ·split at h
    ·exact rY (by assumption) h
    ·cases h
   ·cases h
  ·cases h
def num(s:Str):zac G:=
 if([48,120]:Str).isPrefixOf s then(if s.drop 2=[] then Z else aS 16 0 (s.drop 2)) else if s=[] then Z else aS 10 0 s
theorem Tv{s:Str}{v:G}(h:num s=S v):v<4294967296:=by
 unfold num at h;split at h<;>split at h<;>first|(cases h;done)|exact rY (by omega) h
theorem xg(s:Str)(base:G)(n:G)(hb:base=10\/base=16)(hs:s.length<=1000000) :
  (∀v,(if s=[] then Z else aS base 0 s)=S v->Zbu.j5 n s base=S ((v:I),H,()))/\((if s=[] then Z else aS base 0 s)=Z->∃x,Zbu.j5 n s base=S (x,Y,())):=by
 have hcO:L.containsO s [95]=S (Lib.contains s [95],()):=by unfold L.containsO;grind
 unfold Zbu.j5;rw[hcO,U4];obtain⟨h1,h2⟩:=Pj s base hb (by omega);by_cases hc:Lib.contains s [95]=H;·simp_all [uo,xe]
 ·simp only[hc,Bool.false_eq_true,if_false];refine⟨λv hv=>?_,λhn=>?_⟩
  ·have hlt:v<4294967296:=by
    split at hv;·cases hv
    ·exact rY (by omega) hv
   grind [U3]
  grind
theorem number_eq(s:Str)(hs:s.length<=1000000):(∀v,num s=S v->Zbu.g s=S ((v:I),H,()))/\(num s=Z->∃x,Zbu.g s=S (x,Y,())):=by
 unfold Zbu.g Zbu.f num L.cutIs L.cutRest Lib.trimPrefix Lib.hasPrefix;by_cases hp:([48,120]:Str).isPrefixOf s=H;·simp only[hp,if_true];exact xg (s.drop 2) 16 _ (.inr rfl) (by simp;omega)
 ·have hp':([48,120]:Str).isPrefixOf s=Y:=Bool.eq_false_iff.2 hp;simp only[hp',Bool.false_eq_true,if_false];exact xg s 10 _ (.inl rfl) hs
abbrev Tok:=I×I×Str×I×zad
def isS(c:UInt8):zaa:=([44,58,43,45,42,40,41,61]:Str).contains c
def jc(c:UInt8)(r:Str):Except I (G×I×Str×I):=
 if isL c then .ok (0,1,aZ (c::r),0)
 else if isD c then match num (aZ (c::r)) with
  |some v=>.ok (0,2,aZ (c::r),v)
  |none=>.error 21
 else if c=46/\(∃d∈r.head?,isL d) then .ok (1,4,aZ r,0)
 else if isS c then .ok (0,3,[c],0)
 else .error 20
def aH(k:I):Str->Except I (N Tok)
 |[]=>.ok []
 |c::r=>
  if c=59 then .ok []
  else if c=32\/c=9 then aH (k+1) r
  else match jc c r with
   | .error e=>.error e
   | .ok (d,q,t,v)=>match aH (k+d+t.length) (r.drop (d+t.length-1)) with
    | .error e=>.error e
    | .ok l=>.ok ((q,k,t,v,())::l)
termination_by s=>s.length
decreasing_by
 all_goals simp
 all_goals omega
theorem mD(k:I):aH k []=.ok []:=by rw[aH]
theorem eX(k:I)(c:UInt8)(r:Str):aH k (c::r)=if c=59 then .ok [] else if c=32\/c=9 then aH (k+1) r else match jc c r with
   | .error e=>.error e
   | .ok (d,q,t,v)=>match aH (k+d+t.length) (r.drop (d+t.length-1)) with
    | .error e=>.error e
    | .ok l=>.ok ((q,k,t,v,())::l):=by rw[aH]
theorem PO:((List.range 256).all λn=>C ((0<=L.indexByte ([44,58,43,45,42,40,41,61]:Str) (n:I))=(isS (UInt8.ofNat n)=H)))=H:=by decide +kernel
theorem R9(b:UInt8):(0<=L.indexByte ([44,58,43,45,42,40,41,61]:Str) (b.toNat:I))=(isS b=H):=by
 have:=Vq.1 PO b.toNat (by have:=b.toNat_lt;grind)
 simp_all [of_decide_eq_true]
def bg(out:N Tok):Except I (N Tok)->N Tok×I×zad
 | .ok l=>(out++l,0,())
 | .error e=>([],e,())
theorem ED(out:N Tok)(t:Tok)(x:Except I (N Tok)):bg (out++[t]) x=bg out (match x with | .error e=>.error e | .ok l=>.ok (t::l)):=by
 grind [bg]
theorem vX(s:Str):(aZ s).length<=s.length:=(List.takeWhile_prefix isW).length_le
theorem zY{c:UInt8}{r:Str}(h:isW c=H):1<=(aZ (c::r)).length:=by
 simp[aZ,List.takeWhile_cons,h]
theorem LB(s:Str)(hs:s.length<=1000000)(n:G):∀(m k:G) (out:N Tok),k<=s.length->s.length-k<m->out.length<=k->Zah.g0 n m s out (k:I)=S (bg out (aH k (s.drop k))):=by
 intro m
 induction m with
 |zero=>grind
 |succ m ih=>
  intro k out hk hm hout;have e1:zab.wrap ((k:I)+1)=((k+1:G):I):=by grind [w64]
  by_cases hlt:k<s.length
  ·have tok:∀(d:G) (q:I) (t:Str) (v:I),1<=d+t.length->k+d+t.length<=s.length->Zah.j23 n (Zah.g0 n m) s out ((k+d:G):I) q (k:I) t v=S (bg out (match aH ((k:I)+d+t.length) ((s.drop (k+1)).drop (d+t.length-1)) with
     | .error e=>.error e
     | .ok l=>.ok ((q,k,t,v,())::l))):=by
    intro d q t v h1 h2;unfold Zah.j23;rw[U (by simp;omega),w64 (by omega)];have:=ih (k+d+t.length) (out++[(q,(k:I),t,v,())]) h2 (by omega) (by simp;omega)
    grind [ED,List.drop_drop]
   have tok0:=λq t v h1 h2=>tok 0 q t v h1 h2
   simp only[Nat.add_zero,Nat.zero_add] at tok0;have tok1:=λq t v h1 h2=>tok 1 q t v h1 h2
   have skip:Zah.g0 n m s out ((k+1:G):I)=S (bg out (aH ((k:I)+1) (s.drop (k+1)))):=by
    grind
   rw[eZ hlt,eX];simp only[Zah.g0,dt,df];simp only[e1,qj,letter_eq,digit_eq,U4,Vj,List.take_length,R9];rw[U (by omega),U (by omega)];have hw0:=IL (s.drop k) (by simp;omega);have hw1:=IL (s.drop (k+1)) (by simp;omega);rw[hw0,hw1,eZ hlt];have hl0:=vX (s.drop k);have hl1:=vX (s.drop (k+1));rw[eZ hlt] at hl0;have hd0:(s.drop (k+1)).length=s.length-(k+1):=by simp
   have hd1:(s.getD k 0::s.drop (k+1)).length=s.length-k:=by simp;omega
   have hsign:(s.take (k+1)).drop k=[s.getD k 0]:=by
    grind [eZ]
   have hhead:(∃d∈(s.drop (k+1)).head?,isL d=H)↔k+1<s.length/\isL (s.getD (k+1) 0)=H:=by
    by_cases h:k+1<s.length;·simp_all
    ·rw[List.drop_eq_nil_of_le (by omega)];simp[h]
   have hwp:=@zY (s.getD k 0) (s.drop (k+1));have hwq:k+1<s.length->isL (s.getD (k+1) 0)=H->1<=(aZ (s.drop (k+1))).length:=λh h'=>by
    grind [eZ,zY,isW]
   rw[hsign];have b59:(((s.getD k 0).toNat:I)=59)=(s.getD k 0=59):=kV _ 59 (by decide);have b32:(((s.getD k 0).toNat:I)=32)=(s.getD k 0=32):=kV _ 32 (by decide);have b9:(((s.getD k 0).toNat:I)=9)=(s.getD k 0=9):=kV _ 9 (by decide);have b46:(((s.getD k 0).toNat:I)=46)=(s.getD k 0=46):=kV _ 46 (by decide);generalize s.getD k 0=b at *;by_cases h59:b=59;·simp_all [bg]
   ·rw[D (λh=>h59 (b59.mp h)),D h59,U (by omega)];by_cases h32:b=32
    ·grind
    ·rw[U (λh=>h32 (b32.mp h))];by_cases h9:b=9
     ·grind
     ·rw[D (λh=>h9 (b9.mp h)),D (show ¬(b=32\/b=9) from λh=>h.elim h32 h9)];unfold jc;by_cases hL:isL b=H
      ·rw[U hL,U hL,U (by omega)]
       grind [isW]
      ·rw[D hL,D hL];by_cases hD:isD b=H
       ·rw[U hD,U hD,U (by omega)];simp only[U4];obtain⟨h1,h2⟩:=number_eq (aZ (b::s.drop (k+1))) (by omega);cases hn:num (aZ (b::s.drop (k+1))) with
        |none=>
         grind [bg]
        |some v=>
         rw[h1 v hn];simp only[U4,Bool.not_true,Bool.false_eq_true,if_false]
         grind [isW]
       ·rw[D hD,D hD];have sgn:(if isS b=H then(if 0<=((k+1:G):I)/\((k+1:G):I)<=(s.length:I) then(if 0<=(k:I)/\(k:I)<=((k+1:G):I) then Zah.j23 n (Zah.g0 n m) s out k 3 k [b] 0 else Z) else Z) else S ([],20,())) =
          S (bg out (match (if isS b=H then Except.ok (0,3,[b],0) else Except.error 20:Except I (G×I×Str×I)) with
           | .error e=>.error e
           | .ok (d,q,t,v)=>match aH (k+d+t.length) ((s.drop (k+1)).drop (d+t.length-1)) with
            | .error e=>.error e
            | .ok l=>.ok ((q,k,t,v,())::l))):=by
         by_cases hS:isS b=H;·rw[U hS,U hS,U (by omega),U (by omega),tok0 _ _ _ (by simp) (by simp;omega)];simp
         simp_all [bg]
        by_cases h46:b=46;·grind
        grind
  ·have:k=s.length:=by omega
   simp_all [Zah.g0,mD,bg]
theorem wz(s:Str)(hs:s.length<=1000000):Zah.g s=S (bg [] (aH 0 s)):=by
 unfold Zah.g Zah.f;have:=LB s hs (1000+s.length) (1000+s.length) 0 [] (by omega) (by omega) (by simp)
 grind
end Rv
namespace Rv
open Go
def shift(j:I)(t:Tok):Tok:=(t.1,t.2.1+j,t.2.2)
theorem CX{s:Str}:(59:UInt8) ∉ s.takeWhile isW:=by
 intro h;have h1:(s.takeWhile isW).all isW=H:=List.all_takeWhile;have:=Vq.1 h1 59 h;exact absurd this (by decide)
theorem Qs(s:Str):s.take (s.takeWhile isW).length=s.takeWhile isW:=(List.prefix_iff_eq_take.1 (List.takeWhile_prefix isW)).symm
theorem P7{c:UInt8}{r:Str}{d:G}{q:I}{t:Str}{v:I}(h:jc c r=.ok (d,q,t,v)):1<=d+t.length/\d+t.length-1<=r.length/\(59:UInt8) ∉ r.take (d+t.length-1):=by
 have wc:isW c=H->1<=0+(aZ (c::r)).length/\0+(aZ (c::r)).length-1<=r.length/\(59:UInt8) ∉ r.take (0+(aZ (c::r)).length-1):=by
  intro hc;have:aZ (c::r)=c::r.takeWhile isW:=by simp[aZ,List.takeWhile_cons,hc]
  rw[this];have hl:=(List.takeWhile_prefix isW (l:=r)).length_le;simp only[Vn];refine⟨by omega,by omega,?_⟩;rw[show 0+((r.takeWhile isW).length+1)-1=(r.takeWhile isW).length by omega,Qs];exact CX
 unfold jc at h;split at h;·rename_i hL;simp only[Except.ok.injEq,Vd] at h;obtain⟨rfl,rfl,rfl,rfl⟩:=h;exact wc (by simp[isW,hL])
 ·split at h
  ·rename_i hD;split at h
   ·simp only[Except.ok.injEq,Vd] at h;obtain⟨rfl,rfl,rfl,rfl⟩:=h;exact wc (by simp[isW,hD])
   ·cases h
  ·split at h
   ·simp only[Except.ok.injEq,Vd] at h;obtain⟨rfl,rfl,rfl,rfl⟩:=h;have hl:=vX r;refine⟨by omega,by omega,?_⟩;rw[show 1+(aZ r).length-1=(r.takeWhile isW).length by unfold aZ;omega,Qs];exact CX
   ·split at h
    ·simp only[Except.ok.injEq,Vd] at h;obtain⟨rfl,rfl,rfl,rfl⟩:=h;simp
    ·cases h
theorem MS{s:Str}{b:UInt8}{y:Str}(hb:isW b=Y):(s++b::y).takeWhile isW=s.takeWhile isW:=by
 induction s with
 |nil=>simp[List.takeWhile_cons,hb]
 |cons c s ih=>
  simp only[List.cons_append,List.takeWhile_cons];rw[ih]
theorem uM:∀(n:G) (k:I) (s:Str) (l:N Tok),s.length<=n->aH k s=.ok l->l.length<=s.length
 |_,k,[],l,_,h=>by rw[mD] at h;cases h;simp
 |0,k,c::r,l,hn,_=>by simp at hn
 |n+1,k,c::r,l,hn,h=>by
  simp only[Vn] at hn⊢;rw[eX] at h;split at h;·cases h;simp
  ·split at h
   ·have:=uM n (k+1) r l (by omega) h;omega
   ·split at h
    ·cases h
    ·split at h
     ·cases h
     ·rename_i l' hl;cases h;have:=uM n _ _ l' (by simp;omega) hl;simp at this⊢;omega
theorem wW{k:I}{s:Str}:(bg [] (aH k s)).1.length<=s.length:=by
 cases h:aH k s with
 |error e=>simp[bg]
 |ok l=>simpa[bg] using uM s.length k s l (U7 _) h
end Rv
namespace Rv
open Go
theorem zX{s:Str}(h:s.all isW=H):aZ s=s:=by
 unfold aZ
 induction s with
 |nil=>rfl
 |cons c r ih=>
  rw[VO,Va] at h;rw[List.takeWhile_cons,U h.1,ih h.2]
theorem F3{c:UInt8}(h:isW c=H):c≠59/\¬(c=32\/c=9):=by
 refine⟨λe=>?_,λe=>?_⟩;·subst e;exact absurd h (by decide)
 ·rcases e with rfl|rfl<;>exact absurd h (by decide)
end Rv
namespace Rv
open Go
theorem Oa:((List.range 12).all λk=>isW ((([97,98,99,88,89,90,95,48,49,57,82,109]:Str).take (k+1)).drop k).head!&&C (((([97,98,99,88,89,90,95,48,49,57,82,109]:Str).take (k+1)).drop k).length=1))=H:=by decide +kernel
theorem F8{Q:UInt8->Prop}(s:Str)(hs:s.length<=9223372036854775807)(n:G):∀(m i:G) (out:Str),i<=s.length->6-i<m->i<=6->out.length=i+1->(∃c r,out=c::r/\Q c)->out.all isW=H ->
  ∃r,Zca.l4 n m s ([97,98,99,88,89,90,95,48,49,57,82,109]:Str) out (i:I)=S (r,())/\(∃c t,r=c::t/\Q c)/\r.all isW=H/\r.length<=7/\r.length<=s.length+1:=by
 intro m
 induction m with
 |zero=>intro i out _ h;omega
 |succ m ih=>
  intro i out hi hm h6 hl hh ha;simp only[Zca.l4,dt];by_cases h1:i<s.length
  ·rw[U (by omega)];by_cases h2:i<6
   ·rw[U (by omega),U (by omega),U (by omega),qj];have hb:=GU (s.getD i 0);generalize s.getD i 0=b at *;have e0:Int.tmod (zab.wrap (b.toNat:I)) 12=((b.toNat % 12:G):I):=by
     rw[w64 (by omega)];have:Int.tmod (b.toNat:I) 12=(b.toNat:I) % 12:=VT (by omega);rw[this];omega
    rw[e0];have hk:b.toNat % 12<12:=Nat.mod_lt _ (by omega);generalize b.toNat % 12=k at *;rw[w64 (x:=(k:I)+1) (by omega),w64 (x:=(i:I)+1) (by omega),show(k:I)+1=((k+1:G):I) by omega,show(i:I)+1=((i+1:G):I) by omega,Vj,Vj];have hf:=Vq.1 Oa k (by simpa using hk);simp only[Va,Vf] at hf;obtain⟨f1,f2⟩:=hf;generalize ((([97,98,99,88,89,90,95,48,49,57,82,109]:Str).take (k+1)).drop k)=w at *;obtain⟨c,rfl⟩:∃c,w=[c]:=by
     match w,f2 with
     |[c],_=>exact⟨c,rfl⟩
    rw[U ⟨by omega,by simp only[Vn,Vz];omega⟩,U ⟨by omega,by omega⟩,U (by simp;omega)];refine ih (i+1) (out++[c]) (by omega) (by omega) (by omega) (by simp;omega) ?_ ?_
    ·obtain⟨a,r,rfl,h⟩:=hh;exact⟨a,r++[c],rfl,h⟩
    ·have f1:isW c=H:=f1;rw[List.all_append,ha,VO,f1];rfl
   ·rw[D (by omega)];exact⟨out,rfl,hh,ha,by omega,by omega⟩
  ·rw[D (by omega)];exact⟨out,rfl,hh,ha,by omega,by omega⟩
theorem Jj{Q:UInt8->Prop}(s:Str)(hs:s.length<=9223372036854775807)(n m i:G)(out:Str)(h1:i<=s.length)(h2:6-i<m)(h3:i<=6)(h4:out.length=i+1)(h5:∃c r,out=c::r/\Q c)(h6:out.all isW=H) :
  ∃r,Zca.l4 n m s ([97,98,99,88,89,90,95,48,49,57,82,109]:Str) out (i:I)=S (r,())/\(∃c t,r=c::t/\Q c)/\r.all isW=H/\r.length<=7:=by
 obtain⟨r,g1,g2,g3,g4,_⟩:=F8 s hs n m i out h1 h2 h3 h4 h5 h6;exact⟨r,g1,g2,g3,g4⟩
end Rv
namespace Rv
open Go
end Rv
namespace Rv
open Go
def lI(s:Str):zaa:=C (s.getD 0 0=82)&&(C (s.length=2)||C (s.length=3))&&(s.drop 1).all isD
def ax(s:Str):zaa:=C (s≠[])&&C (s.length<=12)&&!isD (s.getD 0 0)&&s.all isW&&!lI s
def Ju(b:I):zaa:=
 if bn .or .u8 b 32<97\/122<bn .or .u8 b 32\/b<65 then C (b=95)||(!C (b<48)&&!C (57<b)) else H
theorem Ov:((List.range 256).all λk=>Ju k == isW (UInt8.ofNat k))=H:=by decide +kernel
theorem Rj(b:UInt8):Ju b.toNat=isW b:=by
 have h:=Vq.1 Ov b.toNat (by simp;exact b.toNat_lt)
 simpa using h
theorem Mf(p:Prop):p=True\/p=False:=(Classical.em p).imp eq_true eq_false
theorem Jw(s:Str)(n m:G)(i:G)(h1:i<s.length)(X:zac (zaa×zad))(hX:Zac.j9 n (Zac.l4 n m) s (s.length:I) (i:I)=X) :
  Zac.l4 n (m+1) s (s.length:I) (i:I)=if Ju (bt s i)=H then X else S (Y,()):=by
 have hc:(0:I)<=i/\(i:I)<s.length:=by omega
 have hc2:(i:I)<s.length:=hc.2;simp only[Zac.l4,dt,df,hX,Ju];by_cases a1:bn .or .u8 (bt s i) 32<97<;>by_cases a2:122<bn .or .u8 (bt s i) 32<;>by_cases a3:bt s i<65<;>rcases Mf (bt s i=95) with a4|a4<;>by_cases a5:bt s i<48<;>by_cases a6:57<bt s i<;>
  simp only[hc,hc2,a1,a2,a3,a4,a5,a6,if_true,if_false,not_true_eq_false,not_false_eq_true,ne_eq,true_or,or_true,or_false,false_or,or_self,and_self,true_and,decide_true,decide_false,Bool.true_or,Bool.false_or,Bool.not_true,Bool.not_false,Bool.and_true,Bool.and_false,Bool.false_and,Bool.true_and,Bool.or_self,Bool.or_false,Bool.or_true,Bool.false_eq_true]
theorem Jv(s:Str)(hs:s.length<=12)(n:G):∀(m i:G),i<=s.length->s.length-i<m ->
  Zac.l4 n m s (s.length:I) (i:I)=if(s.drop i).all isW=H then Zac.l4 n 1 s (s.length:I) (s.length:I) else S (Y,()):=by
 intro m
 induction m with
 |zero=>intro i _ h;omega
 |succ m ih=>
  intro i hi hm;by_cases h1:i<s.length
  ·have hnext:Zac.j9 n (Zac.l4 n m) s (s.length:I) (i:I)=if(s.drop (i+1)).all isW=H then Zac.l4 n 1 s (s.length:I) (s.length:I) else S (Y,()):=by
    unfold Zac.j9;rw[w64 (by omega),show(i:I)+1=((i+1:G):I) by omega];exact ih (i+1) (by omega) (by omega)
   rw[Jw s n m i h1 _ hnext,qj,Rj,eZ h1,VO];cases hw:isW (s.getD i 0);·rfl
   ·rw[U rfl,Bool.true_and]
  ·have hi':i=s.length:=by omega
   subst hi';rw[VH,List.all_nil,U rfl];have hlt:¬((s.length:I)<s.length):=by omega
   simp only[Zac.l4,dt,hlt,if_false]
theorem KN(b:UInt8):L.isDig b=isD b:=by simp[L.isDig,isD]
theorem qo{p:UInt8->zaa}:∀{l:Str}{a:UInt8}{r:Str},l.dropWhile p=a::r->p a=Y
 |[],_,_,h=>by simp at h
 |b::l,a,r,h=>by
  rw[List.dropWhile_cons] at h;cases hb:p b;·rw[hb] at h;simp only[Bool.false_eq_true,if_false,List.cons.injEq] at h;rw[<- h.1];exact hb
  ·rw[hb] at h;exact qo (l:=l) (by simpa using h)
theorem FU(s:Str):(L.trimDig s=[])=(s.all isD=H):=by
 have gen:∀l:Str,(l.dropWhile L.isDig=[])↔l.all isD=H:=λl=>by
  induction l with
  |nil=>simp
  |cons a l ih=>
   simp only[List.dropWhile_cons,VO,KN];cases h:isD a;·simp
   ·simp[ih]
 unfold L.trimDig;apply propext;rw[gen];constructor
 ·intro h;have h0:(s.reverse.dropWhile L.isDig)=[]:=by
   cases hr:s.reverse.dropWhile L.isDig with
   |nil=>rfl
   |cons a r=>
    exfalso;rw[hr] at h;have ha:isD a=H:=Vq.1 h a (by simp);rw[<- KN,qo hr] at ha;cases ha
  rw[gen] at h0;simpa using h0
 ·intro h;have h0:s.reverse.dropWhile L.isDig=[]:=(gen _).2 (by simpa using h);rw[h0];rfl
theorem nT(s:Str):Zac.g s=S (ax s,()):=by
 unfold Zac.g Zac.f;simp only[dt,df];by_cases h0:s=[]
 ·subst h0;rw[D (by simp)];rfl
 ·rw[U h0];have hl0:0<s.length:=List.length_pos_iff.2 h0;by_cases h12:s.length<=12
  ·rw[U (by omega),U (by omega)];have hj:¬isD (s.getD 0 0)=H->Zac.j3 (1000+s.length) s=S (ax s,()):=λhd=>by
    unfold Zac.j3;have:=Jv s h12 (1000+s.length) (1000+s.length) 0 (by omega) (by omega);rw[VB] at this;rw[show((0:G):I)=0 from rfl] at this;rw[this];by_cases hw:s.all isW=H
    ·rw[U hw];simp only[Zac.l4,dt,df,qj];rw[D (by omega),U (by omega)];have hbt:bt s 0=((s.getD 0 0).toNat:I):=rfl;simp only[hbt];have h82:(((s.getD 0 0).toNat:I)=82)=(s.getD 0 0=82):=kV _ 82 (by omega);simp only[h82];have htake:(s.take (s.length:I).toNat).drop (1:I).toNat=s.drop 1:=by
      rw[show(s.length:I).toNat=s.length by omega,List.take_length];rfl
     have htrim:s.length<=3->L.trimO ((s.take (s.length:I).toNat).drop (1:I).toNat) [48,49,50,51,52,53,54,55,56,57]=S (L.trimDig (s.drop 1),()):=λh=>by
      rw[htake];unfold L.trimO;rw[U ⟨rfl,by simp;omega⟩]
     have hL:ax s=!lI s:=by
      unfold ax;rw[decide_eq_true (show s≠[] from h0),decide_eq_true h12,show isD (s.getD 0 0)=Y by simpa using hd,hw];rfl
     have hT:C (L.trimDig (s.drop 1)=[])=(s.drop 1).all isD:=by
      rw[Bool.eq_iff_iff,Vf,FU]
     rw[hL];unfold lI;by_cases hR:s.getD 0 0=82
     ·rw[U hR,decide_eq_true hR];by_cases h2:s.length=2
      ·rw[D (by omega),U (by omega),htrim (by omega),U4,decide_eq_true h2];dsimp only;rw[hT];rfl
      ·rw[U (by omega),decide_eq_false h2];by_cases h3:s.length=3
       ·rw[U (by omega),U (by omega),htrim (by omega),U4,decide_eq_true h3];dsimp only;rw[hT];rfl
       ·rw[D (by omega),decide_eq_false h3];rfl
     ·rw[D hR,decide_eq_false hR];rfl
    ·rw[D hw];simp[ax,hw]
   have hbt:bt s 0=((s.getD 0 0).toNat:I):=rfl;simp only[hbt];by_cases h48:(48:I)<=(s.getD 0 0).toNat
   ·rw[U h48,U (by omega)];by_cases h57:((s.getD 0 0).toNat:I)<=57
    ·rw[U h57];have hd:isD (s.getD 0 0)=H:=by unfold isD;rw[Vf];omega
     unfold ax;rw[hd,decide_eq_true (show s≠[] from h0),decide_eq_true h12];rfl
    ·rw[D h57];exact hj (by unfold isD;rw[Vf];omega)
   ·rw[D h48];exact hj (by unfold isD;rw[Vf];omega)
  ·rw[D (by omega)];simp[ax,h12]
end Rv
namespace Rv
open Go
abbrev Item:=I×I×Str×zad
def az(x:Item):I×zaa:=
 if x.1=1 then(0,C (x.2.2.1=[]))
 else if x.1=2 then(0,C (x.2.1=0)&&ax x.2.2.1)
 else if x.1=3 then(1,C (x.2.1=0)&&C (x.2.2.1=[]))
 else if x.1=4\/x.1=5\/x.1=6 then(2,C (x.2.1=0)&&C (x.2.2.1=[]))
 else(0,Y)
theorem om(a b:I)(c:Str):Zbz.g a b c=S ((az (a,b,c,())).1,(az (a,b,c,())).2,()):=by
 unfold Zbz.g Zbz.f;simp only[Zbz.j2,dt,nT,U4];unfold az;dsimp only;rcases Mf (b=0) with hb|hb
 all_goals
  by_cases h1:a=1;·subst h1;simp only[hb,if_true,if_false,decide_true,decide_false]
  by_cases h2:a=2;·subst h2;simp only[hb,if_true,if_false,decide_true,decide_false,Bool.true_and,Bool.false_and,show ¬((2:I)=1) by decide]
  by_cases h3:a=3;·subst h3;simp only[hb,if_true,if_false,decide_true,decide_false,Bool.true_and,Bool.false_and,show ¬((3:I)=1) by decide,show ¬((3:I)=2) by decide]
  by_cases h4:a=4;·subst h4;simp only[hb,if_true,if_false,decide_true,decide_false,Bool.true_and,Bool.false_and,true_or,show ¬((4:I)=1) by decide,show ¬((4:I)=2) by decide,show ¬((4:I)=3) by decide]
  by_cases h5:a=5;·subst h5;simp only[hb,if_true,if_false,decide_true,decide_false,Bool.true_and,Bool.false_and,true_or,or_true,show ¬((5:I)=1) by decide,show ¬((5:I)=2) by decide,show ¬((5:I)=3) by decide,show ¬((5:I)=4) by decide]
  by_cases h6:a=6;·subst h6;simp only[hb,if_true,if_false,decide_true,decide_false,Bool.true_and,Bool.false_and,true_or,or_true,show ¬((6:I)=1) by decide,show ¬((6:I)=2) by decide,show ¬((6:I)=3) by decide,show ¬((6:I)=4) by decide,show ¬((6:I)=5) by decide]
  simp only[hb,h1,h2,h3,h4,h5,h6,if_true,if_false,or_self]
def jG:I->N Item->zaa
 |t,[]=>C (t=1)
 |t,x::r=>(az x).2&&(!C (t<(az x).1)&&jG (t+(1-(az x).1)) r)
def well(e:N Item):zaa:=jG 0 e&&C (e.length<=64)
theorem Gp(x:Item):0<=(az x).1/\(az x).1<=2:=by
 unfold az;split;·simp
 ·split
  ·simp
  ·split
   ·simp
   ·split<;>simp
theorem M8(e:N Item)(he:e.length<=4611686018427387904)(n:G):∀(m i:G) (t:I),i<=e.length->e.length-i<m->0<=t->t<=i ->
  Zbb.l3 n m e t e (e.length:I) (i:I)=S (jG t (e.drop i)&&C (e.length<=64),()):=by
 intro m
 induction m with
 |zero=>intro i t _ h;omega
 |succ m ih=>
  intro i t hi hm h0 ht;by_cases h1:i<e.length
  ·have hx:e.drop i=e.getD i ((0:I),((0:I),(([]:Str),())))::e.drop (i+1):=by
    rw[Vs h1,Vh,Ve h1];rfl
   rw[hx];simp only[Zbb.l3,dt,df,om,U4];rw[U (by omega),U (by omega),Vj];generalize e.getD i ((0:I),((0:I),(([]:Str),())))=x;obtain⟨a,b,c,u⟩:=x;cases u;have hr:=Gp (a,b,c,());simp only[jG];generalize az (a,b,c,())=y at *;obtain⟨k,ok⟩:=y;simp only at hr⊢;cases ok;·rfl
   ·rw[U (show(!H)=Y from rfl)];by_cases h2:t<k
    ·rw[U h2];simp[h2]
    ·rw[D h2,w64 (x:=1-k) (by omega),w64 (x:=t+(1-k)) (by omega),w64 (x:=(i:I)+1) (by omega),show(i:I)+1=((i+1:G):I) by omega];rw[ih (i+1) (t+(1-k)) (by omega) (by omega) (by omega) (by omega)];simp[h2]
  ·have hi':i=e.length:=by omega
   subst hi';simp only[Zbb.l3,dt];rw[D (by omega),VH];simp only[jG];by_cases h3:t=1;·rw[U h3];simp[h3];omega
   ·rw[D h3];simp[h3]
theorem Bu(e:N Item)(he:e.length<=4611686018427387904):Zbb.g e=S (well e,()):=by
 unfold Zbb.g Zbb.f;exact M8 e he _ _ 0 0 (by omega) (by omega) (by omega) (by omega)
end Rv
namespace Rv
open Go
abbrev Sym:=Str×I×zad
def bB(s:Str):N Sym->zac I
 |[]=>Z
 |x::r=>if x.1=s then S x.2.1 else bB s r
def mP(s:Str):N Sym->zac G
 |[]=>Z
 |x::r=>if x.1=s then S 0 else(mP s r).map (·+1)
theorem Jn(l:N Sym)(s:Str)(hl:l.length<=4611686018427387904)(n:G):∀(m i:G),i<=l.length->l.length-i<m ->
  Zcf.l2 n m l (l.length:I) (i:I) s=S ((match mP s (l.drop i) with|some k=>((i+k:G):I)|none=>-1),s,()):=by
 intro m
 induction m with
 |zero=>intro i _ h;omega
 |succ m ih=>
  intro i hi hm;by_cases h1:i<l.length
  ·have hx:l.drop i=l.getD i (([]:Str),((0:I),()))::l.drop (i+1):=by
    rw[Vs h1,Vh,Ve h1];rfl
   rw[hx];simp only[Zcf.l2,dt,Zex.g,Zex.f,U4];rw[U (by omega),U (by omega),Vj];generalize l.getD i (([]:Str),((0:I),()))=x;unfold mP;by_cases h2:x.1=s;·rw[U h2,U h2];simp
   ·rw[D h2,D h2,w64 (by omega),show(i:I)+1=((i+1:G):I) by omega,ih (i+1) (by omega) (by omega)];cases mP s (l.drop (i+1)) with
    |none=>rfl
    |some k=>simp only[VP];rw[show i+1+k=i+(k+1) by omega]
  ·have hi':i=l.length:=by omega
   subst hi';simp only[Zcf.l2,dt];rw[D (by omega),VH];rfl
theorem za(s:Str):∀{l:N Sym}{k:G},mP s l=S k->k<l.length/\bB s l=S (l.getD k (([]:Str),((0:I),()))).2.1
 |[],_,h=>by cases h
 |x::r,k,h=>by
  unfold mP at h;unfold bB;by_cases h2:x.1=s;·rw[U h2] at h⊢;cases h;exact⟨by simp,rfl⟩
  ·rw[D h2] at h⊢;obtain⟨j,hj,rfl⟩:=Option.map_eq_some_iff.1 h;obtain⟨h3,h4⟩:=za s hj;exact⟨by simp;omega,by rw[h4];rfl⟩
theorem yZ(s:Str):∀{l:N Sym},mP s l=Z->bB s l=Z
 |[],_=>rfl
 |x::r,h=>by
  unfold mP at h;unfold bB;by_cases h2:x.1=s;·rw[U h2] at h;cases h
  ·rw[D h2] at h⊢;exact yZ s (Option.map_eq_none_iff.1 h)
theorem Aq(l:N Sym)(s:Str)(hl:l.length<=4611686018427387904):Zcg.g l s=S ((bB s l).getD 0,(bB s l).isSome,()):=by
 unfold Zcg.g Zcg.f Zcf.g Zcf.f;rw[show(0:I)=((0:G):I) from rfl,Jn l s hl _ _ 0 (by omega) (by omega),U4,VB];dsimp only;cases h:mP s l with
 |none=>
  rw[yZ s h];rfl
 |some k=>
  obtain⟨h1,h2⟩:=za s h;rw[h2];simp only[dt];rw[D (by omega),U (by omega)];simp
end Rv
namespace Rv
open Go
abbrev Val:=I×I×zad
theorem zF(l:N Val)(v:Val)(hl:l.length<=4611686018427387904):Zbp.g (l++[v])=S (v.1,v.2.1,l,()):=by
 unfold Zbp.g Zbp.f;have e1:zab.wrap (((l++[v]).length:I)-1)=(l.length:I):=by
  rw[w64 (by simp;omega)];simp
 have e2:(l++[v]).getD l.length ((0:I),((0:I),()))=v:=by
  rw[Vh,List.getElem?_append_right (U7 _)];simp
 rw[e1,Vj,U (by simp;omega),U (by simp;omega),e2,List.take_left]
def jF(labels:N Sym)(st:N Val)(x:Item):Except I (N Val):=
 if x.1=2 then match bB x.2.2.1 labels with
  |some a=>.ok (st++[(E.wrap a,1,())])
  |none=>.error 25
 else if x.1=3 then match st.getLast? with
  |some v=>.ok (st.dropLast++[(E.wrap (0-v.1),zab.wrap (0-v.2.1),())])
  |none=>.error 99
 else if x.1=4\/x.1=5\/x.1=6 then match st.getLast?,st.dropLast.getLast? with
  |some b,S a=>
   if x.1=4 then .ok (st.dropLast.dropLast++[(E.wrap (a.1+b.1),zab.wrap (a.2.1+b.2.1),())])
   else if x.1=5 then .ok (st.dropLast.dropLast++[(E.wrap (a.1-b.1),zab.wrap (a.2.1-b.2.1),())])
   else if a.2.1=0/\b.2.1=0 then .ok (st.dropLast.dropLast++[(E.wrap (a.1*b.1),0,())])
   else .error 27
  |_,_=>.error 99
 else .ok (st++[(x.2.1,0,())])
def jJ(labels:N Sym):N Val->N Item->Except I (N Val)
 |st,[]=>.ok st
 |st,x::r=>match jF labels st x with
  | .ok st=>jJ labels st r
  | .error e=>.error e
theorem CU(a b:I):Zdn.g a b (-1)=S (E.wrap (0-a),zab.wrap (0-b),()):=by
 unfold Zdn.g Zdn.f;have e1:E.wrap (-1)=4294967295:=by rw[IntKind.wrap_u32];rfl
 have e2:E.wrap (4294967295*a)=E.wrap (0-a):=by rw[IntKind.wrap_u32,IntKind.wrap_u32];omega
 rw[e1,e2,show -1*b=0-b by omega]
theorem T9(a b c d:I):Zey.g a b c d=S (E.wrap (a+c),zab.wrap (b+d),()):=rfl
theorem F9(a b:I):zab.wrap (a+zab.wrap (0-b))=zab.wrap (a-b):=by
 rw[IntKind.wrap_i64,IntKind.wrap_i64,IntKind.wrap_i64];omega
theorem GK(a b:I):E.wrap (a+E.wrap (0-b))=E.wrap (a-b):=by
 rw[IntKind.wrap_u32,IntKind.wrap_u32,IntKind.wrap_u32];omega
end Rv
namespace Rv
open Go
def Dw(st:N Val):zac (I×I×I×zad):=
 match st.getLast? with
 |some v=>S (v.1,v.2.1,0,())
 |none=>Z
theorem RI(labels:N Sym)(e:N Item)(n:G)(rl)(t:I)(i:G)(hi:i<=1000)(b0 b1:I)(st:N Val)(hst:st.length<=1000)(v0 v1:I) :
  Zai.j27 n rl labels e t (i:I) b0 b1 st v0 v1=rl labels e t ((i+1:G):I) b0 b1 (st++[(v0,v1,())]):=by
 unfold Zai.j27;rw[U (by simp;omega),w64 (by omega)];rfl
theorem ma(st:N Val):st=[]\/∃l v,st=l++[v]:=by
 rcases List.eq_nil_or_concat st with h|⟨l,v,h⟩;·exact .inl h
 ·exact .inr ⟨l,v,by rw[h,List.concat_eq_append]⟩
theorem dP(l:N Val)(v:Val):(l++[v]).getLast?=S v/\(l++[v]).dropLast=l:=by simp
theorem RH(labels:N Sym)(hlab:labels.length<=4611686018427387904)(e:N Item)(he:e.length<=999)(n:G):∀(m i:G) (st:N Val) (b0 b1:I),i<=e.length->e.length-i<m->jG (st.length:I) (e.drop i)=H->st.length<=i ->
  Zai.l5 n m labels e (e.length:I) (i:I) b0 b1 st=match jJ labels st (e.drop i) with
   | .error x=>S (0,0,x,())
   | .ok st'=>Dw st':=by
 intro m
 induction m with
 |zero=>intro i st b0 b1 _ h;omega
 |succ m ih=>
  intro i st b0 b1 hi hm hw hst;by_cases h1:i<e.length
  ·have hx:e.drop i=e.getD i ((0:I),((0:I),(([]:Str),())))::e.drop (i+1):=by
    rw[Vs h1,Vh,Ve h1];rfl
   rw[hx] at hw⊢;simp only[Zai.l5,dt,df];rw[U (by omega),U (by omega),Vj];generalize e.getD i ((0:I),((0:I),(([]:Str),())))=x at hw⊢;obtain⟨a,b,c,u⟩:=x;cases u;simp only[jG,Va,Bool.not_eq_true',decide_eq_false_iff_not] at hw;obtain⟨hk,hlt,hw⟩:=hw;have next:∀(s:N Val) (v0 v1:I),s.length+1<=i+1->jG ((s.length+1:G):I) (e.drop (i+1))=H ->
     Zai.j27 n (Zai.l5 n m) labels e (e.length:I) (i:I) b0 b1 s v0 v1=match jJ labels (s++[(v0,v1,())]) (e.drop (i+1)) with
      | .error x=>S (0,0,x,())
      | .ok st'=>Dw st':=λs v0 v1 hs hws=>by
    rw[RI labels e n _ _ i (by omega) b0 b1 s (by omega) v0 v1];exact ih (i+1) _ b0 b1 (by omega) (by omega) (by simpa using hws) (by simpa using hs)
   simp only[jJ,jF];by_cases k2:a=2
   ·subst k2;rw[U rfl,U rfl,Aq labels c hlab,U4];have e0:(az (2,b,c,())).1=0:=rfl;rw[e0] at hw;cases hf:bB c labels with
    |none=>rfl
    |some at_=>
     dsimp only[Option.isSome,Option.getD];rw[D (by simp)];exact next st _ 1 (by omega) (by simpa using hw)
   ·rw[D k2,D k2];by_cases k3:a=3
    ·subst k3;have e0:(az (3,b,c,())).1=1:=rfl;rw[e0] at hlt hw;rcases ma st with rfl|⟨l,v,rfl⟩
     ·simp at hlt
     ·obtain⟨g1,g2⟩:=dP l v;rw[U rfl,U rfl,g1,g2,zF l v (by simp at hst;omega),U4];dsimp only;rw[CU,U4];exact next l _ _ (by simp at hst;omega) (by simpa using hw)
    ·rw[D k3,D k3];by_cases k4:a=4\/a=5\/a=6
     ·have e0:(az (a,b,c,())).1=2:=by
       unfold az;rcases k4 with rfl|rfl|rfl<;>rfl
      rw[e0] at hlt hw;rcases ma st with rfl|⟨l0,v,rfl⟩;·simp at hlt
      ·rcases ma l0 with rfl|⟨l,w,rfl⟩
       ·simp at hlt
       ·obtain⟨g1,g2⟩:=dP (l++[w]) v;obtain⟨g3,g4⟩:=dP l w;have hl:l.length<=1000:=by simp at hst;omega
        have hn:=next l
        rw[U k4,g1,g2,g3,g4,zF (l++[w]) v (by simp;omega),U4];dsimp only;have hp2:=zF l w (by omega);simp only[hp2,U4,T9,CU,GK,F9];have hs1:l.length+1<=i+1:=by simp at hst;omega
        have hw1:jG ((l.length+1:G):I) (e.drop (i+1))=H:=by
         have:((l++[w]++[v]).length:I)+(1-2)=((l.length+1:G):I):=by simp;omega
         rw[<- this];exact hw
        rcases k4 with rfl|rfl|rfl;·rw[U rfl,U rfl,Int.add_comm v.1 w.1,Int.add_comm v.2.1 w.2.1];exact next l _ _ hs1 hw1
        ·rw[D (show ¬(5:I)=4 by decide),D (show ¬(5:I)=4 by decide),U rfl,U rfl];exact next l _ _ hs1 hw1
        ·rw[D (show ¬(6:I)=4 by decide),D (show ¬(6:I)=4 by decide),D (show ¬(6:I)=5 by decide),D (show ¬(6:I)=5 by decide),U rfl];by_cases z1:v.2.1=0
         ·by_cases z2:w.2.1=0
          ·rw[U (show w.2.1=0/\v.2.1=0 from⟨z2,z1⟩)];simp only[z1,z2,decide_true,Bool.and_self,Bool.not_true,if_true];rw[D (by decide),Int.mul_comm v.1 w.1];exact next l _ _ hs1 hw1
          ·rw[D (show ¬(w.2.1=0/\v.2.1=0) from λh=>z2 h.1)];simp[z1,z2]
         ·rw[D (show ¬(w.2.1=0/\v.2.1=0) from λh=>z1 h.2)];simp[z1]
     ·have ha:a=1:=by
       apply Classical.byContradiction;intro h1';have:(az (a,b,c,())).2=Y:=by
        unfold az;simp[h1',k2,k3,k4]
       rw[this] at hk;cases hk
      subst ha;have e0:(az (1,b,c,())).1=0:=rfl;rw[e0] at hw;rw[D k4,D (show ¬(1:I)=4 by decide),D (show ¬(1:I)=5 by decide),D (show ¬(1:I)=6 by decide)];exact next st b 0 (by omega) (by simpa using hw)
  ·have hi':i=e.length:=by omega
   subst hi';simp only[Zai.l5,dt];rw[D (by omega),VH];simp only[jJ];rw[VH] at hw;rcases ma st with rfl|⟨l,v,rfl⟩;·simp[jG] at hw
   ·rw[zF l v (by simp at hst;omega),U4];simp[Dw]
def ofR(labels:N Sym)(e:N Item):zac (I×I×I×zad):=
 if well e=H then(match jJ labels [] e with
  | .error x=>S (0,0,x,())
  | .ok st=>Dw st)
 else S (0,0,23,())
theorem JI(labels:N Sym)(hlab:labels.length<=4611686018427387904)(e:N Item)(he:e.length<=4611686018427387904):Zai.g e labels=ofR labels e:=by
 unfold Zai.g Zai.f ofR;rw[Bu e he,U4];dsimp only;by_cases hw:well e=H;·rw[hw,D (by decide),U rfl];unfold well at hw;rw[Va,Vf] at hw;exact RH labels hlab e (by omega) _ _ 0 [] 0 0 (by omega) (by omega) (by simpa using hw.1) (by simp)
 ·have hw':well e=Y:=by simpa using hw
  rw[hw'];rfl
end Rv
namespace Rv
open Go
def enough:I->N Item->zac I
 |t,[]=>S t
 |t,x::r=>if(az x).2=H/\¬t<(az x).1 then enough (t+(1-(az x).1)) r else Z
theorem oI:∀(e:N Item) (t:I),(jG t e=H)=(enough t e=S 1)
 |[],t=>by simp[jG,enough]
 |x::r,t=>by
  simp only[jG,enough,Va,Bool.not_eq_true',decide_eq_false_iff_not];by_cases h:(az x).2=H/\¬t<(az x).1;·rw[U h,<- oI r];simp[h.1,h.2]
  ·rw[D h];apply propext;constructor
   ·intro h';exact absurd ⟨h'.1,h'.2.1⟩ h
   ·intro h';cases h'
theorem mM:∀(a b:N Item) (t:I),enough t (a++b)=(enough t a).bind λk=>enough k b
 |[],b,t=>rfl
 |x::a,b,t=>by
  simp only[List.cons_append,enough];split;·exact mM a b _
  ·rfl
def fZ(e:N Item):Prop:=enough 0 e=S 1
theorem uz:∀(e:N Item) (t k j:I),0<=j->enough t e=S k->enough (t+j) e=S (k+j)
 |[],t,k,j,_,h=>by
  simp only[enough,U5] at h⊢;omega
 |x::e,t,k,j,hj,h=>by
  simp only[enough] at h⊢;split at h;·rename_i hc;rw[U ⟨hc.1,by omega⟩,show t+j+(1-(az x).1)=(t+(1-(az x).1))+j by omega];exact uz e _ k j hj h
  ·cases h
theorem Bv{e:N Item}(h:fZ e)(hl:e.length<=64):well e=H:=by
 unfold well;rw[Va,Vf,oI];exact⟨h,hl⟩
theorem Qd{a b:N Item}(ha:fZ a)(hb:fZ b)(x:Item)(hx:az x=(2,H)):fZ (a++b++[x]):=by
 unfold fZ at *;have h1:enough 1 b=S 2:=uz b 0 1 1 (by omega) hb;rw[mM,mM,ha,U4,h1,U4];simp[enough,hx]
theorem Qc{a:N Item}(ha:fZ a)(x:Item)(hx:az x=(1,H)):fZ (a++[x]):=by
 unfold fZ at *;rw[mM,ha,U4];simp[enough,hx]
end Rv
namespace Rv
open Go
theorem PW(labels:N Sym)(x:Item)(st st':N Val)(hk:(az x).2=H)(hl:¬(st.length:I)<(az x).1)(h:jF labels st x=.ok st'):(st'.length:I)=st.length+(1-(az x).1):=by
 obtain⟨a,b,c,u⟩:=x;cases u;unfold jF at h;dsimp only at h;by_cases k2:a=2
 ·subst k2;rw[U rfl] at h;have e0:(az (2,b,c,())).1=0:=rfl;rw[e0];split at h
  ·cases h;simp
  ·cases h
 ·rw[D k2] at h;by_cases k3:a=3
  ·subst k3;have e0:(az (3,b,c,())).1=1:=rfl;rw[e0] at hl⊢;rcases ma st with rfl|⟨l,v,rfl⟩
   ·simp at hl
   ·rw[U rfl,(dP l v).1,(dP l v).2] at h;cases h;simp
  ·rw[D k3] at h;by_cases k4:a=4\/a=5\/a=6
   ·have e0:(az (a,b,c,())).1=2:=by
     unfold az;rcases k4 with rfl|rfl|rfl<;>rfl
    rw[e0] at hl⊢;rcases ma st with rfl|⟨l0,v,rfl⟩;·simp at hl
    ·rcases ma l0 with rfl|⟨l,w,rfl⟩
     ·simp at hl
     ·rw[U k4,(dP _ v).1,(dP _ v).2,(dP l w).1,(dP l w).2] at h;dsimp only at h;split at h
      ·cases h;simp;omega
      ·split at h
       ·cases h;simp;omega
       ·split at h
        ·cases h;simp;omega
        ·cases h
   ·rw[D k4] at h;have ha:a=1:=by
     apply Classical.byContradiction;intro h1';have:(az (a,b,c,())).2=Y:=by
      unfold az;simp[h1',k2,k3,k4]
     rw[this] at hk;cases hk
    subst ha;have e0:(az (1,b,c,())).1=0:=rfl;rw[e0];cases h;simp
def onE(f:N Val->N Val):Except I (N Val)->Except I (N Val)
 | .ok l=>.ok (f l)
 | .error e=>.error e
theorem MP(labels:N Sym)(x:Item)(base st:N Val)(hl:¬(st.length:I)<(az x).1):jF labels (base++st) x=onE (base++·) (jF labels st x):=by
 obtain⟨a,b,c,u⟩:=x;cases u;unfold jF;dsimp only;by_cases k2:a=2
 ·subst k2;rw[U rfl,U rfl];cases bB c labels with
  |none=>rfl
  |some y=>simp[onE]
 ·rw[D k2,D k2];by_cases k3:a=3
  ·subst k3;have e0:(az (3,b,c,())).1=1:=rfl;rw[e0] at hl;rcases ma st with rfl|⟨l,v,rfl⟩
   ·simp at hl
   ·rw[U rfl,U rfl,<- Vm,(dP (base++l) v).1,(dP (base++l) v).2,(dP l v).1,(dP l v).2];simp[onE]
  ·rw[D k3,D k3];by_cases k4:a=4\/a=5\/a=6
   ·have e0:(az (a,b,c,())).1=2:=by
     unfold az;rcases k4 with rfl|rfl|rfl<;>rfl
    rw[e0] at hl;rcases ma st with rfl|⟨l0,v,rfl⟩;·simp at hl
    ·rcases ma l0 with rfl|⟨l,w,rfl⟩
     ·simp at hl
     ·rw[U k4,U k4,<- Vm,<- Vm,(dP (base++l++[w]) v).1,(dP (base++l++[w]) v).2,(dP (base++l) w).1,(dP (base++l) w).2,(dP (l++[w]) v).1,(dP (l++[w]) v).2,(dP l w).1,(dP l w).2];dsimp only;split
      ·simp[onE]
      ·split
       ·simp[onE]
       ·split
        ·simp[onE]
        ·rfl
   ·rw[D k4,D k4];simp[onE]
theorem Fj(labels:N Sym):∀(e:N Item) (base st:N Val) (k:I),enough (st.length:I) e=S k->jJ labels (base++st) e=onE (base++·) (jJ labels st e)/\∀st',jJ labels st e=.ok st'->(st'.length:I)=k
 |[],base,st,k,h=>by
  simp only[enough,U5] at h;exact⟨rfl,λst' h'=>by cases h';exact h⟩
 |x::e,base,st,k,h=>by
  simp only[enough] at h;split at h
  ·rename_i hc;simp only[jJ];rw[MP labels x base st hc.2];cases hs:jF labels st x with
   |error er=>exact⟨rfl,λst' h'=>by cases h'⟩
   |ok s2=>
    have hl:=PW labels x st s2 hc.1 hc.2 hs;rw[<- hl] at h;exact Fj labels e base s2 k h
  ·cases h
end Rv
namespace Rv
open Go
theorem PL(labels:N Sym){e:N Item}(h:fZ e):(∃x,jJ labels [] e=.error x)\/∃v,jJ labels [] e=.ok [v]:=by
 obtain⟨_,h2⟩:=Fj labels e [] [] 1 h;cases hr:jJ labels [] e with
 |error x=>exact .inl ⟨x,rfl⟩
 |ok st=>
  have:=h2 st hr
  match st,this with
  |[v],_=>exact .inr ⟨v,rfl⟩
end Rv
namespace Rv
open Go
def mv(by':I)(v:Val):Val:=(E.wrap (v.1+by'*v.2.1),v.2.1,())
end Rv
