/- The law DisasmAll holds: for every input it returns true and leaves its arguments as they were; its package variables hold what the row lists. -/
import Derived.Test.YtfphlcngbllgoaaGreatDoorCards
import Derived.Test.YtfphlcngbllgoaaGreatDoorTie
import Derived.Test.YtfphlcngbllgoaaGreatDoorAA4
import Derived.Lay
set_option linter.all false
namespace Go.Proofs.YtfphlcngbllgoaaGreatDoor
open Go Go.ChangeShapes Go.WideShapes Go.ChangeAt Go.RowKit
noncomputable section
set_option maxRecDepth 100000
namespace disasmAllLaw
theorem laid_eq:Rows.disasmAllRow.laid=[("math/bits.deBruijn32tab",Rows.laid_math_bits_deBruijn32tab),("math/bits.deBruijn64tab",Rows.laid_math_bits_deBruijn64tab),("internal/strconv.uint64pow10",Rows.laid_internal_strconv_uint64pow10),("unicode/utf8.acceptRanges",Rows.laid_unicode_utf8_acceptRanges),("strconv.ErrRange",Rows.laid_strconv_ErrRange),("strconv.ErrSyntax",Rows.laid_strconv_ErrSyntax),("unicode.White_Space",Rows.laid_unicode_White_Space),("strings.asciiSpace",Rows.laid_strings_asciiSpace),("rivet/expr.kinds",Rows.laid_rivet_expr_kinds),("unicode/utf8.first",Rows.laid_unicode_utf8_first)]:=rfl
theorem lw_of {W:World} (hl:laidMetH Tryz.prog Rows.disasmAllRow.laid W) (hsh:W.ShapedOpen Tryz.prog):∃ ad,Rv.LW ad W:=by
 obtain ⟨a0,h0⟩:=Rv.laid_map hl (n := "rivet/expr.kinds") (k:=.i64) (r:=Rv.L.kindsRow) (by rw [laid_eq]; simp only [Ox]; exact ⟨by apply NU; apply NU; apply NU; apply NU; apply NU; apply NU; apply NU; apply NU; exact OB,by kernel_rfl⟩) (show Tryz.prog.globalNamed "rivet/expr.kinds" = some 7 by kernel_rfl) (show (Tryz.prog.globals[7]?).map (·.type)=some 335 by kernel_rfl) Tryz.underlying335 Tryz.underlying9 Tryz.underlying3 (by decide)
 exact ⟨fun _=>a0,{
  errSyntax:=Rv.laid_iface hl (n := "strconv.ErrSyntax") (by rw [laid_eq]; simp only [Ox]; exact ⟨by apply NU; apply NU; apply NU; apply NU; apply NU; exact OB,by kernel_rfl⟩) (show Tryz.prog.globalNamed "strconv.ErrSyntax" = some 5 by kernel_rfl) (show (Tryz.prog.globals[5]?).map (·.type)=some 186 by kernel_rfl) Tryz.underlying186
  errRange:=Rv.laid_iface hl (n := "strconv.ErrRange") (by rw [laid_eq]; simp only [Ox]; exact ⟨by apply NU; apply NU; apply NU; apply NU; exact OB,by kernel_rfl⟩) (show Tryz.prog.globalNamed "strconv.ErrRange" = some 6 by kernel_rfl) (show (Tryz.prog.globals[6]?).map (·.type)=some 186 by kernel_rfl) Tryz.underlying186
  pow10:=Rv.laid_tab hl (n := "internal/strconv.uint64pow10") (zs:=Lib.pow10Tab) (by rw [laid_eq]; simp only [Ox]; exact ⟨by apply NU; apply NU; exact OB,by kernel_rfl⟩) (show Tryz.prog.globalNamed "internal/strconv.uint64pow10" = some 8 by kernel_rfl) (show (Tryz.prog.globals[8]?).map (·.type)=some 343 by kernel_rfl) Tryz.underlying343 Tryz.underlying247 (by kernel_rfl) (by kernel_rfl)
  asciiSpace:=Rv.laid_tab hl (n := "strings.asciiSpace") (zs:=Lib.asciiSpaceTab) (by rw [laid_eq]; simp only [Ox]; exact ⟨by apply NU; apply NU; apply NU; apply NU; apply NU; apply NU; apply NU; exact OB,by kernel_rfl⟩) (show Tryz.prog.globalNamed "strings.asciiSpace" = some 1 by kernel_rfl) (show (Tryz.prog.globals[1]?).map (·.type)=some 281 by kernel_rfl) Tryz.underlying281 Tryz.underlying5 (by kernel_rfl) (by kernel_rfl)
  maxLen:=Go.Proofs.cell_of_shapedOpen_int hsh (show 0 < Tryz.prog.globals.size from of_decide_eq_true (by kernel_rfl)) (show ((begin Tryz.prog (fun _ _=>0) default).world.heap[0]?).bind Obj.row?=some (#[.int .i64 0],3) by kernel_rfl) rfl (by kernel_rfl) (by kernel_rfl) Tryz.underlying3
  kinds:=h0
  }⟩
theorem calls (H:Type) (enc:TypeId×Value→H) (W:World) (base:Nat) (args:Array Value) (ds:List (DataW H)) (p:List MemPlace) (hv:∀ (j:Nat) t v,Tryz.f3.params.toList[j]?=some t→args[j]?=some v→Value.okWide Tryz.prog W .any base t v)
  (hA:DataW.TrodAll enc Tryz.prog W 0 (fun _=>true) true Tryz.f3.params.toList args.toList ds p) (hz:(DataW.weightsEach Tryz.prog Tryz.f3.params.toList ds).all (·≤reachBytes)=true) (hl:laidMetH Tryz.prog Rows.disasmAllRow.laid W) (hsh:W.ShapedOpen Tryz.prog) :
  Calls Tryz.prog 3 args W fun e w'=>e=.returned (.bool true)∧Below W.heap.size W w':=by
 obtain ⟨ad,hL⟩:=lw_of hl hsh
 rw [Tryz.params3] at hA hv hz
 exact Rv.law_calls (P:=Rv.P) (L:=Rv.LW ad) (f:=3) (Ts:=[.pair (.sl (.int .u32)) (.pair (.sl (.int .i64)) (.pair (.sl (.pair .str (.pair (.int .i64) .nil))) .nil)),.int .i64]) Rv.rivetlaw23_DisasmAll.sat (fun x h=>Rv.dall_wf ⟨h.1,h.2.1,h.2.2.1⟩ h.2.2.2.1) hL hL.stable hA hz ⟨(show Rv.tyB Rv.P 20 26 (.pair (.sl (.int .u32)) (.pair (.sl (.int .i64)) (.pair (.sl (.pair .str (.pair (.int .i64) .nil))) .nil)))=true by kernel_rfl),(show Rv.tyB Rv.P 20 3 (.int .i64)=true by kernel_rfl),trivial⟩ hv
end disasmAllLaw
end
end Go.Proofs.YtfphlcngbllgoaaGreatDoor
