/- The law AsmRefuses holds: for every input it returns true and leaves its arguments as they were; its package variables hold what the row lists. -/
import Derived.Test.YtfhnodllolpjgaaGreatDoorCards
import Derived.Test.YtfhnodllolpjgaaGreatDoorTie
import Derived.Test.YtfhnodllolpjgaaGreatDoorR2
import Derived.Test.YtfhnodllolpjgaaGreatDoorC5
import Derived.Test.YtfhnodllolpjgaaGreatDoorR3
import Derived.SevenTiedAt
import Derived.ProofKit
import Derived.Lay
set_option linter.all false
namespace Go.Proofs.YtfhnodllolpjgaaGreatDoor
open Go Go.ChangeShapes Go.WideShapes Go.ChangeAt Go.RowKit
noncomputable section
set_option maxRecDepth 100000
namespace asmRefusesLaw
theorem own:ownKnob Tryz.prog.godebug=none:=by kernel_rfl
theorem laidOut:laidOutB Tryz.prog=true:=by kernel_rfl
abbrev LL:List (String×DataW Unit):=Rows.asmRefusesRow.laid
def W0 (os:Os):World:=World.doorLaid Tryz.prog 400 os
def W1 (os:Os):World:=(W0 os).layVars Tryz.prog (LL.filter fun x=>["unicode/utf8.first"].contains x.1)
def BB:List Nat:=(((DataW.laidRun Tryz.prog (W0 default) 8 ((LL.filter fun x=>!["unicode/utf8.first"].contains x.1).map (·.1))).map (fun x=>x.2.map (·.block))).getD [])
theorem hos (os:Os):(W1 os).os=os:=by rw [W1,World.layVars_os]; rfl
theorem door_met (os:Os) (args:Array Value):laidMetH Tryz.prog Rows.asmRefusesRow.laid ((W1 os).forCall (fun _ _=>0) ⟨#[],args,[]⟩).memory:=
 laidMetH_of_parts3 (fuel:=8) (laidMet_layVars (w0:=W0 os) ["unicode/utf8.first"] BB (by kernel_rfl) (by kernel_rfl) (by kernel_rfl) (LaidIn.of_run BB 8 (by kernel_rfl) (by kernel_rfl) (by kernel_rfl) (by kernel_rfl))) (by kernel_rfl) (by kernel_rfl)
theorem laid_eq:Rows.asmRefusesRow.laid=[("math/bits.deBruijn32tab",Rows.laid_math_bits_deBruijn32tab),("math/bits.deBruijn64tab",Rows.laid_math_bits_deBruijn64tab),("internal/strconv.uint64pow10",Rows.laid_internal_strconv_uint64pow10),("unicode/utf8.acceptRanges",Rows.laid_unicode_utf8_acceptRanges),("strconv.ErrRange",Rows.laid_strconv_ErrRange),("strconv.ErrSyntax",Rows.laid_strconv_ErrSyntax),("unicode.White_Space",Rows.laid_unicode_White_Space),("strings.asciiSpace",Rows.laid_strings_asciiSpace),("rivet/expr.kinds",Rows.laid_rivet_expr_kinds),("unicode/utf8.first",Rows.laid_unicode_utf8_first)]:=rfl
theorem lw_of {W:World} (hl:laidMetH Tryz.prog Rows.asmRefusesRow.laid W) (hsh:W.ShapedOpen Tryz.prog):∃ ad,Rv.LW ad W:=by
 obtain ⟨a0,h0⟩:=Rv.laid_map hl (n := "rivet/expr.kinds") (k:=.i64) (r:=Rv.L.kindsRow) (by rw [laid_eq]; simp only [List.mem_filter]; exact ⟨by apply List.mem_cons_of_mem; apply List.mem_cons_of_mem; apply List.mem_cons_of_mem; apply List.mem_cons_of_mem; apply List.mem_cons_of_mem; apply List.mem_cons_of_mem; apply List.mem_cons_of_mem; apply List.mem_cons_of_mem; exact List.mem_cons_self,by kernel_rfl⟩) (show Tryz.prog.globalNamed "rivet/expr.kinds" = some 7 by kernel_rfl) (show (Tryz.prog.globals[7]?).map (·.type)=some 311 by kernel_rfl) Tryz.underlying311 Tryz.underlying9 Tryz.underlying3 (by decide)
 exact ⟨fun _=>a0,{
  errSyntax:=Rv.laid_iface hl (n := "strconv.ErrSyntax") (by rw [laid_eq]; simp only [List.mem_filter]; exact ⟨by apply List.mem_cons_of_mem; apply List.mem_cons_of_mem; apply List.mem_cons_of_mem; apply List.mem_cons_of_mem; apply List.mem_cons_of_mem; exact List.mem_cons_self,by kernel_rfl⟩) (show Tryz.prog.globalNamed "strconv.ErrSyntax" = some 5 by kernel_rfl) (show (Tryz.prog.globals[5]?).map (·.type)=some 153 by kernel_rfl) Tryz.underlying153
  errRange:=Rv.laid_iface hl (n := "strconv.ErrRange") (by rw [laid_eq]; simp only [List.mem_filter]; exact ⟨by apply List.mem_cons_of_mem; apply List.mem_cons_of_mem; apply List.mem_cons_of_mem; apply List.mem_cons_of_mem; exact List.mem_cons_self,by kernel_rfl⟩) (show Tryz.prog.globalNamed "strconv.ErrRange" = some 6 by kernel_rfl) (show (Tryz.prog.globals[6]?).map (·.type)=some 153 by kernel_rfl) Tryz.underlying153
  pow10:=Rv.laid_tab hl (n := "internal/strconv.uint64pow10") (zs:=Lib.pow10Tab) (by rw [laid_eq]; simp only [List.mem_filter]; exact ⟨by apply List.mem_cons_of_mem; apply List.mem_cons_of_mem; exact List.mem_cons_self,by kernel_rfl⟩) (show Tryz.prog.globalNamed "internal/strconv.uint64pow10" = some 8 by kernel_rfl) (show (Tryz.prog.globals[8]?).map (·.type)=some 319 by kernel_rfl) Tryz.underlying319 Tryz.underlying229 (by kernel_rfl) (by kernel_rfl)
  asciiSpace:=Rv.laid_tab hl (n := "strings.asciiSpace") (zs:=Lib.asciiSpaceTab) (by rw [laid_eq]; simp only [List.mem_filter]; exact ⟨by apply List.mem_cons_of_mem; apply List.mem_cons_of_mem; apply List.mem_cons_of_mem; apply List.mem_cons_of_mem; apply List.mem_cons_of_mem; apply List.mem_cons_of_mem; apply List.mem_cons_of_mem; exact List.mem_cons_self,by kernel_rfl⟩) (show Tryz.prog.globalNamed "strings.asciiSpace" = some 1 by kernel_rfl) (show (Tryz.prog.globals[1]?).map (·.type)=some 250 by kernel_rfl) Tryz.underlying250 Tryz.underlying5 (by kernel_rfl) (by kernel_rfl)
  maxLen:=Go.Proofs.cell_of_shapedOpen_int hsh (show 0 < Tryz.prog.globals.size from of_decide_eq_true (by kernel_rfl)) (show ((begin Tryz.prog (fun _ _=>0) default).world.heap[0]?).bind Obj.row?=some (#[.int .i64 0],3) by kernel_rfl) rfl (by kernel_rfl) (by kernel_rfl) Tryz.underlying3
  kinds:=h0
  }⟩
theorem calls (H:Type) (enc:TypeId×Value→H) (W:World) (base:Nat) (args:Array Value) (ds:List (DataW H)) (p:List MemPlace) (hv:∀ (j:Nat) t v,Tryz.f4.params.toList[j]?=some t→args[j]?=some v→Value.okWide Tryz.prog W .any base t v)
  (hA:DataW.TrodAll enc Tryz.prog W 0 (fun _=>true) true Tryz.f4.params.toList args.toList ds p) (hl:laidMetH Tryz.prog Rows.asmRefusesRow.laid W) (hsh:W.ShapedOpen Tryz.prog) :
  Calls Tryz.prog 4 args W fun e w'=>e=.returned (.bool true)∧Below W.heap.size W w':=by
 obtain ⟨ad,hL⟩:=lw_of hl hsh
 rw [Tryz.params4] at hA hv
 exact Rv.law_calls (P:=Rv.P) (L:=Rv.LW ad) (f:=4) (Ts:=[.sl (.pair .str (.pair (.pair (.int .i64) (.pair (.int .i64) (.pair (.int .i64) (.pair (.int .i64) (.pair (.int .i64) (.pair .bool (.pair (.sl (.pair (.int .i64) (.pair (.int .u32) (.pair .str .nil)))) (.pair .str .nil)))))))) .nil)),.int .u8]) Rv.rivetlaw21_AsmRefuses.sat (fun x h=>Rv.arefuses_wf h) hL hL.stable hA ⟨(show Rv.tyB Rv.P 20 22 (.sl (.pair .str (.pair (.pair (.int .i64) (.pair (.int .i64) (.pair (.int .i64) (.pair (.int .i64) (.pair (.int .i64) (.pair .bool (.pair (.sl (.pair (.int .i64) (.pair (.int .u32) (.pair .str .nil)))) (.pair .str .nil)))))))) .nil)))=true by kernel_rfl),(show Rv.tyB Rv.P 20 5 (.int .u8)=true by kernel_rfl),trivial⟩ hv
theorem lifted (os:Os) (started:os.Started) (H:Type) (enc:TypeId×Value→H) :
  ReturnsInHanded {} Tryz.checked os 4 .any (fun w args=>(Rows.asmRefusesSpec.pre enc Tryz.prog Tryz.f4 [] false w args∧laidMetH Tryz.prog Rows.asmRefusesRow.laid w)∧sizedMet enc Tryz.prog Tryz.f4 (OpenSpec.ofChange Rows.asmRefusesSpec) false w args) (Rows.asmRefusesSpec.post enc Tryz.prog Tryz.f4 false true false false):=
 Rv.law_lifted (C:=Tryz.checked) own started (by kernel_rfl) Tryz.func4 laidOut (by rw [Tryz.params4]; simp only [List.mem_cons,List.not_mem_nil,or_false,forall_eq_or_imp,forall_eq]; exact ⟨⟨by kernel_rfl,of_decide_eq_true (by kernel_rfl)⟩,⟨by kernel_rfl,of_decide_eq_true (by kernel_rfl)⟩⟩) (bT:=4) (by kernel_rfl) Tryz.underlying4 rfl
  (fun ds h=>by
   rw [Tryz.params4] at h
   match ds,h with
   | [d0,d1],_=>rfl)
  (ChangeSpec.witness_shaped (enc:=enc) (C:=Tryz.checked) (os:=os) (X:=fun w _=>laidMetH Tryz.prog Rows.asmRefusesRow.laid w) false (W1 os) #[.slice none 0 0,.int .u8 0] 8 (hos os) (World.shaped_of_RefB (by kernel_rfl) (by kernel_rfl)) (by kernel_rfl) (by kernel_rfl) (by kernel_rfl) (door_met os _))
  (fun W base args ds p hv hA _ hl hsh=>calls H enc W base args ds p hv hA hl hsh)
theorem row:Rows.AsmRefusesSaid:=
 OpenClaim.holds_of_wide 4 Tryz.f4 rfl rfl rfl rfl rfl rfl rfl ⟨rfl,rfl,rfl,rfl,rfl⟩ rfl rfl rfl rfl rfl (by kernel_rfl) Tryz.func4 (by kernel_rfl)
  (of_decide_eq_true (by kernel_rfl)) (by unfold Func.isWrapper; first | (rw [if_pos (by decide +kernel)]; kernel_rfl) | (rw [if_neg (by decide +kernel)]; exact ⟨rfl,rfl⟩))
  (fun os started H enc _=>lifted os started H enc)
end asmRefusesLaw
theorem asmRefuses_holds:Rows.AsmRefusesCardSaid:=
 Claim7.holds_tied_plain_at .later [] [.data,.data,.data,.data,.sentinel,.sentinel,.listed,.data,.mapped,.pinned] true (true, "a382c50635222c4296c433459698ef7b8b8b3945e160d9f1d0ac39838ab0ed67") true
  asmRefusesLaw.row (fun _ h=>by cases h) (by kernel_rfl) (fun _ h=>by cases h) asmRefuses_row_tie rfl ⟨rfl,rfl⟩ (by kernel_rfl) rfl
  (fun f fn hf hfn=>by
   obtain rfl:f=4:=Option.some.inj ((show Tryz.prog.funcNamed "rivet/rivetlaw21.AsmRefuses" = some 4 by kernel_rfl).symm.trans hf) |>.symm
   obtain rfl:fn=Tryz.f4:=(Option.some.inj (Tryz.func4.symm.trans hfn)).symm
   exact ⟨by kernel_rfl,fun j t ht=>by
    rw [Tryz.params4] at ht
    have hm:t∈[22,5]:=by simpa using Array.mem_of_getElem? ht
    have hall:([22,5].all fun u=>!Tryz.prog.wantsStandIn u)=true:=by kernel_rfl
    exact (show Tryz.prog.wantsStandIn t=false by simpa using List.all_eq_true.1 hall t hm)⟩)
  (by kernel_rfl)
end
end Go.Proofs.YtfhnodllolpjgaaGreatDoor
