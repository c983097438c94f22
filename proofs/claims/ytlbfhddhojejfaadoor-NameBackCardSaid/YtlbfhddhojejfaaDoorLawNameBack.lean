/- The law NameBack holds: for every input it returns true and leaves its arguments as they were; its package variables hold what the row lists. -/
import Derived.Test.YtlbfhddhojejfaaDoorCards
import Derived.Test.YtlbfhddhojejfaaDoorTie
import Derived.Test.YtlbfhddhojejfaaDoorFnR
import Derived.Test.YtlbfhddhojejfaaDoorRvW
import Derived.Test.YtlbfhddhojejfaaDoorPLawNBack
import Derived.SevenTiedAt
import Derived.ProofKit
import Derived.Lay
set_option linter.all false
namespace Go.Proofs.YtlbfhddhojejfaaDoor
open Go Go.ChangeShapes Go.WideShapes Go.ChangeAt Go.RowKit
noncomputable section
set_option maxRecDepth 100000
namespace nameBackLaw
theorem own : ownKnob Tryd.prog.godebug = none := by kernel_rfl
theorem laidOut : laidOutB Tryd.prog = true := by kernel_rfl
abbrev LL : List (String × DataW Unit) := Rows.nameBackRow.laid
def W0 (os : Os) : World := World.doorLaid Tryd.prog 400 os
def W1 (os : Os) : World := (W0 os).layVars Tryd.prog (LL.filter fun x => ["unicode/utf8.first"].contains x.1)
def BB : List Nat := (((DataW.laidRun Tryd.prog (W0 default) 8 ((LL.filter fun x => !["unicode/utf8.first"].contains x.1).map (·.1))).map (fun x => x.2.map (·.block))).getD [])
theorem hos (os : Os) : (W1 os).os = os := by rw [W1, World.layVars_os]; rfl
theorem door_met (os : Os) (args : Array Value) : laidMetH Tryd.prog Rows.nameBackRow.laid ((W1 os).forCall (fun _ _ => 0) ⟨#[], args, []⟩).memory :=
  laidMetH_of_parts3 (fuel := 8) (laidMet_layVars (w0 := W0 os) ["unicode/utf8.first"] BB (by kernel_rfl) (by kernel_rfl) (by kernel_rfl) (LaidIn.of_run BB 8 (by kernel_rfl) (by kernel_rfl) (by kernel_rfl) (by kernel_rfl))) (by kernel_rfl) (by kernel_rfl)
theorem laid_eq : Rows.nameBackRow.laid = [("math/bits.deBruijn32tab", Rows.laid_math_bits_deBruijn32tab), ("math/bits.deBruijn64tab", Rows.laid_math_bits_deBruijn64tab), ("internal/strconv.uint64pow10", Rows.laid_internal_strconv_uint64pow10), ("unicode/utf8.acceptRanges", Rows.laid_unicode_utf8_acceptRanges), ("strconv.ErrRange", Rows.laid_strconv_ErrRange), ("strconv.ErrSyntax", Rows.laid_strconv_ErrSyntax), ("unicode.White_Space", Rows.laid_unicode_White_Space), ("strings.asciiSpace", Rows.laid_strings_asciiSpace), ("unicode/utf8.first", Rows.laid_unicode_utf8_first)] := rfl
theorem lw_of {W : World} (hl : laidMetH Tryd.prog Rows.nameBackRow.laid W) (hsh : W.ShapedOpen Tryd.prog) : ∃ ad, Rv.LW ad W := by
  exact ⟨fun _ => 0, {
    errSyntax := Rv.laid_iface hl (n := "strconv.ErrSyntax") (by rw [laid_eq]; simp only [List.mem_filter]; exact ⟨by apply List.mem_cons_of_mem; apply List.mem_cons_of_mem; apply List.mem_cons_of_mem; apply List.mem_cons_of_mem; apply List.mem_cons_of_mem; exact List.mem_cons_self, by kernel_rfl⟩) (show Tryd.prog.globalNamed "strconv.ErrSyntax" = some 3 by kernel_rfl) (show (Tryd.prog.globals[3]?).map (·.type) = some 64 by kernel_rfl) Tryd.underlying64
    errRange := Rv.laid_iface hl (n := "strconv.ErrRange") (by rw [laid_eq]; simp only [List.mem_filter]; exact ⟨by apply List.mem_cons_of_mem; apply List.mem_cons_of_mem; apply List.mem_cons_of_mem; apply List.mem_cons_of_mem; exact List.mem_cons_self, by kernel_rfl⟩) (show Tryd.prog.globalNamed "strconv.ErrRange" = some 4 by kernel_rfl) (show (Tryd.prog.globals[4]?).map (·.type) = some 64 by kernel_rfl) Tryd.underlying64
    pow10 := Rv.laid_tab hl (n := "internal/strconv.uint64pow10") (zs := Lib.pow10Tab) (by rw [laid_eq]; simp only [List.mem_filter]; exact ⟨by apply List.mem_cons_of_mem; apply List.mem_cons_of_mem; exact List.mem_cons_self, by kernel_rfl⟩) (show Tryd.prog.globalNamed "internal/strconv.uint64pow10" = some 7 by kernel_rfl) (show (Tryd.prog.globals[7]?).map (·.type) = some 142 by kernel_rfl) Tryd.underlying142 Tryd.underlying76 (by kernel_rfl) (by kernel_rfl)
    asciiSpace := Rv.laid_tab hl (n := "strings.asciiSpace") (zs := Lib.asciiSpaceTab) (by rw [laid_eq]; simp only [List.mem_filter]; exact ⟨by apply List.mem_cons_of_mem; apply List.mem_cons_of_mem; apply List.mem_cons_of_mem; apply List.mem_cons_of_mem; apply List.mem_cons_of_mem; apply List.mem_cons_of_mem; apply List.mem_cons_of_mem; exact List.mem_cons_self, by kernel_rfl⟩) (show Tryd.prog.globalNamed "strings.asciiSpace" = some 0 by kernel_rfl) (show (Tryd.prog.globals[0]?).map (·.type) = some 98 by kernel_rfl) Tryd.underlying98 Tryd.underlying5 (by kernel_rfl) (by kernel_rfl)
    maxLen := Go.Proofs.cell_of_shapedOpen_int hsh (show 1 < Tryd.prog.globals.size from of_decide_eq_true (by kernel_rfl)) (show ((begin Tryd.prog (fun _ _ => 0) default).world.heap[1]?).bind Obj.row? = some (#[.int .i64 0], 3) by kernel_rfl) rfl (by kernel_rfl) (by kernel_rfl) Tryd.underlying3
    }⟩
theorem calls (H : Type) (enc : TypeId × Value → H) (W : World) (base : Nat) (args : Array Value) (ds : List (DataW H)) (p : List MemPlace) (hv : ∀ (j : Nat) t v, Tryd.f12.params.toList[j]? = some t → args[j]? = some v → Value.okWide Tryd.prog W .any base t v)
    (hA : DataW.TrodAll enc Tryd.prog W 0 (fun _ => true) true Tryd.f12.params.toList args.toList ds p) (hl : laidMetH Tryd.prog Rows.nameBackRow.laid W) (hsh : W.ShapedOpen Tryd.prog) :
    Calls Tryd.prog 12 args W fun e w' => e = .returned (.bool true) ∧ Below W.heap.size W w' := by
  obtain ⟨ad, hL⟩ := lw_of hl hsh
  rw [Tryd.params12] at hA hv
  exact Rv.law_calls (P := Rv.P) (L := Rv.LW ad) (f := 12) (Ts := [.pair (.int .u8) (.pair (.int .u8) .nil), .pair (.int .u8) (.pair (.int .u8) .nil), .pair .bool (.pair .bool .nil)]) Rv.rivetlaw13_NameBack.sat (fun x h => Rv.nback_wf h) hL hL.stable hA ⟨(show Rv.tyB Rv.P 20 52 (.pair (.int .u8) (.pair (.int .u8) .nil)) = true by kernel_rfl), (show Rv.tyB Rv.P 20 52 (.pair (.int .u8) (.pair (.int .u8) .nil)) = true by kernel_rfl), (show Rv.tyB Rv.P 20 53 (.pair .bool (.pair .bool .nil)) = true by kernel_rfl), trivial⟩ hv
theorem lifted (os : Os) (started : os.Started) (H : Type) (enc : TypeId × Value → H) :
    ReturnsInHanded {} Tryd.checked os 12 .any (fun w args => (Rows.nameBackSpec.pre enc Tryd.prog Tryd.f12 [] false w args ∧ laidMetH Tryd.prog Rows.nameBackRow.laid w) ∧ sizedMet enc Tryd.prog Tryd.f12 (OpenSpec.ofChange Rows.nameBackSpec) false w args) (Rows.nameBackSpec.post enc Tryd.prog Tryd.f12 false true false false) :=
  Rv.law_lifted (C := Tryd.checked) own started (by kernel_rfl) Tryd.func12 laidOut (by rw [Tryd.params12]; simp only [List.mem_cons, List.not_mem_nil, or_false, forall_eq_or_imp, forall_eq]; exact ⟨⟨by kernel_rfl, of_decide_eq_true (by kernel_rfl)⟩, ⟨by kernel_rfl, of_decide_eq_true (by kernel_rfl)⟩, ⟨by kernel_rfl, of_decide_eq_true (by kernel_rfl)⟩⟩) (bT := 4) (by kernel_rfl) Tryd.underlying4 rfl
    (fun ds h => by
      rw [Tryd.params12] at h
      match ds, h with
      | [d0, d1, d2], _ => rfl)
    (ChangeSpec.witness_shaped (enc := enc) (C := Tryd.checked) (os := os) (X := fun w _ => laidMetH Tryd.prog Rows.nameBackRow.laid w) false (W1 os) #[.agg #[.int .u8 0, .int .u8 0], .agg #[.int .u8 0, .int .u8 0], .agg #[.bool false, .bool false]] 8 (hos os) (World.shaped_of_RefB (by kernel_rfl) (by kernel_rfl)) (by kernel_rfl) (by kernel_rfl) (by kernel_rfl) (door_met os _))
    (fun W base args ds p hv hA _ hl hsh => calls H enc W base args ds p hv hA hl hsh)
theorem row : Rows.NameBackSaid :=
  OpenClaim.holds_of_wide 12 Tryd.f12 rfl rfl rfl rfl rfl rfl rfl ⟨rfl, rfl, rfl, rfl, rfl⟩ rfl rfl rfl rfl rfl (by kernel_rfl) Tryd.func12 (by kernel_rfl)
    (of_decide_eq_true (by kernel_rfl)) (by unfold Func.isWrapper; first | (rw [if_pos (by decide +kernel)]; kernel_rfl) | (rw [if_neg (by decide +kernel)]; exact ⟨rfl, rfl⟩))
    (fun os started H enc _ => lifted os started H enc)
end nameBackLaw
theorem nameBack_holds : Rows.NameBackCardSaid :=
  Claim7.holds_tied_plain_at .later [] [.data, .data, .data, .data, .sentinel, .sentinel, .listed, .data, .pinned] true (true, "5fee1ad4b86da78122a5749aa9b08a2e3f1fa1280ab82aed32982857ed0a643e") true
    nameBackLaw.row (fun _ h => by cases h) (by kernel_rfl) (fun _ h => by cases h) nameBack_row_tie rfl ⟨rfl, rfl⟩ (by kernel_rfl) rfl
    (fun f fn hf hfn => by
      obtain rfl : f = 12 := Option.some.inj ((show Tryd.prog.funcNamed "rivet/rivetlaw13.NameBack" = some 12 by kernel_rfl).symm.trans hf) |>.symm
      obtain rfl : fn = Tryd.f12 := (Option.some.inj (Tryd.func12.symm.trans hfn)).symm
      exact ⟨by kernel_rfl, fun j t ht => by
        rw [Tryd.params12] at ht
        have hm : t ∈ [52, 52, 53] := by simpa using Array.mem_of_getElem? ht
        have hall : ([52, 52, 53].all fun u => !Tryd.prog.wantsStandIn u) = true := by kernel_rfl
        exact (show Tryd.prog.wantsStandIn t = false by simpa using List.all_eq_true.1 hall t hm)⟩)
    (by kernel_rfl)
end
end Go.Proofs.YtlbfhddhojejfaaDoor
