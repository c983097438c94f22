/- The law ScanBack holds: for every input it returns true and leaves its arguments as they were; its package variables hold what the row lists. -/
import Derived.Test.YtlbfhddhojejfaaDoorCards
import Derived.Test.YtlbfhddhojejfaaDoorTie
import Derived.Test.YtlbfhddhojejfaaDoorFnJ
import Derived.Test.YtlbfhddhojejfaaDoorRvW
import Derived.Test.YtlbfhddhojejfaaDoorPLawSBack
import Derived.SevenTiedAt
import Derived.ProofKit
import Derived.Lay
set_option linter.all false
namespace Go.Proofs.YtlbfhddhojejfaaDoor
open Go Go.ChangeShapes Go.WideShapes Go.ChangeAt Go.RowKit
noncomputable section
set_option maxRecDepth 100000
namespace scanBackLaw
theorem own : ownKnob Tryd.prog.godebug = none := by kernel_rfl
theorem laidOut : laidOutB Tryd.prog = true := by kernel_rfl
theorem door_met (os : Os) (args : Array Value) : laidMetH Tryd.prog Rows.scanBackRow.laid ((World.doorLaid Tryd.prog 400 os).forCall (fun _ _ => 0) ⟨#[], args, []⟩).memory :=
  laidMetH_of_parts3 (fuel := 8) (laidMet_of_run' 8 (by kernel_rfl) (by kernel_rfl)) (by kernel_rfl) (by kernel_rfl)
theorem laid_eq : Rows.scanBackRow.laid = [("math/bits.deBruijn32tab", Rows.laid_math_bits_deBruijn32tab), ("math/bits.deBruijn64tab", Rows.laid_math_bits_deBruijn64tab), ("internal/strconv.uint64pow10", Rows.laid_internal_strconv_uint64pow10), ("strconv.ErrRange", Rows.laid_strconv_ErrRange), ("strconv.ErrSyntax", Rows.laid_strconv_ErrSyntax)] := rfl
theorem lw_of {W : World} (hl : laidMetH Tryd.prog Rows.scanBackRow.laid W) (hsh : W.ShapedOpen Tryd.prog) : ∃ ad, Rv.LW ad W := by
  exact ⟨fun _ => 0, {
    errSyntax := Rv.laid_iface hl (n := "strconv.ErrSyntax") (by rw [laid_eq]; simp only [List.mem_filter]; exact ⟨by apply List.mem_cons_of_mem; apply List.mem_cons_of_mem; apply List.mem_cons_of_mem; apply List.mem_cons_of_mem; exact List.mem_cons_self, by kernel_rfl⟩) (show Tryd.prog.globalNamed "strconv.ErrSyntax" = some 3 by kernel_rfl) (show (Tryd.prog.globals[3]?).map (·.type) = some 64 by kernel_rfl) Tryd.underlying64
    errRange := Rv.laid_iface hl (n := "strconv.ErrRange") (by rw [laid_eq]; simp only [List.mem_filter]; exact ⟨by apply List.mem_cons_of_mem; apply List.mem_cons_of_mem; apply List.mem_cons_of_mem; exact List.mem_cons_self, by kernel_rfl⟩) (show Tryd.prog.globalNamed "strconv.ErrRange" = some 4 by kernel_rfl) (show (Tryd.prog.globals[4]?).map (·.type) = some 64 by kernel_rfl) Tryd.underlying64
    pow10 := Rv.laid_tab hl (n := "internal/strconv.uint64pow10") (zs := Lib.pow10Tab) (by rw [laid_eq]; simp only [List.mem_filter]; exact ⟨by apply List.mem_cons_of_mem; apply List.mem_cons_of_mem; exact List.mem_cons_self, by kernel_rfl⟩) (show Tryd.prog.globalNamed "internal/strconv.uint64pow10" = some 7 by kernel_rfl) (show (Tryd.prog.globals[7]?).map (·.type) = some 142 by kernel_rfl) Tryd.underlying142 Tryd.underlying76 (by kernel_rfl) (by kernel_rfl)
    maxLen := Go.Proofs.cell_of_shapedOpen_int hsh (show 1 < Tryd.prog.globals.size from of_decide_eq_true (by kernel_rfl)) (show ((begin Tryd.prog (fun _ _ => 0) default).world.heap[1]?).bind Obj.row? = some (#[.int .i64 0], 3) by kernel_rfl) rfl (by kernel_rfl) (by kernel_rfl) Tryd.underlying3
    }⟩
theorem calls (H : Type) (enc : TypeId × Value → H) (W : World) (base : Nat) (args : Array Value) (ds : List (DataW H)) (p : List MemPlace) (hv : ∀ (j : Nat) t v, Tryd.f7.params.toList[j]? = some t → args[j]? = some v → Value.okWide Tryd.prog W .any base t v)
    (hA : DataW.TrodAll enc Tryd.prog W 0 (fun _ => true) true Tryd.f7.params.toList args.toList ds p) (hl : laidMetH Tryd.prog Rows.scanBackRow.laid W) (hsh : W.ShapedOpen Tryd.prog) :
    Calls Tryd.prog 7 args W fun e w' => e = .returned (.bool true) ∧ Below W.heap.size W w' := by
  obtain ⟨ad, hL⟩ := lw_of hl hsh
  rw [Tryd.params7] at hA hv
  exact Rv.law_calls (P := Rv.P) (L := Rv.LW ad) (f := 7) (Ts := [.str, .str]) Rv.rivetlaw14_ScanBack.sat (fun x h => Rv.sback_wf h) hL hL.stable hA ⟨(show Rv.tyB Rv.P 20 9 .str = true by kernel_rfl), (show Rv.tyB Rv.P 20 9 .str = true by kernel_rfl), trivial⟩ hv
theorem lifted (os : Os) (started : os.Started) (H : Type) (enc : TypeId × Value → H) :
    ReturnsInHanded {} Tryd.checked os 7 .any (fun w args => (Rows.scanBackSpec.pre enc Tryd.prog Tryd.f7 [] false w args ∧ laidMetH Tryd.prog Rows.scanBackRow.laid w) ∧ sizedMet enc Tryd.prog Tryd.f7 (OpenSpec.ofChange Rows.scanBackSpec) false w args) (Rows.scanBackSpec.post enc Tryd.prog Tryd.f7 false true false false) :=
  Rv.law_lifted (C := Tryd.checked) own started (by kernel_rfl) Tryd.func7 laidOut (by rw [Tryd.params7]; simp only [List.mem_cons, List.not_mem_nil, or_false, forall_eq_or_imp, forall_eq]; exact ⟨⟨by kernel_rfl, of_decide_eq_true (by kernel_rfl)⟩, ⟨by kernel_rfl, of_decide_eq_true (by kernel_rfl)⟩⟩) (bT := 4) (by kernel_rfl) Tryd.underlying4 rfl
    (fun ds h => by
      rw [Tryd.params7] at h
      match ds, h with
      | [d0, d1], _ => rfl)
    (ChangeSpec.witness_shaped (enc := enc) (C := Tryd.checked) (os := os) (X := fun w _ => laidMetH Tryd.prog Rows.scanBackRow.laid w) false (World.doorLaid Tryd.prog 400 os) #[.string ⟨#[]⟩, .string ⟨#[]⟩] 8 rfl (World.shaped_of_RefB (by kernel_rfl) (by kernel_rfl)) (by kernel_rfl) (by kernel_rfl) (by kernel_rfl) (door_met os _))
    (fun W base args ds p hv hA _ hl hsh => calls H enc W base args ds p hv hA hl hsh)
theorem row : Rows.ScanBackSaid :=
  OpenClaim.holds_of_wide 7 Tryd.f7 rfl rfl rfl rfl rfl rfl rfl ⟨rfl, rfl, rfl, rfl, rfl⟩ rfl rfl rfl rfl rfl (by kernel_rfl) Tryd.func7 (by kernel_rfl)
    (of_decide_eq_true (by kernel_rfl)) (by unfold Func.isWrapper; first | (rw [if_pos (by decide +kernel)]; kernel_rfl) | (rw [if_neg (by decide +kernel)]; exact ⟨rfl, rfl⟩))
    (fun os started H enc _ => lifted os started H enc)
end scanBackLaw
theorem scanBack_holds : Rows.ScanBackCardSaid :=
  Claim7.holds_tied_plain_at .later [] [.data, .data, .data, .sentinel, .sentinel] true (true, "5fee1ad4b86da78122a5749aa9b08a2e3f1fa1280ab82aed32982857ed0a643e") true
    scanBackLaw.row (fun _ h => by cases h) (by kernel_rfl) (fun _ h => by cases h) scanBack_row_tie rfl ⟨rfl, rfl⟩ (by kernel_rfl) rfl
    (fun f fn hf hfn => by
      obtain rfl : f = 7 := Option.some.inj ((show Tryd.prog.funcNamed "rivet/rivetlaw14.ScanBack" = some 7 by kernel_rfl).symm.trans hf) |>.symm
      obtain rfl : fn = Tryd.f7 := (Option.some.inj (Tryd.func7.symm.trans hfn)).symm
      exact ⟨by kernel_rfl, fun j t ht => by
        rw [Tryd.params7] at ht
        have hm : t ∈ [9, 9] := by simpa using Array.mem_of_getElem? ht
        have hall : ([9, 9].all fun u => !Tryd.prog.wantsStandIn u) = true := by kernel_rfl
        exact (show Tryd.prog.wantsStandIn t = false by simpa using List.all_eq_true.1 hall t hm)⟩)
    (by kernel_rfl)
end
end Go.Proofs.YtlbfhddhojejfaaDoor
