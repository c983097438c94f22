/- The law AsmMay holds: for every input it returns true and leaves its arguments as they were; its package variables hold what the row lists. -/
import Derived.Test.YtfhnodllolpjgaaGreatDoorCards
import Derived.Test.YtfhnodllolpjgaaGreatDoorTie
import Derived.Test.YtfhnodllolpjgaaGreatDoorY2
import Derived.Test.YtfhnodllolpjgaaGreatDoorH5
import Derived.Test.YtfhnodllolpjgaaGreatDoorY4
import Derived.SevenTiedAt
import Derived.ProofKit
import Derived.Lay
import Derived.Test.YtfhnodllolpjgaaGreatDoorYLawAsmMayA
import Derived.Test.YtfhnodllolpjgaaGreatDoorYLawAsmMayB
set_option linter.all false
namespace Go.Proofs.YtfhnodllolpjgaaGreatDoor
open Go Go.ChangeShapes Go.WideShapes Go.ChangeAt Go.RowKit
noncomputable section
set_option maxRecDepth 100000
namespace asmMayLaw
theorem lifted (os:Os) (started:os.Started) (H:Type) (enc:TypeId×Value→H) :
  ReturnsInHanded {} Tryz.checked os 6 .any (fun w args=>(Rows.asmMaySpec.pre enc Tryz.prog Tryz.f6 [] false w args∧laidMetH Tryz.prog Rows.asmMayRow.laid w)∧sizedMet enc Tryz.prog Tryz.f6 (OpenSpec.ofChange Rows.asmMaySpec) false w args) (Rows.asmMaySpec.post enc Tryz.prog Tryz.f6 false true false false):=
 Rv.law_lifted (C:=Tryz.checked) own started (by kernel_rfl) Tryz.func6 laidOut (by rw [Tryz.params6]; simp only [NS,List.not_mem_nil,or_false,forall_eq_or_imp,forall_eq]; exact ⟨by kernel_rfl,of_decide_eq_true (by kernel_rfl)⟩) (bT:=4) (by kernel_rfl) Tryz.underlying4 rfl
  (fun ds h=>by
   rw [Tryz.params6] at h
   match ds,h with
   | [d0],_=>rfl)
  (ChangeSpec.witness_shaped (enc:=enc) (C:=Tryz.checked) (os:=os) (X:=fun w _=>laidMetH Tryz.prog Rows.asmMayRow.laid w) false (W1 os) #[.string ⟨#[]⟩] 8 (hos os) (World.shaped_of_RefB (by kernel_rfl) (by kernel_rfl)) (by kernel_rfl) (by kernel_rfl) (by kernel_rfl) (door_met os _))
  (fun W base args ds p hv hA _ hl hsh=>calls H enc W base args ds p hv hA hl hsh)
end asmMayLaw
end
end Go.Proofs.YtfhnodllolpjgaaGreatDoor
