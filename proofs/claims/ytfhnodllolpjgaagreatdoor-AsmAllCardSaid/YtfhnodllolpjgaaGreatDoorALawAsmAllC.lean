/- The law AsmAll holds: for every input it returns true and leaves its arguments as they were; its package variables hold what the row lists. -/
import Derived.Test.YtfhnodllolpjgaaGreatDoorCards
import Derived.Test.YtfhnodllolpjgaaGreatDoorTie
import Derived.Test.YtfhnodllolpjgaaGreatDoorA2
import Derived.Test.YtfhnodllolpjgaaGreatDoorE5
import Derived.Test.YtfhnodllolpjgaaGreatDoorA5
import Derived.SevenTiedAt
import Derived.ProofKit
import Derived.Lay
import Derived.Test.YtfhnodllolpjgaaGreatDoorALawAsmAllA
import Derived.Test.YtfhnodllolpjgaaGreatDoorALawAsmAllB
set_option linter.all false
namespace Go.Proofs.YtfhnodllolpjgaaGreatDoor
open Go Go.ChangeShapes Go.WideShapes Go.ChangeAt Go.RowKit
noncomputable section
set_option maxRecDepth 100000
namespace asmAllLaw
theorem lifted (os:Os) (started:os.Started) (H:Type) (enc:TypeId×Value→H) :
  ReturnsInHanded {} Tryz.checked os 3 .any (fun w args=>(Rows.asmAllSpec.pre enc Tryz.prog Tryz.f3 [] false w args∧laidMetH Tryz.prog Rows.asmAllRow.laid w)∧sizedMet enc Tryz.prog Tryz.f3 (OpenSpec.ofChange Rows.asmAllSpec) false w args) (Rows.asmAllSpec.post enc Tryz.prog Tryz.f3 false true false false):=
 Rv.law_lifted (C:=Tryz.checked) own started (by kernel_rfl) Tryz.func3 laidOut (by rw [Tryz.params3]; simp only [PM,List.not_mem_nil,or_false,forall_eq_or_imp,forall_eq]; exact ⟨⟨by kernel_rfl,of_decide_eq_true (by kernel_rfl)⟩,⟨by kernel_rfl,of_decide_eq_true (by kernel_rfl)⟩⟩) (bT:=4) (by kernel_rfl) Tryz.underlying4 rfl
  (fun ds h=>by
   rw [Tryz.params3] at h
   match ds,h with
   | [d0,d1],_=>rfl)
  (ChangeSpec.witness_shaped (enc:=enc) (C:=Tryz.checked) (os:=os) (X:=fun w _=>laidMetH Tryz.prog Rows.asmAllRow.laid w) false (W1 os) #[.string ⟨#[]⟩,.slice none 0 0] 8 (hos os) (World.shaped_of_RefB (by kernel_rfl) (by kernel_rfl)) (by kernel_rfl) (by kernel_rfl) (by kernel_rfl) (door_met os _))
  (fun W base args ds p hv hA _ hl hsh=>calls H enc W base args ds p hv hA hl hsh)
end asmAllLaw
end
end Go.Proofs.YtfhnodllolpjgaaGreatDoor
