/- The law AsmSame holds: for every input it returns true and leaves its arguments as they were; its package variables hold what the row lists. -/
import Derived.Test.YtfhnodllolpjgaaGreatDoorCards
import Derived.Test.YtfhnodllolpjgaaGreatDoorTie
import Derived.Test.YtfhnodllolpjgaaGreatDoorM2
import Derived.Test.YtfhnodllolpjgaaGreatDoorG5
import Derived.Test.YtfhnodllolpjgaaGreatDoorM4
import Derived.SevenTiedAt
import Derived.ProofKit
import Derived.Lay
import Derived.Test.YtfhnodllolpjgaaGreatDoorMLawAsmSameA
import Derived.Test.YtfhnodllolpjgaaGreatDoorMLawAsmSameB
set_option linter.all false
namespace Go.Proofs.YtfhnodllolpjgaaGreatDoor
open Go Go.ChangeShapes Go.WideShapes Go.ChangeAt Go.RowKit
noncomputable section
set_option maxRecDepth 100000
namespace asmSameLaw
theorem lifted (os:Os) (started:os.Started) (H:Type) (enc:TypeId×Value→H) :
  ReturnsInHanded {} Tryz.checked os 5 .any (fun w args=>(Rows.asmSameSpec.pre enc Tryz.prog Tryz.f5 [] false w args∧laidMetH Tryz.prog Rows.asmSameRow.laid w)∧sizedMet enc Tryz.prog Tryz.f5 (OpenSpec.ofChange Rows.asmSameSpec) false w args) (Rows.asmSameSpec.post enc Tryz.prog Tryz.f5 false true false false):=
 Rv.law_lifted (C:=Tryz.checked) own started (by kernel_rfl) Tryz.func5 laidOut (by rw [Tryz.params5]; simp only [Py,Qn,or_false,forall_eq_or_imp,forall_eq]; exact ⟨by kernel_rfl,of_decide_eq_true (by kernel_rfl)⟩) (bT:=4) (by kernel_rfl) Tryz.underlying4 rfl
  (fun ds h=>by
   rw [Tryz.params5] at h
   match ds,h with
   | [d0],_=>rfl)
  (ChangeSpec.witness_shaped (enc:=enc) (C:=Tryz.checked) (os:=os) (X:=fun w _=>laidMetH Tryz.prog Rows.asmSameRow.laid w) false (W1 os) #[.string ⟨#[]⟩] 8 (hos os) (World.shaped_of_RefB (by kernel_rfl) (by kernel_rfl)) (by kernel_rfl) (by kernel_rfl) (by kernel_rfl) (door_met os _))
  (fun W base args ds p hv hA _ hl hsh=>calls H enc W base args ds p hv hA hl hsh)
end asmSameLaw
end
end Go.Proofs.YtfhnodllolpjgaaGreatDoor
