/- The law AsmWords holds: for every input it returns true and leaves its arguments as they were; its package variables hold what the row lists. -/
import Derived.Test.YtbommpjdbjfdjaaGreatDoorCards
import Derived.Test.YtbommpjdbjfdjaaGreatDoorTie
import Derived.Test.YtbommpjdbjfdjaaGreatDoorS2
import Derived.Test.YtbommpjdbjfdjaaGreatDoorC5
import Derived.Test.YtbommpjdbjfdjaaGreatDoorSPLaw21Words
import Derived.SevenTiedAt
import Derived.ProofKit
import Derived.Lay
import Derived.Test.YtbommpjdbjfdjaaGreatDoorSLawAsmWordsA
import Derived.Test.YtbommpjdbjfdjaaGreatDoorSLawAsmWordsB
set_option linter.all false
namespace Go.Proofs.YtbommpjdbjfdjaaGreatDoor
open Go Go.ChangeShapes Go.WideShapes Go.ChangeAt Go.RowKit
noncomputable section
set_option maxRecDepth 100000
namespace asmWordsLaw
theorem lifted (os:Os) (started:os.Started) (H:Type) (enc:TypeId×Value→H) :
  ReturnsInHanded {} Tryz.checked os 12 .any (fun w args=>(Rows.asmWordsSpec.pre enc Tryz.prog Tryz.f12 [] false w args∧laidMetH Tryz.prog Rows.asmWordsRow.laid w)∧sizedMet enc Tryz.prog Tryz.f12 (OpenSpec.ofChange Rows.asmWordsSpec) false w args) (Rows.asmWordsSpec.post enc Tryz.prog Tryz.f12 false true false false):=
 Rv.law_lifted (C:=Tryz.checked) own started (by kernel_rfl) Tryz.func12 laidOut (by rw [Tryz.params12]; simp only [List.mem_cons,List.not_mem_nil,or_false,forall_eq_or_imp,forall_eq]; exact ⟨by kernel_rfl,of_decide_eq_true (by kernel_rfl)⟩) (bT:=4) (by kernel_rfl) Tryz.underlying4 rfl
  (fun ds h=>by
   rw [Tryz.params12] at h
   match ds,h with
   | [d0],_=>rfl)
  (ChangeSpec.witness_shaped (enc:=enc) (C:=Tryz.checked) (os:=os) (X:=fun w _=>laidMetH Tryz.prog Rows.asmWordsRow.laid w) false (W1 os) #[.slice none 0 0] 8 (hos os) (World.shaped_of_RefB (by kernel_rfl) (by kernel_rfl)) (by kernel_rfl) (by kernel_rfl) (by kernel_rfl) (door_met os _))
  (fun W base args ds p hv hA _ hl hsh=>calls H enc W base args ds p hv hA hl hsh)
end asmWordsLaw
end
end Go.Proofs.YtbommpjdbjfdjaaGreatDoor
