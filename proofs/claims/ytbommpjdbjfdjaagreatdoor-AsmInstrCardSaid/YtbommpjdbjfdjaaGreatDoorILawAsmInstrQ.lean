/- The law AsmInstr holds: for every input it returns true and leaves its arguments as they were; its package variables hold what the row lists. -/
import Derived.Test.YtbommpjdbjfdjaaGreatDoorCards
import Derived.Test.YtbommpjdbjfdjaaGreatDoorTie
import Derived.Test.YtbommpjdbjfdjaaGreatDoorI2
import Derived.Test.YtbommpjdbjfdjaaGreatDoorC5
import Derived.Test.YtbommpjdbjfdjaaGreatDoorI3
import Derived.SevenTiedAt
import Derived.ProofKit
import Derived.Lay
set_option linter.all false
namespace Go.Proofs.YtbommpjdbjfdjaaGreatDoor
open Go Go.ChangeShapes Go.WideShapes Go.ChangeAt Go.RowKit
noncomputable section
set_option maxRecDepth 100000
namespace asmInstrLaw
theorem q0 : OpenClaim.wf (OpenSpec.ofChange Rows.asmInstrSpec) Rows.asmInstrRow = true := by kernel_rfl
theorem q1 : laidOutB Tryz.checked.prog = true := by kernel_rfl
theorem q2 : mapsRowed Tryz.checked.prog = true := by kernel_rfl
theorem q3 : (Tryz.f10.params.all fun x => Tryz.checked.prog.readableRec x) = true := by kernel_rfl
theorem q4 : namedTie Tryz.checked.prog Rows.asmInstrRow.named Rows.asmInstrSpec.vars = true := by kernel_rfl
theorem q5 : (Rows.asmInstrRow.inPlace == Tryz.checked.prog.inPlace 10) = true := by kernel_rfl
theorem q6 : (Rows.asmInstrRow.unfollowed == Tryz.checked.prog.unfollowed 10) = true := by kernel_rfl
theorem q7 : (Rows.asmInstrRow.recurses == Tryz.checked.prog.recurses 10) = true := by kernel_rfl
theorem q8 : (Rows.asmInstrRow.named == Tryz.checked.prog.varsNamed 10) = true := by kernel_rfl
theorem q9 : (Rows.asmInstrRow.plainKeys == Tryz.checked.prog.plainKeys) = true := by kernel_rfl
theorem q10 : (Rows.asmInstrRow.lifted == Tryz.checked.prog.liftsFinal) = true := by kernel_rfl
theorem q11 : (Rows.asmInstrSpec.vars.all fun x => Tryz.checked.prog.varReadable x) = true := by kernel_rfl
theorem q12 : Tryz.checked.prog.stopsHeard = true := by kernel_rfl
theorem q13 : Tryz.checked.prog.mayEnter = true := by kernel_rfl
theorem q14 : (Tryz.checked.prog.make == some Rows.asmInstrRow.make) = true := by kernel_rfl
end asmInstrLaw
end
end Go.Proofs.YtbommpjdbjfdjaaGreatDoor
