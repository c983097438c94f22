/- The law AsmSame holds: for every input it returns true and leaves its arguments as they were; its package variables hold what the row lists. -/
import Derived.Test.YtfhnodllolpjgaaGreatDoorCards
import Derived.Test.YtfhnodllolpjgaaGreatDoorTie
import Derived.Test.YtfhnodllolpjgaaGreatDoorM2
import Derived.Test.YtfhnodllolpjgaaGreatDoorG5
import Derived.Test.YtfhnodllolpjgaaGreatDoorM4
import Derived.SevenTiedAt
import Derived.ProofKit
import Derived.Lay
set_option linter.all false
namespace Go.Proofs.YtfhnodllolpjgaaGreatDoor
open Go Go.ChangeShapes Go.WideShapes Go.ChangeAt Go.RowKit
noncomputable section
set_option maxRecDepth 100000
namespace asmSameLaw
theorem q0 : OpenClaim.wf (OpenSpec.ofChange Rows.asmSameSpec) Rows.asmSameRow = true := by kernel_rfl
theorem q1 : laidOutB Tryz.checked.prog = true := by kernel_rfl
theorem q2 : mapsRowed Tryz.checked.prog = true := by kernel_rfl
theorem q3 : (Tryz.f5.params.all fun x => Tryz.checked.prog.readableRec x) = true := by kernel_rfl
theorem q4 : namedTie Tryz.checked.prog Rows.asmSameRow.named Rows.asmSameSpec.vars = true := by kernel_rfl
theorem q5 : (Rows.asmSameRow.inPlace == Tryz.checked.prog.inPlace 5) = true := by kernel_rfl
theorem q6 : (Rows.asmSameRow.unfollowed == Tryz.checked.prog.unfollowed 5) = true := by kernel_rfl
theorem q7 : (Rows.asmSameRow.recurses == Tryz.checked.prog.recurses 5) = true := by kernel_rfl
theorem q8 : (Rows.asmSameRow.named == Tryz.checked.prog.varsNamed 5) = true := by kernel_rfl
theorem q9 : (Rows.asmSameRow.plainKeys == Tryz.checked.prog.plainKeys) = true := by kernel_rfl
theorem q10 : (Rows.asmSameRow.lifted == Tryz.checked.prog.liftsFinal) = true := by kernel_rfl
theorem q11 : (Rows.asmSameSpec.vars.all fun x => Tryz.checked.prog.varReadable x) = true := by kernel_rfl
theorem q12 : Tryz.checked.prog.stopsHeard = true := by kernel_rfl
theorem q13 : Tryz.checked.prog.mayEnter = true := by kernel_rfl
theorem q14 : (Tryz.checked.prog.make == some Rows.asmSameRow.make) = true := by kernel_rfl
end asmSameLaw
end
end Go.Proofs.YtfhnodllolpjgaaGreatDoor
