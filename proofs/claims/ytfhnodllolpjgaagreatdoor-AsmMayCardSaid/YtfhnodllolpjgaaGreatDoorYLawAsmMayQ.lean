/- The law AsmMay holds: for every input it returns true and leaves its arguments as they were; its package variables hold what the row lists. -/
import Derived.Test.YtfhnodllolpjgaaGreatDoorCards
import Derived.Test.YtfhnodllolpjgaaGreatDoorTie
import Derived.Test.YtfhnodllolpjgaaGreatDoorY2
import Derived.Test.YtfhnodllolpjgaaGreatDoorH5
import Derived.Test.YtfhnodllolpjgaaGreatDoorY4
import Derived.SevenTiedAt
import Derived.ProofKit
import Derived.Lay
set_option linter.all false
namespace Go.Proofs.YtfhnodllolpjgaaGreatDoor
open Go Go.ChangeShapes Go.WideShapes Go.ChangeAt Go.RowKit
noncomputable section
set_option maxRecDepth 100000
namespace asmMayLaw
theorem q0 : OpenClaim.wf (OpenSpec.ofChange Rows.asmMaySpec) Rows.asmMayRow = true := by kernel_rfl
theorem q1 : laidOutB Tryz.checked.prog = true := by kernel_rfl
theorem q2 : mapsRowed Tryz.checked.prog = true := by kernel_rfl
theorem q3 : (Tryz.f6.params.all fun x => Tryz.checked.prog.readableRec x) = true := by kernel_rfl
theorem q4 : namedTie Tryz.checked.prog Rows.asmMayRow.named Rows.asmMaySpec.vars = true := by kernel_rfl
theorem q5 : (Rows.asmMayRow.inPlace == Tryz.checked.prog.inPlace 6) = true := by kernel_rfl
theorem q6 : (Rows.asmMayRow.unfollowed == Tryz.checked.prog.unfollowed 6) = true := by kernel_rfl
theorem q7 : (Rows.asmMayRow.recurses == Tryz.checked.prog.recurses 6) = true := by kernel_rfl
theorem q8 : (Rows.asmMayRow.named == Tryz.checked.prog.varsNamed 6) = true := by kernel_rfl
theorem q9 : (Rows.asmMayRow.plainKeys == Tryz.checked.prog.plainKeys) = true := by kernel_rfl
theorem q10 : (Rows.asmMayRow.lifted == Tryz.checked.prog.liftsFinal) = true := by kernel_rfl
theorem q11 : (Rows.asmMaySpec.vars.all fun x => Tryz.checked.prog.varReadable x) = true := by kernel_rfl
theorem q12 : Tryz.checked.prog.stopsHeard = true := by kernel_rfl
theorem q13 : Tryz.checked.prog.mayEnter = true := by kernel_rfl
theorem q14 : (Tryz.checked.prog.make == some Rows.asmMayRow.make) = true := by kernel_rfl
end asmMayLaw
end
end Go.Proofs.YtfhnodllolpjgaaGreatDoor
