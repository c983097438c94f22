/- The law AsmAll holds: for every input it returns true and leaves its arguments as they were; its package variables hold what the row lists. -/
import Derived.Test.YtfhnodllolpjgaaGreatDoorCards
import Derived.Test.YtfhnodllolpjgaaGreatDoorTie
import Derived.Test.YtfhnodllolpjgaaGreatDoorA2
import Derived.Test.YtfhnodllolpjgaaGreatDoorE5
import Derived.Test.YtfhnodllolpjgaaGreatDoorA5
import Derived.SevenTiedAt
import Derived.ProofKit
import Derived.Lay
set_option linter.all false
namespace Go.Proofs.YtfhnodllolpjgaaGreatDoor
open Go Go.ChangeShapes Go.WideShapes Go.ChangeAt Go.RowKit
noncomputable section
set_option maxRecDepth 100000
namespace asmAllLaw
theorem q0 : OpenClaim.wf (OpenSpec.ofChange Rows.asmAllSpec) Rows.asmAllRow = true := by kernel_rfl
theorem q1 : laidOutB Tryz.checked.prog = true := by kernel_rfl
theorem q2 : mapsRowed Tryz.checked.prog = true := by kernel_rfl
theorem q3 : (Tryz.f3.params.all fun x => Tryz.checked.prog.readableRec x) = true := by kernel_rfl
theorem q4 : namedTie Tryz.checked.prog Rows.asmAllRow.named Rows.asmAllSpec.vars = true := by kernel_rfl
theorem q5 : (Rows.asmAllRow.inPlace == Tryz.checked.prog.inPlace 3) = true := by kernel_rfl
theorem q6 : (Rows.asmAllRow.unfollowed == Tryz.checked.prog.unfollowed 3) = true := by kernel_rfl
theorem q7 : (Rows.asmAllRow.recurses == Tryz.checked.prog.recurses 3) = true := by kernel_rfl
theorem q8 : (Rows.asmAllRow.named == Tryz.checked.prog.varsNamed 3) = true := by kernel_rfl
theorem q9 : (Rows.asmAllRow.plainKeys == Tryz.checked.prog.plainKeys) = true := by kernel_rfl
theorem q10 : (Rows.asmAllRow.lifted == Tryz.checked.prog.liftsFinal) = true := by kernel_rfl
theorem q11 : (Rows.asmAllSpec.vars.all fun x => Tryz.checked.prog.varReadable x) = true := by kernel_rfl
theorem q12 : Tryz.checked.prog.stopsHeard = true := by kernel_rfl
theorem q13 : Tryz.checked.prog.mayEnter = true := by kernel_rfl
theorem q14 : (Tryz.checked.prog.make == some Rows.asmAllRow.make) = true := by kernel_rfl
end asmAllLaw
end
end Go.Proofs.YtfhnodllolpjgaaGreatDoor
