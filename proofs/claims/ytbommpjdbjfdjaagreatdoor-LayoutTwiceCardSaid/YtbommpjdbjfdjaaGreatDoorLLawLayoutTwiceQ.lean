/- The law LayoutTwice holds: for every input it returns true and leaves its arguments as they were; its package variables hold what the row lists. -/
import Derived.Test.YtbommpjdbjfdjaaGreatDoorCards
import Derived.Test.YtbommpjdbjfdjaaGreatDoorTie
import Derived.Test.YtbommpjdbjfdjaaGreatDoorL2
import Derived.Test.YtbommpjdbjfdjaaGreatDoorC5
import Derived.Test.YtbommpjdbjfdjaaGreatDoorLPLaw20Twice
import Derived.SevenTiedAt
import Derived.ProofKit
import Derived.Lay
set_option linter.all false
namespace Go.Proofs.YtbommpjdbjfdjaaGreatDoor
open Go Go.ChangeShapes Go.WideShapes Go.ChangeAt Go.RowKit
noncomputable section
set_option maxRecDepth 100000
namespace layoutTwiceLaw
theorem q0 : OpenClaim.wf (OpenSpec.ofChange Rows.layoutTwiceSpec) Rows.layoutTwiceRow = true := by kernel_rfl
theorem q1 : laidOutB Tryz.checked.prog = true := by kernel_rfl
theorem q2 : mapsRowed Tryz.checked.prog = true := by kernel_rfl
theorem q3 : (Tryz.f5.params.all fun x => Tryz.checked.prog.readableRec x) = true := by kernel_rfl
theorem q4 : namedTie Tryz.checked.prog Rows.layoutTwiceRow.named Rows.layoutTwiceSpec.vars = true := by kernel_rfl
theorem q5 : (Rows.layoutTwiceRow.inPlace == Tryz.checked.prog.inPlace 5) = true := by kernel_rfl
theorem q6 : (Rows.layoutTwiceRow.unfollowed == Tryz.checked.prog.unfollowed 5) = true := by kernel_rfl
theorem q7 : (Rows.layoutTwiceRow.recurses == Tryz.checked.prog.recurses 5) = true := by kernel_rfl
theorem q8 : (Rows.layoutTwiceRow.named == Tryz.checked.prog.varsNamed 5) = true := by kernel_rfl
theorem q9 : (Rows.layoutTwiceRow.plainKeys == Tryz.checked.prog.plainKeys) = true := by kernel_rfl
theorem q10 : (Rows.layoutTwiceRow.lifted == Tryz.checked.prog.liftsFinal) = true := by kernel_rfl
theorem q11 : (Rows.layoutTwiceSpec.vars.all fun x => Tryz.checked.prog.varReadable x) = true := by kernel_rfl
theorem q12 : Tryz.checked.prog.stopsHeard = true := by kernel_rfl
theorem q13 : Tryz.checked.prog.mayEnter = true := by kernel_rfl
theorem q14 : (Tryz.checked.prog.make == some Rows.layoutTwiceRow.make) = true := by kernel_rfl
end layoutTwiceLaw
end
end Go.Proofs.YtbommpjdbjfdjaaGreatDoor
