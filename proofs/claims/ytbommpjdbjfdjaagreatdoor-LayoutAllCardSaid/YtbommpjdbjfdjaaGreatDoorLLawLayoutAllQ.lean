/- The law LayoutAll holds: for every input it returns true and leaves its arguments as they were; its package variables hold what the row lists. -/
import Derived.Test.YtbommpjdbjfdjaaGreatDoorCards
import Derived.Test.YtbommpjdbjfdjaaGreatDoorTie
import Derived.Test.YtbommpjdbjfdjaaGreatDoorL2
import Derived.Test.YtbommpjdbjfdjaaGreatDoorC5
import Derived.Test.YtbommpjdbjfdjaaGreatDoorLPLaw20All
import Derived.SevenTiedAt
import Derived.ProofKit
import Derived.Lay
set_option linter.all false
namespace Go.Proofs.YtbommpjdbjfdjaaGreatDoor
open Go Go.ChangeShapes Go.WideShapes Go.ChangeAt Go.RowKit
noncomputable section
set_option maxRecDepth 100000
namespace layoutAllLaw
theorem q0 : OpenClaim.wf (OpenSpec.ofChange Rows.layoutAllSpec) Rows.layoutAllRow = true := by kernel_rfl
theorem q1 : laidOutB Tryz.checked.prog = true := by kernel_rfl
theorem q2 : mapsRowed Tryz.checked.prog = true := by kernel_rfl
theorem q3 : (Tryz.f3.params.all fun x => Tryz.checked.prog.readableRec x) = true := by kernel_rfl
theorem q4 : namedTie Tryz.checked.prog Rows.layoutAllRow.named Rows.layoutAllSpec.vars = true := by kernel_rfl
theorem q5 : (Rows.layoutAllRow.inPlace == Tryz.checked.prog.inPlace 3) = true := by kernel_rfl
theorem q6 : (Rows.layoutAllRow.unfollowed == Tryz.checked.prog.unfollowed 3) = true := by kernel_rfl
theorem q7 : (Rows.layoutAllRow.recurses == Tryz.checked.prog.recurses 3) = true := by kernel_rfl
theorem q8 : (Rows.layoutAllRow.named == Tryz.checked.prog.varsNamed 3) = true := by kernel_rfl
theorem q9 : (Rows.layoutAllRow.plainKeys == Tryz.checked.prog.plainKeys) = true := by kernel_rfl
theorem q10 : (Rows.layoutAllRow.lifted == Tryz.checked.prog.liftsFinal) = true := by kernel_rfl
theorem q11 : (Rows.layoutAllSpec.vars.all fun x => Tryz.checked.prog.varReadable x) = true := by kernel_rfl
theorem q12 : Tryz.checked.prog.stopsHeard = true := by kernel_rfl
theorem q13 : Tryz.checked.prog.mayEnter = true := by kernel_rfl
theorem q14 : (Tryz.checked.prog.make == some Rows.layoutAllRow.make) = true := by kernel_rfl
end layoutAllLaw
end
end Go.Proofs.YtbommpjdbjfdjaaGreatDoor
