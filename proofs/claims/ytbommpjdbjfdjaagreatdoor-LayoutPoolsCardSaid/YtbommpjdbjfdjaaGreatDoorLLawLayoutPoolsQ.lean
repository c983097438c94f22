/- The law LayoutPools holds: for every input it returns true and leaves its arguments as they were; its package variables hold what the row lists. -/
import Derived.Test.YtbommpjdbjfdjaaGreatDoorCards
import Derived.Test.YtbommpjdbjfdjaaGreatDoorTie
import Derived.Test.YtbommpjdbjfdjaaGreatDoorL2
import Derived.Test.YtbommpjdbjfdjaaGreatDoorC5
import Derived.Test.YtbommpjdbjfdjaaGreatDoorLPLaw20Pools
import Derived.SevenTiedAt
import Derived.ProofKit
import Derived.Lay
set_option linter.all false
namespace Go.Proofs.YtbommpjdbjfdjaaGreatDoor
open Go Go.ChangeShapes Go.WideShapes Go.ChangeAt Go.RowKit
noncomputable section
set_option maxRecDepth 100000
namespace layoutPoolsLaw
theorem q0 : OpenClaim.wf (OpenSpec.ofChange Rows.layoutPoolsSpec) Rows.layoutPoolsRow = true := by kernel_rfl
theorem q1 : laidOutB Tryz.checked.prog = true := by kernel_rfl
theorem q2 : mapsRowed Tryz.checked.prog = true := by kernel_rfl
theorem q3 : (Tryz.f7.params.all fun x => Tryz.checked.prog.readableRec x) = true := by kernel_rfl
theorem q4 : namedTie Tryz.checked.prog Rows.layoutPoolsRow.named Rows.layoutPoolsSpec.vars = true := by kernel_rfl
theorem q5 : (Rows.layoutPoolsRow.inPlace == Tryz.checked.prog.inPlace 7) = true := by kernel_rfl
theorem q6 : (Rows.layoutPoolsRow.unfollowed == Tryz.checked.prog.unfollowed 7) = true := by kernel_rfl
theorem q7 : (Rows.layoutPoolsRow.recurses == Tryz.checked.prog.recurses 7) = true := by kernel_rfl
theorem q8 : (Rows.layoutPoolsRow.named == Tryz.checked.prog.varsNamed 7) = true := by kernel_rfl
theorem q9 : (Rows.layoutPoolsRow.plainKeys == Tryz.checked.prog.plainKeys) = true := by kernel_rfl
theorem q10 : (Rows.layoutPoolsRow.lifted == Tryz.checked.prog.liftsFinal) = true := by kernel_rfl
theorem q11 : (Rows.layoutPoolsSpec.vars.all fun x => Tryz.checked.prog.varReadable x) = true := by kernel_rfl
theorem q12 : Tryz.checked.prog.stopsHeard = true := by kernel_rfl
theorem q13 : Tryz.checked.prog.mayEnter = true := by kernel_rfl
theorem q14 : (Tryz.checked.prog.make == some Rows.layoutPoolsRow.make) = true := by kernel_rfl
end layoutPoolsLaw
end
end Go.Proofs.YtbommpjdbjfdjaaGreatDoor
