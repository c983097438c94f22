/- The law LayoutPlaces holds: for every input it returns true and leaves its arguments as they were; its package variables hold what the row lists. -/
import Derived.Test.YtbommpjdbjfdjaaGreatDoorCards
import Derived.Test.YtbommpjdbjfdjaaGreatDoorTie
import Derived.Test.YtbommpjdbjfdjaaGreatDoorL2
import Derived.Test.YtbommpjdbjfdjaaGreatDoorC5
import Derived.Test.YtbommpjdbjfdjaaGreatDoorLPLaw20Places
import Derived.SevenTiedAt
import Derived.ProofKit
import Derived.Lay
set_option linter.all false
namespace Go.Proofs.YtbommpjdbjfdjaaGreatDoor
open Go Go.ChangeShapes Go.WideShapes Go.ChangeAt Go.RowKit
noncomputable section
set_option maxRecDepth 100000
namespace layoutPlacesLaw
theorem q0 : OpenClaim.wf (OpenSpec.ofChange Rows.layoutPlacesSpec) Rows.layoutPlacesRow = true := by kernel_rfl
theorem q1 : laidOutB Tryz.checked.prog = true := by kernel_rfl
theorem q2 : mapsRowed Tryz.checked.prog = true := by kernel_rfl
theorem q3 : (Tryz.f4.params.all fun x => Tryz.checked.prog.readableRec x) = true := by kernel_rfl
theorem q4 : namedTie Tryz.checked.prog Rows.layoutPlacesRow.named Rows.layoutPlacesSpec.vars = true := by kernel_rfl
theorem q5 : (Rows.layoutPlacesRow.inPlace == Tryz.checked.prog.inPlace 4) = true := by kernel_rfl
theorem q6 : (Rows.layoutPlacesRow.unfollowed == Tryz.checked.prog.unfollowed 4) = true := by kernel_rfl
theorem q7 : (Rows.layoutPlacesRow.recurses == Tryz.checked.prog.recurses 4) = true := by kernel_rfl
theorem q8 : (Rows.layoutPlacesRow.named == Tryz.checked.prog.varsNamed 4) = true := by kernel_rfl
theorem q9 : (Rows.layoutPlacesRow.plainKeys == Tryz.checked.prog.plainKeys) = true := by kernel_rfl
theorem q10 : (Rows.layoutPlacesRow.lifted == Tryz.checked.prog.liftsFinal) = true := by kernel_rfl
theorem q11 : (Rows.layoutPlacesSpec.vars.all fun x => Tryz.checked.prog.varReadable x) = true := by kernel_rfl
theorem q12 : Tryz.checked.prog.stopsHeard = true := by kernel_rfl
theorem q13 : Tryz.checked.prog.mayEnter = true := by kernel_rfl
theorem q14 : (Tryz.checked.prog.make == some Rows.layoutPlacesRow.make) = true := by kernel_rfl
end layoutPlacesLaw
end
end Go.Proofs.YtbommpjdbjfdjaaGreatDoor
