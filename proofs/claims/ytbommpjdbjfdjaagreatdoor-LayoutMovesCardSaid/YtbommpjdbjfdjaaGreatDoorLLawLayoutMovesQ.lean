/- The law LayoutMoves holds: for every input it returns true and leaves its arguments as they were; its package variables hold what the row lists. -/
import Derived.Test.YtbommpjdbjfdjaaGreatDoorCards
import Derived.Test.YtbommpjdbjfdjaaGreatDoorTie
import Derived.Test.YtbommpjdbjfdjaaGreatDoorL2
import Derived.Test.YtbommpjdbjfdjaaGreatDoorC5
import Derived.Test.YtbommpjdbjfdjaaGreatDoorLPLaw20Moves
import Derived.SevenTiedAt
import Derived.ProofKit
import Derived.Lay
set_option linter.all false
namespace Go.Proofs.YtbommpjdbjfdjaaGreatDoor
open Go Go.ChangeShapes Go.WideShapes Go.ChangeAt Go.RowKit
noncomputable section
set_option maxRecDepth 100000
namespace layoutMovesLaw
theorem q0 : OpenClaim.wf (OpenSpec.ofChange Rows.layoutMovesSpec) Rows.layoutMovesRow = true := by kernel_rfl
theorem q1 : laidOutB Tryz.checked.prog = true := by kernel_rfl
theorem q2 : mapsRowed Tryz.checked.prog = true := by kernel_rfl
theorem q3 : (Tryz.f6.params.all fun x => Tryz.checked.prog.readableRec x) = true := by kernel_rfl
theorem q4 : namedTie Tryz.checked.prog Rows.layoutMovesRow.named Rows.layoutMovesSpec.vars = true := by kernel_rfl
theorem q5 : (Rows.layoutMovesRow.inPlace == Tryz.checked.prog.inPlace 6) = true := by kernel_rfl
theorem q6 : (Rows.layoutMovesRow.unfollowed == Tryz.checked.prog.unfollowed 6) = true := by kernel_rfl
theorem q7 : (Rows.layoutMovesRow.recurses == Tryz.checked.prog.recurses 6) = true := by kernel_rfl
theorem q8 : (Rows.layoutMovesRow.named == Tryz.checked.prog.varsNamed 6) = true := by kernel_rfl
theorem q9 : (Rows.layoutMovesRow.plainKeys == Tryz.checked.prog.plainKeys) = true := by kernel_rfl
theorem q10 : (Rows.layoutMovesRow.lifted == Tryz.checked.prog.liftsFinal) = true := by kernel_rfl
theorem q11 : (Rows.layoutMovesSpec.vars.all fun x => Tryz.checked.prog.varReadable x) = true := by kernel_rfl
theorem q12 : Tryz.checked.prog.stopsHeard = true := by kernel_rfl
theorem q13 : Tryz.checked.prog.mayEnter = true := by kernel_rfl
theorem q14 : (Tryz.checked.prog.make == some Rows.layoutMovesRow.make) = true := by kernel_rfl
end layoutMovesLaw
end
end Go.Proofs.YtbommpjdbjfdjaaGreatDoor
