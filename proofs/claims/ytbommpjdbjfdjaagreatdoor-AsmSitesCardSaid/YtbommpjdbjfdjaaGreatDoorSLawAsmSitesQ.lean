/- The law AsmSites holds: for every input it returns true and leaves its arguments as they were; its package variables hold what the row lists. -/
import Derived.Test.YtbommpjdbjfdjaaGreatDoorCards
import Derived.Test.YtbommpjdbjfdjaaGreatDoorTie
import Derived.Test.YtbommpjdbjfdjaaGreatDoorS2
import Derived.Test.YtbommpjdbjfdjaaGreatDoorC5
import Derived.Test.YtbommpjdbjfdjaaGreatDoorS3
import Derived.SevenTiedAt
import Derived.ProofKit
import Derived.Lay
set_option linter.all false
namespace Go.Proofs.YtbommpjdbjfdjaaGreatDoor
open Go Go.ChangeShapes Go.WideShapes Go.ChangeAt Go.RowKit
noncomputable section
set_option maxRecDepth 100000
namespace asmSitesLaw
theorem q0 : OpenClaim.wf (OpenSpec.ofChange Rows.asmSitesSpec) Rows.asmSitesRow = true := by kernel_rfl
theorem q1 : laidOutB Tryz.checked.prog = true := by kernel_rfl
theorem q2 : mapsRowed Tryz.checked.prog = true := by kernel_rfl
theorem q3 : (Tryz.f9.params.all fun x => Tryz.checked.prog.readableRec x) = true := by kernel_rfl
theorem q4 : namedTie Tryz.checked.prog Rows.asmSitesRow.named Rows.asmSitesSpec.vars = true := by kernel_rfl
theorem q5 : (Rows.asmSitesRow.inPlace == Tryz.checked.prog.inPlace 9) = true := by kernel_rfl
theorem q6 : (Rows.asmSitesRow.unfollowed == Tryz.checked.prog.unfollowed 9) = true := by kernel_rfl
theorem q7 : (Rows.asmSitesRow.recurses == Tryz.checked.prog.recurses 9) = true := by kernel_rfl
theorem q8 : (Rows.asmSitesRow.named == Tryz.checked.prog.varsNamed 9) = true := by kernel_rfl
theorem q9 : (Rows.asmSitesRow.plainKeys == Tryz.checked.prog.plainKeys) = true := by kernel_rfl
theorem q10 : (Rows.asmSitesRow.lifted == Tryz.checked.prog.liftsFinal) = true := by kernel_rfl
theorem q11 : (Rows.asmSitesSpec.vars.all fun x => Tryz.checked.prog.varReadable x) = true := by kernel_rfl
theorem q12 : Tryz.checked.prog.stopsHeard = true := by kernel_rfl
theorem q13 : Tryz.checked.prog.mayEnter = true := by kernel_rfl
theorem q14 : (Tryz.checked.prog.make == some Rows.asmSitesRow.make) = true := by kernel_rfl
end asmSitesLaw
end
end Go.Proofs.YtbommpjdbjfdjaaGreatDoor
