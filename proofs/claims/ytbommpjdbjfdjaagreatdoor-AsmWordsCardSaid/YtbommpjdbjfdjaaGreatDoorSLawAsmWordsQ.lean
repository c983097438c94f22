/- The law AsmWords holds: for every input it returns true and leaves its arguments as they were; its package variables hold what the row lists. -/
import Derived.Test.YtbommpjdbjfdjaaGreatDoorCards
import Derived.Test.YtbommpjdbjfdjaaGreatDoorTie
import Derived.Test.YtbommpjdbjfdjaaGreatDoorS2
import Derived.Test.YtbommpjdbjfdjaaGreatDoorC5
import Derived.Test.YtbommpjdbjfdjaaGreatDoorSPLaw21Words
import Derived.SevenTiedAt
import Derived.ProofKit
import Derived.Lay
set_option linter.all false
namespace Go.Proofs.YtbommpjdbjfdjaaGreatDoor
open Go Go.ChangeShapes Go.WideShapes Go.ChangeAt Go.RowKit
noncomputable section
set_option maxRecDepth 100000
namespace asmWordsLaw
theorem q0 : OpenClaim.wf (OpenSpec.ofChange Rows.asmWordsSpec) Rows.asmWordsRow = true := by kernel_rfl
theorem q1 : laidOutB Tryz.checked.prog = true := by kernel_rfl
theorem q2 : mapsRowed Tryz.checked.prog = true := by kernel_rfl
theorem q3 : (Tryz.f12.params.all fun x => Tryz.checked.prog.readableRec x) = true := by kernel_rfl
theorem q4 : namedTie Tryz.checked.prog Rows.asmWordsRow.named Rows.asmWordsSpec.vars = true := by kernel_rfl
theorem q5 : (Rows.asmWordsRow.inPlace == Tryz.checked.prog.inPlace 12) = true := by kernel_rfl
theorem q6 : (Rows.asmWordsRow.unfollowed == Tryz.checked.prog.unfollowed 12) = true := by kernel_rfl
theorem q7 : (Rows.asmWordsRow.recurses == Tryz.checked.prog.recurses 12) = true := by kernel_rfl
theorem q8 : (Rows.asmWordsRow.named == Tryz.checked.prog.varsNamed 12) = true := by kernel_rfl
theorem q9 : (Rows.asmWordsRow.plainKeys == Tryz.checked.prog.plainKeys) = true := by kernel_rfl
theorem q10 : (Rows.asmWordsRow.lifted == Tryz.checked.prog.liftsFinal) = true := by kernel_rfl
theorem q11 : (Rows.asmWordsSpec.vars.all fun x => Tryz.checked.prog.varReadable x) = true := by kernel_rfl
theorem q12 : Tryz.checked.prog.stopsHeard = true := by kernel_rfl
theorem q13 : Tryz.checked.prog.mayEnter = true := by kernel_rfl
theorem q14 : (Tryz.checked.prog.make == some Rows.asmWordsRow.make) = true := by kernel_rfl
end asmWordsLaw
end
end Go.Proofs.YtbommpjdbjfdjaaGreatDoor
