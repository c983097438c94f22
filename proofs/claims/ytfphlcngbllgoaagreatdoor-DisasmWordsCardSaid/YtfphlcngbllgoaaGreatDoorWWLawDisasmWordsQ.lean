/- The law DisasmWords holds: for every input it returns true and leaves its arguments as they were; its package variables hold what the row lists. -/
import Derived.Test.YtfphlcngbllgoaaGreatDoorCards
import Derived.Test.YtfphlcngbllgoaaGreatDoorTie
import Derived.Test.YtfphlcngbllgoaaGreatDoorWW1
import Derived.Test.YtfphlcngbllgoaaGreatDoorW5
import Derived.SevenTiedAt
import Derived.ProofKit
import Derived.Lay
set_option linter.all false
namespace Go.Proofs.YtfphlcngbllgoaaGreatDoor
open Go Go.ChangeShapes Go.WideShapes Go.ChangeAt Go.RowKit
noncomputable section
set_option maxRecDepth 100000
namespace disasmWordsLaw
theorem q0 : OpenClaim.wf (OpenSpec.ofChange Rows.disasmWordsSpec) Rows.disasmWordsRow = true := by kernel_rfl
theorem q1 : laidOutB Tryz.checked.prog = true := by kernel_rfl
theorem q2 : mapsRowed Tryz.checked.prog = true := by kernel_rfl
theorem q3 : (Tryz.f4.params.all fun x => Tryz.checked.prog.readableRec x) = true := by kernel_rfl
theorem q4 : namedTie Tryz.checked.prog Rows.disasmWordsRow.named Rows.disasmWordsSpec.vars = true := by kernel_rfl
theorem q5 : (Rows.disasmWordsRow.inPlace == Tryz.checked.prog.inPlace 4) = true := by kernel_rfl
theorem q6 : (Rows.disasmWordsRow.unfollowed == Tryz.checked.prog.unfollowed 4) = true := by kernel_rfl
theorem q7 : (Rows.disasmWordsRow.recurses == Tryz.checked.prog.recurses 4) = true := by kernel_rfl
theorem q8 : (Rows.disasmWordsRow.named == Tryz.checked.prog.varsNamed 4) = true := by kernel_rfl
theorem q9 : (Rows.disasmWordsRow.plainKeys == Tryz.checked.prog.plainKeys) = true := by kernel_rfl
theorem q10 : (Rows.disasmWordsRow.lifted == Tryz.checked.prog.liftsFinal) = true := by kernel_rfl
theorem q11 : (Rows.disasmWordsSpec.vars.all fun x => Tryz.checked.prog.varReadable x) = true := by kernel_rfl
theorem q12 : Tryz.checked.prog.stopsHeard = true := by kernel_rfl
theorem q13 : Tryz.checked.prog.mayEnter = true := by kernel_rfl
theorem q14 : (Tryz.checked.prog.make == some Rows.disasmWordsRow.make) = true := by kernel_rfl
end disasmWordsLaw
end
end Go.Proofs.YtfphlcngbllgoaaGreatDoor
