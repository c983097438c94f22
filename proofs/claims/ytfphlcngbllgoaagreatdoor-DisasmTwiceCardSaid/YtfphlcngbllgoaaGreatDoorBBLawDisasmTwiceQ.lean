/- The law DisasmTwice holds: for every input it returns true and leaves its arguments as they were; its package variables hold what the row lists. -/
import Derived.Test.YtfphlcngbllgoaaGreatDoorCards
import Derived.Test.YtfphlcngbllgoaaGreatDoorTie
import Derived.Test.YtfphlcngbllgoaaGreatDoorBBPLaw23Twice
import Derived.Lay
set_option linter.all false
namespace Go.Proofs.YtfphlcngbllgoaaGreatDoor
open Go Go.ChangeShapes Go.WideShapes Go.ChangeAt Go.RowKit
noncomputable section
set_option maxRecDepth 100000
namespace disasmTwiceLaw
theorem q0 : OpenClaim.wf (OpenSpec.ofChange Rows.disasmTwiceSpec) Rows.disasmTwiceRow = true := by kernel_rfl
theorem q1 : laidOutB Tryz.checked.prog = true := by kernel_rfl
theorem q2 : mapsRowed Tryz.checked.prog = true := by kernel_rfl
theorem q3 : (Tryz.f5.params.all fun x => Tryz.checked.prog.readableRec x) = true := by kernel_rfl
theorem q4 : namedTie Tryz.checked.prog Rows.disasmTwiceRow.named Rows.disasmTwiceSpec.vars = true := by kernel_rfl
theorem q5 : (Rows.disasmTwiceRow.inPlace == Tryz.checked.prog.inPlace 5) = true := by kernel_rfl
theorem q6 : (Rows.disasmTwiceRow.unfollowed == Tryz.checked.prog.unfollowed 5) = true := by kernel_rfl
theorem q7 : (Rows.disasmTwiceRow.recurses == Tryz.checked.prog.recurses 5) = true := by kernel_rfl
theorem q8 : (Rows.disasmTwiceRow.named == Tryz.checked.prog.varsNamed 5) = true := by kernel_rfl
theorem q9 : (Rows.disasmTwiceRow.plainKeys == Tryz.checked.prog.plainKeys) = true := by kernel_rfl
theorem q10 : (Rows.disasmTwiceRow.lifted == Tryz.checked.prog.liftsFinal) = true := by kernel_rfl
theorem q11 : (Rows.disasmTwiceSpec.vars.all fun x => Tryz.checked.prog.varReadable x) = true := by kernel_rfl
theorem q12 : Tryz.checked.prog.stopsHeard = true := by kernel_rfl
theorem q13 : Tryz.checked.prog.mayEnter = true := by kernel_rfl
theorem q14 : (Tryz.checked.prog.make == some Rows.disasmTwiceRow.make) = true := by kernel_rfl
end disasmTwiceLaw
end
end Go.Proofs.YtfphlcngbllgoaaGreatDoor
