/- The law DisasmAll holds: for every input it returns true and leaves its arguments as they were; its package variables hold what the row lists. -/
import Derived.Test.YtfphlcngbllgoaaGreatDoorCards
import Derived.Test.YtfphlcngbllgoaaGreatDoorTie
import Derived.Test.YtfphlcngbllgoaaGreatDoorAA4
import Derived.Lay
set_option linter.all false
namespace Go.Proofs.YtfphlcngbllgoaaGreatDoor
open Go Go.ChangeShapes Go.WideShapes Go.ChangeAt Go.RowKit
noncomputable section
set_option maxRecDepth 100000
namespace disasmAllLaw
theorem q0 : OpenClaim.wf (OpenSpec.ofChange Rows.disasmAllSpec) Rows.disasmAllRow = true := by kernel_rfl
theorem q1 : laidOutB Tryz.checked.prog = true := by kernel_rfl
theorem q2 : mapsRowed Tryz.checked.prog = true := by kernel_rfl
theorem q3 : (Tryz.f3.params.all fun x => Tryz.checked.prog.readableRec x) = true := by kernel_rfl
theorem q4 : namedTie Tryz.checked.prog Rows.disasmAllRow.named Rows.disasmAllSpec.vars = true := by kernel_rfl
theorem q5 : (Rows.disasmAllRow.inPlace == Tryz.checked.prog.inPlace 3) = true := by kernel_rfl
theorem q6 : (Rows.disasmAllRow.unfollowed == Tryz.checked.prog.unfollowed 3) = true := by kernel_rfl
theorem q7 : (Rows.disasmAllRow.recurses == Tryz.checked.prog.recurses 3) = true := by kernel_rfl
theorem q8 : (Rows.disasmAllRow.named == Tryz.checked.prog.varsNamed 3) = true := by kernel_rfl
theorem q9 : (Rows.disasmAllRow.plainKeys == Tryz.checked.prog.plainKeys) = true := by kernel_rfl
theorem q10 : (Rows.disasmAllRow.lifted == Tryz.checked.prog.liftsFinal) = true := by kernel_rfl
theorem q11 : (Rows.disasmAllSpec.vars.all fun x => Tryz.checked.prog.varReadable x) = true := by kernel_rfl
theorem q12 : Tryz.checked.prog.stopsHeard = true := by kernel_rfl
theorem q13 : Tryz.checked.prog.mayEnter = true := by kernel_rfl
theorem q14 : (Tryz.checked.prog.make == some Rows.disasmAllRow.make) = true := by kernel_rfl
end disasmAllLaw
end
end Go.Proofs.YtfphlcngbllgoaaGreatDoor
