/- The law DisasmInstr holds: for every input it returns true and leaves its arguments as they were; its package variables hold what the row lists. -/
import Derived.Test.YtfphlcngbllgoaaGreatDoorCards
import Derived.Test.YtfphlcngbllgoaaGreatDoorTie
import Derived.Test.YtfphlcngbllgoaaGreatDoorSS2
import Derived.Test.YtfphlcngbllgoaaGreatDoorS5
import Derived.Test.YtfphlcngbllgoaaGreatDoorSSPLaw23Instr
import Derived.SevenTiedAt
import Derived.ProofKit
import Derived.Lay
set_option linter.all false
namespace Go.Proofs.YtfphlcngbllgoaaGreatDoor
open Go Go.ChangeShapes Go.WideShapes Go.ChangeAt Go.RowKit
noncomputable section
set_option maxRecDepth 100000
namespace disasmInstrLaw
theorem q0 : OpenClaim.wf (OpenSpec.ofChange Rows.disasmInstrSpec) Rows.disasmInstrRow = true := by kernel_rfl
theorem q1 : laidOutB Tryz.checked.prog = true := by kernel_rfl
theorem q2 : mapsRowed Tryz.checked.prog = true := by kernel_rfl
theorem q3 : (Tryz.f6.params.all fun x => Tryz.checked.prog.readableRec x) = true := by kernel_rfl
theorem q4 : namedTie Tryz.checked.prog Rows.disasmInstrRow.named Rows.disasmInstrSpec.vars = true := by kernel_rfl
theorem q5 : (Rows.disasmInstrRow.inPlace == Tryz.checked.prog.inPlace 6) = true := by kernel_rfl
theorem q6 : (Rows.disasmInstrRow.unfollowed == Tryz.checked.prog.unfollowed 6) = true := by kernel_rfl
theorem q7 : (Rows.disasmInstrRow.recurses == Tryz.checked.prog.recurses 6) = true := by kernel_rfl
theorem q8 : (Rows.disasmInstrRow.named == Tryz.checked.prog.varsNamed 6) = true := by kernel_rfl
theorem q9 : (Rows.disasmInstrRow.plainKeys == Tryz.checked.prog.plainKeys) = true := by kernel_rfl
theorem q10 : (Rows.disasmInstrRow.lifted == Tryz.checked.prog.liftsFinal) = true := by kernel_rfl
theorem q11 : (Rows.disasmInstrSpec.vars.all fun x => Tryz.checked.prog.varReadable x) = true := by kernel_rfl
theorem q12 : Tryz.checked.prog.stopsHeard = true := by kernel_rfl
theorem q13 : Tryz.checked.prog.mayEnter = true := by kernel_rfl
theorem q14 : (Tryz.checked.prog.make == some Rows.disasmInstrRow.make) = true := by kernel_rfl
end disasmInstrLaw
end
end Go.Proofs.YtfphlcngbllgoaaGreatDoor
