/- The law DisasmAll holds: for every input it returns true and leaves its arguments as they were; its package variables hold what the row lists. -/
import Derived.Test.YtfphlcngbllgoaaGreatDoorCards
import Derived.Test.YtfphlcngbllgoaaGreatDoorTie
import Derived.Test.YtfphlcngbllgoaaGreatDoorAA4
import Derived.Lay
set_option linter.all false
namespace Go.Proofs.YtfphlcngbllgoaaGreatDoor
open Go Go.ChangeShapes Go.WideShapes Go.ChangeAt Go.RowKit
noncomputable section
set_option maxRecDepth 100000
namespace disasmAllLaw
theorem c0 : OpenClaim.wfByText (OpenSpec.ofChange Rows.disasmAllSpec) Rows.disasmAllRow = true := by kernel_rfl
theorem c1 : Tryz.checked.prog.mainIs = some ((true, "645dd2ce96fa8bba86192b52b7716cedb88a3371d9a1331bb7252159c239bfb2").1, (true, "645dd2ce96fa8bba86192b52b7716cedb88a3371d9a1331bb7252159c239bfb2").2.toList) := by kernel_rfl
theorem c2 : Tryz.prog.funcNamed "rivet/rivetlaw23.DisasmAll" = some 3 := by kernel_rfl
theorem c3 : true = Tryz.checked.prog.looks [] := by kernel_rfl
theorem c4 : ([26,3].all fun u => !Tryz.prog.wantsStandIn u) = true := by kernel_rfl
theorem c5 : false = Rows.disasmAllRow.goesBy Tryz.checked.prog := by kernel_rfl
end disasmAllLaw
end
end Go.Proofs.YtfphlcngbllgoaaGreatDoor
