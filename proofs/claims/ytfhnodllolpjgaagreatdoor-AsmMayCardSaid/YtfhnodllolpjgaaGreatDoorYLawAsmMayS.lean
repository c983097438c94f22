/- The law AsmMay holds: for every input it returns true and leaves its arguments as they were; its package variables hold what the row lists. -/
import Derived.Test.YtfhnodllolpjgaaGreatDoorCards
import Derived.Test.YtfhnodllolpjgaaGreatDoorTie
import Derived.Test.YtfhnodllolpjgaaGreatDoorY2
import Derived.Test.YtfhnodllolpjgaaGreatDoorH5
import Derived.Test.YtfhnodllolpjgaaGreatDoorY4
import Derived.SevenTiedAt
import Derived.ProofKit
import Derived.Lay
set_option linter.all false
namespace Go.Proofs.YtfhnodllolpjgaaGreatDoor
open Go Go.ChangeShapes Go.WideShapes Go.ChangeAt Go.RowKit
noncomputable section
set_option maxRecDepth 100000
namespace asmMayLaw
theorem c0 : OpenClaim.wfByText (OpenSpec.ofChange Rows.asmMaySpec) Rows.asmMayRow = true := by kernel_rfl
theorem c1 : Tryz.checked.prog.mainIs = some ((true, "a382c50635222c4296c433459698ef7b8b8b3945e160d9f1d0ac39838ab0ed67").1, (true, "a382c50635222c4296c433459698ef7b8b8b3945e160d9f1d0ac39838ab0ed67").2.toList) := by kernel_rfl
theorem c2 : Tryz.prog.funcNamed "rivet/rivetlaw21.AsmMay" = some 6 := by kernel_rfl
theorem c3 : true = Tryz.checked.prog.looks [] := by kernel_rfl
theorem c4 : ([9].all fun u => !Tryz.prog.wantsStandIn u) = true := by kernel_rfl
theorem c5 : false = Rows.asmMayRow.goesBy Tryz.checked.prog := by kernel_rfl
end asmMayLaw
end
end Go.Proofs.YtfhnodllolpjgaaGreatDoor
