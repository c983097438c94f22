/- The law AsmInstr holds: for every input it returns true and leaves its arguments as they were; its package variables hold what the row lists. -/
import Derived.Test.YtbommpjdbjfdjaaGreatDoorCards
import Derived.Test.YtbommpjdbjfdjaaGreatDoorTie
import Derived.Test.YtbommpjdbjfdjaaGreatDoorI2
import Derived.Test.YtbommpjdbjfdjaaGreatDoorC5
import Derived.Test.YtbommpjdbjfdjaaGreatDoorI3
import Derived.SevenTiedAt
import Derived.ProofKit
import Derived.Lay
set_option linter.all false
namespace Go.Proofs.YtbommpjdbjfdjaaGreatDoor
open Go Go.ChangeShapes Go.WideShapes Go.ChangeAt Go.RowKit
noncomputable section
set_option maxRecDepth 100000
namespace asmInstrLaw
theorem c0 : OpenClaim.wfByText (OpenSpec.ofChange Rows.asmInstrSpec) Rows.asmInstrRow = true := by kernel_rfl
theorem c1 : Tryz.checked.prog.mainIs = some ((true, "0a8f62c8b9b1fa6bf4fea3129c7d14114735e60111d308f35feeef333663f4d0").1, (true, "0a8f62c8b9b1fa6bf4fea3129c7d14114735e60111d308f35feeef333663f4d0").2.toList) := by kernel_rfl
theorem c2 : Tryz.prog.funcNamed "rivet/rivetlaw21.AsmInstr" = some 10 := by kernel_rfl
theorem c3 : true = Tryz.checked.prog.looks [] := by kernel_rfl
theorem c4 : ([68].all fun u => !Tryz.prog.wantsStandIn u) = true := by kernel_rfl
theorem c5 : false = Rows.asmInstrRow.goesBy Tryz.checked.prog := by kernel_rfl
end asmInstrLaw
end
end Go.Proofs.YtbommpjdbjfdjaaGreatDoor
