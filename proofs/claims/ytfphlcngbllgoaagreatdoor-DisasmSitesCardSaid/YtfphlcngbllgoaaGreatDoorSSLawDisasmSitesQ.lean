/- The law DisasmSites holds: for every input it returns true and leaves its arguments as they were; its package variables hold what the row lists. -/
import Derived.Test.YtfphlcngbllgoaaGreatDoorCards
import Derived.Test.YtfphlcngbllgoaaGreatDoorTie
import Derived.Test.YtfphlcngbllgoaaGreatDoorSS2
import Derived.Test.YtfphlcngbllgoaaGreatDoorS5
import Derived.Test.YtfphlcngbllgoaaGreatDoorSSPLaw23Sites
import Derived.SevenTiedAt
import Derived.ProofKit
import Derived.Lay
set_option linter.all false
namespace Go.Proofs.YtfphlcngbllgoaaGreatDoor
open Go Go.ChangeShapes Go.WideShapes Go.ChangeAt Go.RowKit
noncomputable section
set_option maxRecDepth 100000
namespace disasmSitesLaw
theorem q0 : OpenClaim.wf (OpenSpec.ofChange Rows.disasmSitesSpec) Rows.disasmSitesRow = true := by kernel_rfl
theorem q1 : laidOutB Tryz.checked.prog = true := by kernel_rfl
theorem q2 : mapsRowed Tryz.checked.prog = true := by kernel_rfl
theorem q3 : (Tryz.f7.params.all fun x => Tryz.checked.prog.readableRec x) = true := by kernel_rfl
theorem q4 : namedTie Tryz.checked.prog Rows.disasmSitesRow.named Rows.disasmSitesSpec.vars = true := by kernel_rfl
theorem q5 : (Rows.disasmSitesRow.inPlace == Tryz.checked.prog.inPlace 7) = true := by kernel_rfl
theorem q6 : (Rows.disasmSitesRow.unfollowed == Tryz.checked.prog.unfollowed 7) = true := by kernel_rfl
theorem q7 : (Rows.disasmSitesRow.recurses == Tryz.checked.prog.recurses 7) = true := by kernel_rfl
theorem q8 : (Rows.disasmSitesRow.named == Tryz.checked.prog.varsNamed 7) = true := by kernel_rfl
theorem q9 : (Rows.disasmSitesRow.plainKeys == Tryz.checked.prog.plainKeys) = true := by kernel_rfl
theorem q10 : (Rows.disasmSitesRow.lifted == Tryz.checked.prog.liftsFinal) = true := by kernel_rfl
theorem q11 : (Rows.disasmSitesSpec.vars.all fun x => Tryz.checked.prog.varReadable x) = true := by kernel_rfl
theorem q12 : Tryz.checked.prog.stopsHeard = true := by kernel_rfl
theorem q13 : Tryz.checked.prog.mayEnter = true := by kernel_rfl
theorem q14 : (Tryz.checked.prog.make == some Rows.disasmSitesRow.make) = true := by kernel_rfl
end disasmSitesLaw
end
end Go.Proofs.YtfphlcngbllgoaaGreatDoor
