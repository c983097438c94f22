/- The law DisasmAll holds: for every input it returns true and leaves its arguments as they were; its package variables hold what the row lists. -/
import Derived.Test.YtfphlcngbllgoaaGreatDoorCards
import Derived.Test.YtfphlcngbllgoaaGreatDoorTie
import Derived.Test.YtfphlcngbllgoaaGreatDoorAA4
import Derived.Lay
set_option linter.all false
namespace Go.Proofs.YtfphlcngbllgoaaGreatDoor
open Go Go.ChangeShapes Go.WideShapes Go.ChangeAt Go.RowKit
noncomputable section
set_option maxRecDepth 100000
namespace disasmAllLaw
theorem own:ownKnob Tryz.prog.godebug=none:=by kernel_rfl
theorem laidOut:laidOutB Tryz.prog=true:=by kernel_rfl
abbrev LL:List (String×DataW Unit):=Rows.disasmAllRow.laid
def W0 (os:Os):World:=World.doorLaid Tryz.prog 400 os
def W1 (os:Os):World:=(W0 os).layVars Tryz.prog (LL.filter fun x=>["unicode/utf8.first"].contains x.1)
def BB:List Nat:=(((DataW.laidRun Tryz.prog (W0 default) 8 ((LL.filter fun x=>!["unicode/utf8.first"].contains x.1).map (·.1))).map (fun x=>x.2.map (·.block))).getD [])
theorem hos (os:Os):(W1 os).os=os:=by rw [W1,World.layVars_os]; rfl
theorem door_met (os:Os) (args:Array Value):laidMetH Tryz.prog Rows.disasmAllRow.laid ((W1 os).forCall (fun _ _=>0) ⟨#[],args,[]⟩).memory:=
 laidMetH_of_parts3 (fuel:=8) (laidMet_layVars (w0:=W0 os) ["unicode/utf8.first"] BB (by kernel_rfl) (by kernel_rfl) (by kernel_rfl) (LaidIn.of_run BB 8 (by kernel_rfl) (by kernel_rfl) (by kernel_rfl) (by kernel_rfl))) (by kernel_rfl) (by kernel_rfl)
end disasmAllLaw
end
end Go.Proofs.YtfphlcngbllgoaaGreatDoor
