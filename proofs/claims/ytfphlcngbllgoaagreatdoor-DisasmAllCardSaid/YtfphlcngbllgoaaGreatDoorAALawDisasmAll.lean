/- The law DisasmAll holds: for every input it returns true and leaves its arguments as they were; its package variables hold what the row lists. -/
import Derived.Test.YtfphlcngbllgoaaGreatDoorCards
import Derived.Test.YtfphlcngbllgoaaGreatDoorTie
import Derived.Test.YtfphlcngbllgoaaGreatDoorAA4
import Derived.Lay
import Derived.Test.YtfphlcngbllgoaaGreatDoorAALawDisasmAllR
import Derived.Test.YtfphlcngbllgoaaGreatDoorAALawDisasmAllS
set_option linter.all false
namespace Go.Proofs.YtfphlcngbllgoaaGreatDoor
open Go Go.ChangeShapes Go.WideShapes Go.ChangeAt Go.RowKit
noncomputable section
set_option maxRecDepth 100000
namespace disasmAllLaw
end disasmAllLaw
theorem disasmAll_holds:Rows.DisasmAllCardSaid:=
 Claim7.holds_tied_plain_at .later [] [.data,.data,.data,.data,.sentinel,.sentinel,.listed,.data,.mapped,.pinned] true (true, "645dd2ce96fa8bba86192b52b7716cedb88a3371d9a1331bb7252159c239bfb2") true
  disasmAllLaw.row (fun _ h=>by cases h) (by exact disasmAllLaw.c0) (fun _ h=>by cases h) disasmAll_row_tie rfl ⟨rfl,rfl⟩ (by exact disasmAllLaw.c1) rfl
  (fun f fn hf hfn=>by
   obtain rfl:f=3:=NF ((show Tryz.prog.funcNamed "rivet/rivetlaw23.DisasmAll" = some 3 by exact disasmAllLaw.c2).symm.trans hf) |>.symm
   obtain rfl:fn=Tryz.f3:=(NF (Tryz.func3.symm.trans hfn)).symm
   exact ⟨by exact disasmAllLaw.c3,fun j t ht=>by
    rw [Tryz.params3] at ht
    have hm:t∈[26,3]:=by simpa using Array.mem_of_getElem? ht
    have hall:([26,3].all fun u=>!Tryz.prog.wantsStandIn u)=true:=by exact disasmAllLaw.c4
    exact (show Tryz.prog.wantsStandIn t=false by simpa using Oa.1 hall t hm)⟩)
  (by exact disasmAllLaw.c5)
end
end Go.Proofs.YtfphlcngbllgoaaGreatDoor
