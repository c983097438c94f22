/- The law DisasmTwice holds: for every input it returns true and leaves its arguments as they were; its package variables hold what the row lists. -/
import Derived.Test.YtfphlcngbllgoaaGreatDoorCards
import Derived.Test.YtfphlcngbllgoaaGreatDoorTie
import Derived.Test.YtfphlcngbllgoaaGreatDoorBBPLaw23Twice
import Derived.Lay
import Derived.Test.YtfphlcngbllgoaaGreatDoorBBLawDisasmTwiceR
import Derived.Test.YtfphlcngbllgoaaGreatDoorBBLawDisasmTwiceS
set_option linter.all false
namespace Go.Proofs.YtfphlcngbllgoaaGreatDoor
open Go Go.ChangeShapes Go.WideShapes Go.ChangeAt Go.RowKit
noncomputable section
set_option maxRecDepth 100000
namespace disasmTwiceLaw
end disasmTwiceLaw
theorem disasmTwice_holds:Rows.DisasmTwiceCardSaid:=
 Claim7.holds_tied_plain_at .later [] [.data,.data,.data,.data,.sentinel,.sentinel,.listed,.data,.mapped,.pinned] true (true, "645dd2ce96fa8bba86192b52b7716cedb88a3371d9a1331bb7252159c239bfb2") true
  disasmTwiceLaw.row (fun _ h=>by cases h) (by exact disasmTwiceLaw.c0) (fun _ h=>by cases h) disasmTwice_row_tie rfl ⟨rfl,rfl⟩ (by exact disasmTwiceLaw.c1) rfl
  (fun f fn hf hfn=>by
   obtain rfl:f=5:=U6 ((show Tryz.prog.funcNamed "rivet/rivetlaw23.DisasmTwice" = some 5 by exact disasmTwiceLaw.c2).symm.trans hf) |>.symm
   obtain rfl:fn=Tryz.f5:=(U6 (Tryz.func5.symm.trans hfn)).symm
   exact ⟨by exact disasmTwiceLaw.c3,fun j t ht=>by
    rw [Tryz.params5] at ht
    have hm:t∈[45]:=by simpa using Array.mem_of_getElem? ht
    have hall:([45].all fun u=>!Tryz.prog.wantsStandIn u)=true:=by exact disasmTwiceLaw.c4
    exact (show Tryz.prog.wantsStandIn t=false by simpa using Vq.1 hall t hm)⟩)
  (by exact disasmTwiceLaw.c5)
end
end Go.Proofs.YtfphlcngbllgoaaGreatDoor
