/- The law DisasmWords holds: for every input it returns true and leaves its arguments as they were; its package variables hold what the row lists. -/
import Derived.Test.YtfphlcngbllgoaaGreatDoorCards
import Derived.Test.YtfphlcngbllgoaaGreatDoorTie
import Derived.Test.YtfphlcngbllgoaaGreatDoorWW1
import Derived.Test.YtfphlcngbllgoaaGreatDoorW5
import Derived.SevenTiedAt
import Derived.ProofKit
import Derived.Lay
import Derived.Test.YtfphlcngbllgoaaGreatDoorWWLawDisasmWordsR
import Derived.Test.YtfphlcngbllgoaaGreatDoorWWLawDisasmWordsS
set_option linter.all false
namespace Go.Proofs.YtfphlcngbllgoaaGreatDoor
open Go Go.ChangeShapes Go.WideShapes Go.ChangeAt Go.RowKit
noncomputable section
set_option maxRecDepth 100000
namespace disasmWordsLaw
end disasmWordsLaw
theorem disasmWords_holds:Rows.DisasmWordsCardSaid:=
 Claim7.holds_tied_plain_at .later [] [.data,.data,.data,.data,.sentinel,.sentinel,.listed,.data,.mapped,.pinned] true (true, "645dd2ce96fa8bba86192b52b7716cedb88a3371d9a1331bb7252159c239bfb2") true
  disasmWordsLaw.row (fun _ h=>by cases h) (by exact disasmWordsLaw.c0) (fun _ h=>by cases h) disasmWords_row_tie rfl ⟨rfl,rfl⟩ (by exact disasmWordsLaw.c1) rfl
  (fun f fn hf hfn=>by
   obtain rfl:f=4:=DN ((show Tryz.prog.funcNamed "rivet/rivetlaw23.DisasmWords" = some 4 by exact disasmWordsLaw.c2).symm.trans hf) |>.symm
   obtain rfl:fn=Tryz.f4:=(DN (Tryz.func4.symm.trans hfn)).symm
   exact ⟨by exact disasmWordsLaw.c3,fun j t ht=>by
    rw [Tryz.params4] at ht
    have hm:t∈[45]:=by simpa using Array.mem_of_getElem? ht
    have hall:([45].all fun u=>!Tryz.prog.wantsStandIn u)=true:=by exact disasmWordsLaw.c4
    exact (show Tryz.prog.wantsStandIn t=false by simpa using El.1 hall t hm)⟩)
  (by exact disasmWordsLaw.c5)
end
end Go.Proofs.YtfphlcngbllgoaaGreatDoor
