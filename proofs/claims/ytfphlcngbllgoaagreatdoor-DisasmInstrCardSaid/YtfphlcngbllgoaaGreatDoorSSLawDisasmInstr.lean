/- The law DisasmInstr holds: for every input it returns true and leaves its arguments as they were; its package variables hold what the row lists. -/
import Derived.Test.YtfphlcngbllgoaaGreatDoorCards
import Derived.Test.YtfphlcngbllgoaaGreatDoorTie
import Derived.Test.YtfphlcngbllgoaaGreatDoorSS2
import Derived.Test.YtfphlcngbllgoaaGreatDoorS5
import Derived.Test.YtfphlcngbllgoaaGreatDoorSSPLaw23Instr
import Derived.SevenTiedAt
import Derived.ProofKit
import Derived.Lay
import Derived.Test.YtfphlcngbllgoaaGreatDoorSSLawDisasmInstrR
import Derived.Test.YtfphlcngbllgoaaGreatDoorSSLawDisasmInstrS
set_option linter.all false
namespace Go.Proofs.YtfphlcngbllgoaaGreatDoor
open Go Go.ChangeShapes Go.WideShapes Go.ChangeAt Go.RowKit
noncomputable section
set_option maxRecDepth 100000
namespace disasmInstrLaw
end disasmInstrLaw
theorem disasmInstr_holds:Rows.DisasmInstrCardSaid:=
 Claim7.holds_tied_plain_at .later [] [.data,.data,.data,.data,.sentinel,.sentinel,.listed,.data,.mapped,.pinned] true (true, "645dd2ce96fa8bba86192b52b7716cedb88a3371d9a1331bb7252159c239bfb2") true
  disasmInstrLaw.row (fun _ h=>by cases h) (by exact disasmInstrLaw.c0) (fun _ h=>by cases h) disasmInstr_row_tie rfl ⟨rfl,rfl⟩ (by exact disasmInstrLaw.c1) rfl
  (fun f fn hf hfn=>by
   obtain rfl:f=6:=Ux ((show Tryz.prog.funcNamed "rivet/rivetlaw23.DisasmInstr" = some 6 by exact disasmInstrLaw.c2).symm.trans hf) |>.symm
   obtain rfl:fn=Tryz.f6:=(Ux (Tryz.func6.symm.trans hfn)).symm
   exact ⟨by exact disasmInstrLaw.c3,fun j t ht=>by
    rw [Tryz.params6] at ht
    have hm:t∈[51,48]:=by simpa using Array.mem_of_getElem? ht
    have hall:([51,48].all fun u=>!Tryz.prog.wantsStandIn u)=true:=by exact disasmInstrLaw.c4
    exact (show Tryz.prog.wantsStandIn t=false by simpa using UT.1 hall t hm)⟩)
  (by exact disasmInstrLaw.c5)
end
end Go.Proofs.YtfphlcngbllgoaaGreatDoor
