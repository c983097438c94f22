/- The law AsmInstr holds: for every input it returns true and leaves its arguments as they were; its package variables hold what the row lists. -/
import Derived.Test.YtbommpjdbjfdjaaGreatDoorCards
import Derived.Test.YtbommpjdbjfdjaaGreatDoorTie
import Derived.Test.YtbommpjdbjfdjaaGreatDoorI2
import Derived.Test.YtbommpjdbjfdjaaGreatDoorC5
import Derived.Test.YtbommpjdbjfdjaaGreatDoorI3
import Derived.SevenTiedAt
import Derived.ProofKit
import Derived.Lay
import Derived.Test.YtbommpjdbjfdjaaGreatDoorILawAsmInstrR
import Derived.Test.YtbommpjdbjfdjaaGreatDoorILawAsmInstrS
set_option linter.all false
namespace Go.Proofs.YtbommpjdbjfdjaaGreatDoor
open Go Go.ChangeShapes Go.WideShapes Go.ChangeAt Go.RowKit
noncomputable section
set_option maxRecDepth 100000
namespace asmInstrLaw
end asmInstrLaw
theorem asmInstr_holds:Rows.AsmInstrCardSaid:=
 Claim7.holds_tied_plain_at .later [] [.data,.data,.data,.data,.sentinel,.sentinel,.listed,.data,.mapped,.pinned] true (true, "0a8f62c8b9b1fa6bf4fea3129c7d14114735e60111d308f35feeef333663f4d0") true
  asmInstrLaw.row (fun _ h=>by cases h) (by exact asmInstrLaw.c0) (fun _ h=>by cases h) asmInstr_row_tie rfl ⟨rfl,rfl⟩ (by exact asmInstrLaw.c1) rfl
  (fun f fn hf hfn=>by
   obtain rfl:f=10:=Option.some.inj ((show Tryz.prog.funcNamed "rivet/rivetlaw21.AsmInstr" = some 10 by exact asmInstrLaw.c2).symm.trans hf) |>.symm
   obtain rfl:fn=Tryz.f10:=(Option.some.inj (Tryz.func10.symm.trans hfn)).symm
   exact ⟨by exact asmInstrLaw.c3,fun j t ht=>by
    rw [Tryz.params10] at ht
    have hm:t∈[68]:=by simpa using Array.mem_of_getElem? ht
    have hall:([68].all fun u=>!Tryz.prog.wantsStandIn u)=true:=by exact asmInstrLaw.c4
    exact (show Tryz.prog.wantsStandIn t=false by simpa using List.all_eq_true.1 hall t hm)⟩)
  (by exact asmInstrLaw.c5)
end
end Go.Proofs.YtbommpjdbjfdjaaGreatDoor
