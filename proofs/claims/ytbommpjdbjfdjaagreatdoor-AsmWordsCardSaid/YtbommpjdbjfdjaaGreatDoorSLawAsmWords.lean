/- The law AsmWords holds: for every input it returns true and leaves its arguments as they were; its package variables hold what the row lists. -/
import Derived.Test.YtbommpjdbjfdjaaGreatDoorCards
import Derived.Test.YtbommpjdbjfdjaaGreatDoorTie
import Derived.Test.YtbommpjdbjfdjaaGreatDoorS2
import Derived.Test.YtbommpjdbjfdjaaGreatDoorC5
import Derived.Test.YtbommpjdbjfdjaaGreatDoorSPLaw21Words
import Derived.SevenTiedAt
import Derived.ProofKit
import Derived.Lay
import Derived.Test.YtbommpjdbjfdjaaGreatDoorSLawAsmWordsR
import Derived.Test.YtbommpjdbjfdjaaGreatDoorSLawAsmWordsS
set_option linter.all false
namespace Go.Proofs.YtbommpjdbjfdjaaGreatDoor
open Go Go.ChangeShapes Go.WideShapes Go.ChangeAt Go.RowKit
noncomputable section
set_option maxRecDepth 100000
namespace asmWordsLaw
end asmWordsLaw
theorem asmWords_holds:Rows.AsmWordsCardSaid:=
 Claim7.holds_tied_plain_at .later [] [.data,.data,.data,.data,.sentinel,.sentinel,.listed,.data,.mapped,.pinned] true (true, "0a8f62c8b9b1fa6bf4fea3129c7d14114735e60111d308f35feeef333663f4d0") true
  asmWordsLaw.row (fun _ h=>by cases h) (by exact asmWordsLaw.c0) (fun _ h=>by cases h) asmWords_row_tie rfl ⟨rfl,rfl⟩ (by exact asmWordsLaw.c1) rfl
  (fun f fn hf hfn=>by
   obtain rfl:f=12:=Option.some.inj ((show Tryz.prog.funcNamed "rivet/rivetlaw21.AsmWords" = some 12 by exact asmWordsLaw.c2).symm.trans hf) |>.symm
   obtain rfl:fn=Tryz.f12:=(Option.some.inj (Tryz.func12.symm.trans hfn)).symm
   exact ⟨by exact asmWordsLaw.c3,fun j t ht=>by
    rw [Tryz.params12] at ht
    have hm:t∈[22]:=by simpa using Array.mem_of_getElem? ht
    have hall:([22].all fun u=>!Tryz.prog.wantsStandIn u)=true:=by exact asmWordsLaw.c4
    exact (show Tryz.prog.wantsStandIn t=false by simpa using List.all_eq_true.1 hall t hm)⟩)
  (by exact asmWordsLaw.c5)
end
end Go.Proofs.YtbommpjdbjfdjaaGreatDoor
