/- The law AsmAll holds: for every input it returns true and leaves its arguments as they were; its package variables hold what the row lists. -/
import Derived.Test.YtfhnodllolpjgaaGreatDoorCards
import Derived.Test.YtfhnodllolpjgaaGreatDoorTie
import Derived.Test.YtfhnodllolpjgaaGreatDoorA2
import Derived.Test.YtfhnodllolpjgaaGreatDoorE5
import Derived.Test.YtfhnodllolpjgaaGreatDoorA5
import Derived.SevenTiedAt
import Derived.ProofKit
import Derived.Lay
import Derived.Test.YtfhnodllolpjgaaGreatDoorALawAsmAllR
import Derived.Test.YtfhnodllolpjgaaGreatDoorALawAsmAllS
set_option linter.all false
namespace Go.Proofs.YtfhnodllolpjgaaGreatDoor
open Go Go.ChangeShapes Go.WideShapes Go.ChangeAt Go.RowKit
noncomputable section
set_option maxRecDepth 100000
namespace asmAllLaw
end asmAllLaw
theorem asmAll_holds:Rows.AsmAllCardSaid:=
 Claim7.holds_tied_plain_at .later [] [.data,.data,.data,.data,.sentinel,.sentinel,.listed,.data,.mapped,.pinned] true (true, "a382c50635222c4296c433459698ef7b8b8b3945e160d9f1d0ac39838ab0ed67") true
  asmAllLaw.row (fun _ h=>by cases h) (by exact asmAllLaw.c0) (fun _ h=>by cases h) asmAll_row_tie rfl ⟨rfl,rfl⟩ (by exact asmAllLaw.c1) rfl
  (fun f fn hf hfn=>by
   obtain rfl:f=3:=Pw ((show Tryz.prog.funcNamed "rivet/rivetlaw21.AsmAll" = some 3 by exact asmAllLaw.c2).symm.trans hf) |>.symm
   obtain rfl:fn=Tryz.f3:=(Pw (Tryz.func3.symm.trans hfn)).symm
   exact ⟨by exact asmAllLaw.c3,fun j t ht=>by
    rw [Tryz.params3] at ht
    have hm:t∈[9,22]:=by simpa using Array.mem_of_getElem? ht
    have hall:([9,22].all fun u=>!Tryz.prog.wantsStandIn u)=true:=by exact asmAllLaw.c4
    exact (show Tryz.prog.wantsStandIn t=false by simpa using PX.1 hall t hm)⟩)
  (by exact asmAllLaw.c5)
end
end Go.Proofs.YtfhnodllolpjgaaGreatDoor
