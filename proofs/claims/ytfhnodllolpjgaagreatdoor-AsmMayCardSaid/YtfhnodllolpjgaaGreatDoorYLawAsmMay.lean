/- The law AsmMay holds: for every input it returns true and leaves its arguments as they were; its package variables hold what the row lists. -/
import Derived.Test.YtfhnodllolpjgaaGreatDoorCards
import Derived.Test.YtfhnodllolpjgaaGreatDoorTie
import Derived.Test.YtfhnodllolpjgaaGreatDoorY2
import Derived.Test.YtfhnodllolpjgaaGreatDoorH5
import Derived.Test.YtfhnodllolpjgaaGreatDoorY4
import Derived.SevenTiedAt
import Derived.ProofKit
import Derived.Lay
import Derived.Test.YtfhnodllolpjgaaGreatDoorYLawAsmMayR
import Derived.Test.YtfhnodllolpjgaaGreatDoorYLawAsmMayS
set_option linter.all false
namespace Go.Proofs.YtfhnodllolpjgaaGreatDoor
open Go Go.ChangeShapes Go.WideShapes Go.ChangeAt Go.RowKit
noncomputable section
set_option maxRecDepth 100000
namespace asmMayLaw
end asmMayLaw
theorem asmMay_holds:Rows.AsmMayCardSaid:=
 Claim7.holds_tied_plain_at .later [] [.data,.data,.data,.data,.sentinel,.sentinel,.listed,.data,.mapped,.pinned] true (true, "a382c50635222c4296c433459698ef7b8b8b3945e160d9f1d0ac39838ab0ed67") true
  asmMayLaw.row (fun _ h=>by cases h) (by exact asmMayLaw.c0) (fun _ h=>by cases h) asmMay_row_tie rfl ⟨rfl,rfl⟩ (by exact asmMayLaw.c1) rfl
  (fun f fn hf hfn=>by
   obtain rfl:f=6:=NE ((show Tryz.prog.funcNamed "rivet/rivetlaw21.AsmMay" = some 6 by exact asmMayLaw.c2).symm.trans hf) |>.symm
   obtain rfl:fn=Tryz.f6:=(NE (Tryz.func6.symm.trans hfn)).symm
   exact ⟨by exact asmMayLaw.c3,fun j t ht=>by
    rw [Tryz.params6] at ht
    have hm:t∈[9]:=by simpa using Array.mem_of_getElem? ht
    have hall:([9].all fun u=>!Tryz.prog.wantsStandIn u)=true:=by exact asmMayLaw.c4
    exact (show Tryz.prog.wantsStandIn t=false by simpa using Oe.1 hall t hm)⟩)
  (by exact asmMayLaw.c5)
end
end Go.Proofs.YtfhnodllolpjgaaGreatDoor
