/- The law AsmSame holds: for every input it returns true and leaves its arguments as they were; its package variables hold what the row lists. -/
import Derived.Test.YtfhnodllolpjgaaGreatDoorCards
import Derived.Test.YtfhnodllolpjgaaGreatDoorTie
import Derived.Test.YtfhnodllolpjgaaGreatDoorM2
import Derived.Test.YtfhnodllolpjgaaGreatDoorG5
import Derived.Test.YtfhnodllolpjgaaGreatDoorM4
import Derived.SevenTiedAt
import Derived.ProofKit
import Derived.Lay
import Derived.Test.YtfhnodllolpjgaaGreatDoorMLawAsmSameR
import Derived.Test.YtfhnodllolpjgaaGreatDoorMLawAsmSameS
set_option linter.all false
namespace Go.Proofs.YtfhnodllolpjgaaGreatDoor
open Go Go.ChangeShapes Go.WideShapes Go.ChangeAt Go.RowKit
noncomputable section
set_option maxRecDepth 100000
namespace asmSameLaw
end asmSameLaw
theorem asmSame_holds:Rows.AsmSameCardSaid:=
 Claim7.holds_tied_plain_at .later [] [.data,.data,.data,.data,.sentinel,.sentinel,.listed,.data,.mapped,.pinned] true (true, "a382c50635222c4296c433459698ef7b8b8b3945e160d9f1d0ac39838ab0ed67") true
  asmSameLaw.row (fun _ h=>by cases h) (by exact asmSameLaw.c0) (fun _ h=>by cases h) asmSame_row_tie rfl ⟨rfl,rfl⟩ (by exact asmSameLaw.c1) rfl
  (fun f fn hf hfn=>by
   obtain rfl:f=5:=Pp ((show Tryz.prog.funcNamed "rivet/rivetlaw21.AsmSame" = some 5 by exact asmSameLaw.c2).symm.trans hf) |>.symm
   obtain rfl:fn=Tryz.f5:=(Pp (Tryz.func5.symm.trans hfn)).symm
   exact ⟨by exact asmSameLaw.c3,fun j t ht=>by
    rw [Tryz.params5] at ht
    have hm:t∈[9]:=by simpa using Array.mem_of_getElem? ht
    have hall:([9].all fun u=>!Tryz.prog.wantsStandIn u)=true:=by exact asmSameLaw.c4
    exact (show Tryz.prog.wantsStandIn t=false by simpa using PT.1 hall t hm)⟩)
  (by exact asmSameLaw.c5)
end
end Go.Proofs.YtfhnodllolpjgaaGreatDoor
