/- The law LayoutPools holds: for every input it returns true and leaves its arguments as they were; its package variables hold what the row lists. -/
import Derived.Test.YtbommpjdbjfdjaaGreatDoorCards
import Derived.Test.YtbommpjdbjfdjaaGreatDoorTie
import Derived.Test.YtbommpjdbjfdjaaGreatDoorL2
import Derived.Test.YtbommpjdbjfdjaaGreatDoorC5
import Derived.Test.YtbommpjdbjfdjaaGreatDoorLPLaw20Pools
import Derived.SevenTiedAt
import Derived.ProofKit
import Derived.Lay
import Derived.Test.YtbommpjdbjfdjaaGreatDoorLLawLayoutPoolsR
import Derived.Test.YtbommpjdbjfdjaaGreatDoorLLawLayoutPoolsS
set_option linter.all false
namespace Go.Proofs.YtbommpjdbjfdjaaGreatDoor
open Go Go.ChangeShapes Go.WideShapes Go.ChangeAt Go.RowKit
noncomputable section
set_option maxRecDepth 100000
namespace layoutPoolsLaw
end layoutPoolsLaw
theorem layoutPools_holds:Rows.LayoutPoolsCardSaid:=
 Claim7.holds_tied_plain_at .later [] [.data,.data,.data,.data,.sentinel,.sentinel,.listed,.data,.mapped,.pinned] true (true, "0a8f62c8b9b1fa6bf4fea3129c7d14114735e60111d308f35feeef333663f4d0") true
  layoutPoolsLaw.row (fun _ h=>by cases h) (by exact layoutPoolsLaw.c0) (fun _ h=>by cases h) layoutPools_row_tie rfl ⟨rfl,rfl⟩ (by exact layoutPoolsLaw.c1) rfl
  (fun f fn hf hfn=>by
   obtain rfl:f=7:=Option.some.inj ((show Tryz.prog.funcNamed "rivet/rivetlaw20.LayoutPools" = some 7 by exact layoutPoolsLaw.c2).symm.trans hf) |>.symm
   obtain rfl:fn=Tryz.f7:=(Option.some.inj (Tryz.func7.symm.trans hfn)).symm
   exact ⟨by exact layoutPoolsLaw.c3,fun j t ht=>by
    rw [Tryz.params7] at ht
    have hm:t∈[22,5,54]:=by simpa using Array.mem_of_getElem? ht
    have hall:([22,5,54].all fun u=>!Tryz.prog.wantsStandIn u)=true:=by exact layoutPoolsLaw.c4
    exact (show Tryz.prog.wantsStandIn t=false by simpa using List.all_eq_true.1 hall t hm)⟩)
  (by exact layoutPoolsLaw.c5)
end
end Go.Proofs.YtbommpjdbjfdjaaGreatDoor
