/- The law LayoutPlaces holds: for every input it returns true and leaves its arguments as they were; its package variables hold what the row lists. -/
import Derived.Test.YtbommpjdbjfdjaaGreatDoorCards
import Derived.Test.YtbommpjdbjfdjaaGreatDoorTie
import Derived.Test.YtbommpjdbjfdjaaGreatDoorL2
import Derived.Test.YtbommpjdbjfdjaaGreatDoorC5
import Derived.Test.YtbommpjdbjfdjaaGreatDoorLPLaw20Places
import Derived.SevenTiedAt
import Derived.ProofKit
import Derived.Lay
import Derived.Test.YtbommpjdbjfdjaaGreatDoorLLawLayoutPlacesR
import Derived.Test.YtbommpjdbjfdjaaGreatDoorLLawLayoutPlacesS
set_option linter.all false
namespace Go.Proofs.YtbommpjdbjfdjaaGreatDoor
open Go Go.ChangeShapes Go.WideShapes Go.ChangeAt Go.RowKit
noncomputable section
set_option maxRecDepth 100000
namespace layoutPlacesLaw
end layoutPlacesLaw
theorem layoutPlaces_holds:Rows.LayoutPlacesCardSaid:=
 Claim7.holds_tied_plain_at .later [] [.data,.data,.data,.data,.sentinel,.sentinel,.listed,.data,.mapped,.pinned] true (true, "0a8f62c8b9b1fa6bf4fea3129c7d14114735e60111d308f35feeef333663f4d0") true
  layoutPlacesLaw.row (fun _ h=>by cases h) (by exact layoutPlacesLaw.c0) (fun _ h=>by cases h) layoutPlaces_row_tie rfl ⟨rfl,rfl⟩ (by exact layoutPlacesLaw.c1) rfl
  (fun f fn hf hfn=>by
   obtain rfl:f=4:=Option.some.inj ((show Tryz.prog.funcNamed "rivet/rivetlaw20.LayoutPlaces" = some 4 by exact layoutPlacesLaw.c2).symm.trans hf) |>.symm
   obtain rfl:fn=Tryz.f4:=(Option.some.inj (Tryz.func4.symm.trans hfn)).symm
   exact ⟨by exact layoutPlacesLaw.c3,fun j t ht=>by
    rw [Tryz.params4] at ht
    have hm:t∈[22]:=by simpa using Array.mem_of_getElem? ht
    have hall:([22].all fun u=>!Tryz.prog.wantsStandIn u)=true:=by exact layoutPlacesLaw.c4
    exact (show Tryz.prog.wantsStandIn t=false by simpa using List.all_eq_true.1 hall t hm)⟩)
  (by exact layoutPlacesLaw.c5)
end
end Go.Proofs.YtbommpjdbjfdjaaGreatDoor
