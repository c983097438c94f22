/- The law DisasmSites holds: for every input it returns true and leaves its arguments as they were; its package variables hold what the row lists. -/
import Derived.Test.YtfphlcngbllgoaaGreatDoorCards
import Derived.Test.YtfphlcngbllgoaaGreatDoorTie
import Derived.Test.YtfphlcngbllgoaaGreatDoorSS2
import Derived.Test.YtfphlcngbllgoaaGreatDoorS5
import Derived.Test.YtfphlcngbllgoaaGreatDoorSSPLaw23Sites
import Derived.SevenTiedAt
import Derived.ProofKit
import Derived.Lay
import Derived.Test.YtfphlcngbllgoaaGreatDoorSSLawDisasmSitesA
import Derived.Test.YtfphlcngbllgoaaGreatDoorSSLawDisasmSitesB
set_option linter.all false
namespace Go.Proofs.YtfphlcngbllgoaaGreatDoor
open Go Go.ChangeShapes Go.WideShapes Go.ChangeAt Go.RowKit
noncomputable section
set_option maxRecDepth 100000
namespace disasmSitesLaw
theorem lifted (os:Os) (started:os.Started) (H:Type) (enc:TypeId×Value→H) :
  ReturnsInHanded {} Tryz.checked os 7 .any (fun w args=>(Rows.disasmSitesSpec.pre enc Tryz.prog Tryz.f7 [] false w args∧laidMetH Tryz.prog Rows.disasmSitesRow.laid w)∧sizedMet enc Tryz.prog Tryz.f7 (OpenSpec.ofChange Rows.disasmSitesSpec) false w args) (Rows.disasmSitesSpec.post enc Tryz.prog Tryz.f7 false true false false):=
 Rv.law_lifted (C:=Tryz.checked) own started (by kernel_rfl) Tryz.func7 laidOut (by rw [Tryz.params7]; simp only [UG,Vj,or_false,forall_eq_or_imp,forall_eq]; exact ⟨⟨by kernel_rfl,of_decide_eq_true (by kernel_rfl)⟩,⟨by kernel_rfl,of_decide_eq_true (by kernel_rfl)⟩,⟨by kernel_rfl,of_decide_eq_true (by kernel_rfl)⟩⟩) (bT:=4) (by kernel_rfl) Tryz.underlying4 rfl
  (fun ds h=>by
   rw [Tryz.params7] at h
   match ds,h with
   | [d0,d1,d2],_=>rfl)
  (ChangeSpec.witness_shaped (enc:=enc) (C:=Tryz.checked) (os:=os) (X:=fun w _=>laidMetH Tryz.prog Rows.disasmSitesRow.laid w) false (W1 os) #[.int .u8 0,.int .u8 0,.int .u8 0] 8 (hos os) (World.shaped_of_RefB (by kernel_rfl) (by kernel_rfl)) (by kernel_rfl) (by kernel_rfl) (by kernel_rfl) (door_met os _))
  (fun W base args ds p hv hA hz hl hsh=>calls H enc W base args ds p hv hA hz hl hsh)
end disasmSitesLaw
end
end Go.Proofs.YtfphlcngbllgoaaGreatDoor
