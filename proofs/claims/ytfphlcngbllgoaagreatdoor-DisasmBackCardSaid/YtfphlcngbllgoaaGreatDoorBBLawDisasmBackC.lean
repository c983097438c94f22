/- The law DisasmBack holds: for every input it returns true and leaves its arguments as they were; its package variables hold what the row lists. -/
import Derived.Test.YtfphlcngbllgoaaGreatDoorCards
import Derived.Test.YtfphlcngbllgoaaGreatDoorTie
import Derived.Test.YtfphlcngbllgoaaGreatDoorBB4
import Derived.Lay
import Derived.Test.YtfphlcngbllgoaaGreatDoorBBLawDisasmBackA
import Derived.Test.YtfphlcngbllgoaaGreatDoorBBLawDisasmBackB
set_option linter.all false
namespace Go.Proofs.YtfphlcngbllgoaaGreatDoor
open Go Go.ChangeShapes Go.WideShapes Go.ChangeAt Go.RowKit
noncomputable section
set_option maxRecDepth 100000
namespace disasmBackLaw
theorem lifted (os:Os) (started:os.Started) (H:Type) (enc:TypeId×Value→H) :
  ReturnsInHanded {} Tryz.checked os 8 .any (fun w args=>(Rows.disasmBackSpec.pre enc Tryz.prog Tryz.f8 [] false w args∧laidMetH Tryz.prog Rows.disasmBackRow.laid w)∧sizedMet enc Tryz.prog Tryz.f8 (OpenSpec.ofChange Rows.disasmBackSpec) false w args) (Rows.disasmBackSpec.post enc Tryz.prog Tryz.f8 false true false false):=
 Rv.law_lifted (C:=Tryz.checked) own started (by kernel_rfl) Tryz.func8 laidOut (by rw [Tryz.params8]; simp only [Vg,VR,or_false,forall_eq_or_imp,forall_eq]; exact ⟨by kernel_rfl,of_decide_eq_true (by kernel_rfl)⟩) (bT:=4) (by kernel_rfl) Tryz.underlying4 rfl
  (fun ds h=>by
   rw [Tryz.params8] at h
   match ds,h with
   | [d0],_=>rfl)
  (ChangeSpec.witness_shaped (enc:=enc) (C:=Tryz.checked) (os:=os) (X:=fun w _=>laidMetH Tryz.prog Rows.disasmBackRow.laid w) false (W1 os) #[.agg #[.slice none 0 0,.slice none 0 0,.slice none 0 0]] 8 (hos os) (World.shaped_of_RefB (by kernel_rfl) (by kernel_rfl)) (by kernel_rfl) (by kernel_rfl) (by kernel_rfl) (door_met os _))
  (fun W base args ds p hv hA hz hl hsh=>calls H enc W base args ds p hv hA hz hl hsh)
end disasmBackLaw
end
end Go.Proofs.YtfphlcngbllgoaaGreatDoor
