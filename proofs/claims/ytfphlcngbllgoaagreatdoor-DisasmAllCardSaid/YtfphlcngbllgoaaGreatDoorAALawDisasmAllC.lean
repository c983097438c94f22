/- The law DisasmAll holds: for every input it returns true and leaves its arguments as they were; its package variables hold what the row lists. -/
import Derived.Test.YtfphlcngbllgoaaGreatDoorCards
import Derived.Test.YtfphlcngbllgoaaGreatDoorTie
import Derived.Test.YtfphlcngbllgoaaGreatDoorAA4
import Derived.Lay
import Derived.Test.YtfphlcngbllgoaaGreatDoorAALawDisasmAllA
import Derived.Test.YtfphlcngbllgoaaGreatDoorAALawDisasmAllB
set_option linter.all false
namespace Go.Proofs.YtfphlcngbllgoaaGreatDoor
open Go Go.ChangeShapes Go.WideShapes Go.ChangeAt Go.RowKit
noncomputable section
set_option maxRecDepth 100000
namespace disasmAllLaw
theorem lifted (os:Os) (started:os.Started) (H:Type) (enc:TypeId×Value→H) :
  ReturnsInHanded {} Tryz.checked os 3 .any (fun w args=>(Rows.disasmAllSpec.pre enc Tryz.prog Tryz.f3 [] false w args∧laidMetH Tryz.prog Rows.disasmAllRow.laid w)∧sizedMet enc Tryz.prog Tryz.f3 (OpenSpec.ofChange Rows.disasmAllSpec) false w args) (Rows.disasmAllSpec.post enc Tryz.prog Tryz.f3 false true false false):=
 Rv.law_lifted (C:=Tryz.checked) own started (by kernel_rfl) Tryz.func3 laidOut (by rw [Tryz.params3]; simp only [NT,List.not_mem_nil,or_false,forall_eq_or_imp,forall_eq]; exact ⟨⟨by kernel_rfl,of_decide_eq_true (by kernel_rfl)⟩,⟨by kernel_rfl,of_decide_eq_true (by kernel_rfl)⟩⟩) (bT:=4) (by kernel_rfl) Tryz.underlying4 rfl
  (fun ds h=>by
   rw [Tryz.params3] at h
   match ds,h with
   | [d0,d1],_=>rfl)
  (ChangeSpec.witness_shaped (enc:=enc) (C:=Tryz.checked) (os:=os) (X:=fun w _=>laidMetH Tryz.prog Rows.disasmAllRow.laid w) false (W1 os) #[.agg #[.slice none 0 0,.slice none 0 0,.slice none 0 0],.int .i64 0] 8 (hos os) (World.shaped_of_RefB (by kernel_rfl) (by kernel_rfl)) (by kernel_rfl) (by kernel_rfl) (by kernel_rfl) (door_met os _))
  (fun W base args ds p hv hA hz hl hsh=>calls H enc W base args ds p hv hA hz hl hsh)
end disasmAllLaw
end
end Go.Proofs.YtfphlcngbllgoaaGreatDoor
