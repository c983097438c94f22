/- The law DisasmAll holds: for every input it returns true and leaves its arguments as they were; its package variables hold what the row lists. -/
import Derived.Test.YtfphlcngbllgoaaGreatDoorCards
import Derived.Test.YtfphlcngbllgoaaGreatDoorTie
import Derived.Test.YtfphlcngbllgoaaGreatDoorAA4
import Derived.Lay
import Derived.Test.YtfphlcngbllgoaaGreatDoorAALawDisasmAllC
import Derived.Test.YtfphlcngbllgoaaGreatDoorAALawDisasmAllQ
set_option linter.all false
namespace Go.Proofs.YtfphlcngbllgoaaGreatDoor
open Go Go.ChangeShapes Go.WideShapes Go.ChangeAt Go.RowKit
noncomputable section
set_option maxRecDepth 100000
namespace disasmAllLaw
theorem jf : joinedFacts Tryz.checked.prog 3 Tryz.f3 Rows.disasmAllSpec Rows.disasmAllRow = true := by
 unfold joinedFacts
 simp only [Bool.and_eq_true]
 repeat' apply And.intro
 all_goals first | with_reducible exact q0 | with_reducible exact q1 | with_reducible exact q2 | with_reducible exact q3 | with_reducible exact q4 | with_reducible exact q5 | with_reducible exact q6 | with_reducible exact q7 | with_reducible exact q8 | with_reducible exact q9 | with_reducible exact q10 | with_reducible exact q11 | with_reducible exact q12 | with_reducible exact q13 | with_reducible exact q14 | kernel_rfl
theorem row:Rows.DisasmAllSaid:=
 OpenClaim.holds_of_wide 3 Tryz.f3 rfl rfl rfl rfl rfl rfl rfl ⟨rfl,rfl,rfl,rfl,rfl⟩ rfl rfl rfl rfl rfl (by kernel_rfl) Tryz.func3 jf
  (of_decide_eq_true (by kernel_rfl)) (by unfold Func.isWrapper; first | (rw [if_pos (by decide +kernel)]; kernel_rfl) | (rw [if_neg (by decide +kernel)]; exact ⟨rfl,rfl⟩))
  (fun os started H enc _=>lifted os started H enc)
end disasmAllLaw
end
end Go.Proofs.YtfphlcngbllgoaaGreatDoor
