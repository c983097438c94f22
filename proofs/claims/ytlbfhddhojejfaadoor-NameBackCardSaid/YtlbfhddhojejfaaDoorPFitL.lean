/- Names that are made are labels. -/
import Derived.Test.YtlbfhddhojejfaaDoorPLabel
set_option linter.all false
namespace Rv
open Go

theorem fit13_label (s : Str) (hs : s.length ≤ 9223372036854775807) : ∃ r, rivetref13_Fit.g s = some (r, ()) ∧ labelOk r = true ∧ r.length ≤ 8 ∧ (s.length ≤ 6 → r ≠ [122, 122, 95, 122, 122]) := by
  unfold rivetref13_Fit.g rivetref13_Fit.f
  obtain ⟨r, hr, ⟨c, t, rfl, ⟨hL, hne, hD⟩, hz⟩, ha, hl⟩ := fit07_eq' s hs
  rw [hr, Option.bind_some]
  simp only [dt]
  split
  · have e1 : mn ((c :: t).length : Int) 11 = (c :: t).length := by unfold mn; rw [if_neg (by omega)]
    rw [e1, if_pos (by omega)]
    simp only [Int.toNat_natCast, List.take_length, List.drop_zero]
    rw [if_pos (by simp at hl ⊢; omega)]
    refine ⟨_, rfl, ?_, by simp at hl ⊢; omega, fun _ e => by simp at e⟩
    unfold labelOk
    rw [List.all_append, ha]
    have h1 : ([95] ++ c :: t : Str).getD 0 0 = 95 := rfl
    have h2 : decide (([95] ++ c :: t : Str).length ≤ 12) = true := by rw [decide_eq_true_eq]; simp at hl ⊢; omega
    rw [h2]
    unfold regLike
    rw [h1]
    rfl
  · refine ⟨_, rfl, ?_, by omega, fun h6 e => hz h6 (by simp at e; exact e.1)⟩
    unfold labelOk
    have h1 : (c :: t : Str).getD 0 0 = c := rfl
    have h2 : decide ((c :: t : Str).length ≤ 12) = true := by rw [decide_eq_true_eq]; omega
    unfold regLike
    rw [h1, h2, hD, ha, decide_eq_false hne]
    rfl

end Rv
