/- Kinds, made of any number. -/
import Derived.Test.YtchahhlcmabmaaaDoorPFitE
set_option linter.all false
namespace Rv
open Go

theorem tmod6 (k : Int) : -6 < Int.tmod k 6 ∧ Int.tmod k 6 < 6 := by
  by_cases h : 0 ≤ k
  · rw [Int.tmod_eq_emod_of_nonneg h]; omega
  · have : k = -(-k) := by omega
    rw [this, Int.neg_tmod, Int.tmod_eq_emod_of_nonneg (by omega)]; omega

/-- The kind that is made of a number. -/
def kindOf (k : Int) : Int := IntKind.i64.wrap (1 + Int.tmod (IntKind.i64.wrap (Int.tmod k 6 + 6)) 6)

theorem kindOf_range (k : Int) : 1 ≤ kindOf k ∧ kindOf k ≤ 6 := by
  unfold kindOf
  have h1 := tmod6 k
  rw [w64 (x := Int.tmod k 6 + 6) (by omega), Int.tmod_eq_emod_of_nonneg (show 0 ≤ Int.tmod k 6 + 6 by omega), w64 (by omega)]
  omega

end Rv
