/- Words: small facts. -/
import Derived.Test.YtlbfhddhojejfaaDoorPScanL
set_option linter.all false
namespace Rv
open Go

theorem wordOf_all {s : Str} (h : s.all isW = true) : wordOf s = s := by
  unfold wordOf
  induction s with
  | nil => rfl
  | cons c r ih =>
    rw [List.all_cons, Bool.and_eq_true] at h
    rw [List.takeWhile_cons, if_pos h.1, ih h.2]

theorem blank_facts {c : UInt8} (h : isW c = true) : c ≠ 59 ∧ ¬ (c = 32 ∨ c = 9) := by
  refine ⟨fun e => ?_, fun e => ?_⟩
  · subst e; exact absurd h (by decide)
  · rcases e with rfl | rfl <;> exact absurd h (by decide)


end Rv
