/- Values of expressions: parts of an expression. -/
import Derived.Test.YtchahhlcmabmaaaDoorPValueM
set_option linter.all false
namespace Rv
open Go

/-- An expression that may be: as many values as it needs, and one at the end. -/
def wellL (e : List Item) : Prop := enough 0 e = some 1

theorem enough_shift : ∀ (e : List Item) (t k j : Int), 0 ≤ j → enough t e = some k → enough (t + j) e = some (k + j)
  | [], t, k, j, _, h => by
    simp only [enough, Option.some.injEq] at h ⊢
    omega
  | x :: e, t, k, j, hj, h => by
    simp only [enough] at h ⊢
    split at h
    · rename_i hc
      rw [if_pos ⟨hc.1, by omega⟩, show t + j + (1 - (needsR x).1) = (t + (1 - (needsR x).1)) + j by omega]
      exact enough_shift e _ k j hj h
    · cases h

/-- The value of an expression alone: an error, or one value. -/
theorem run_well (labels : List Sym) {e : List Item} (h : wellL e) : (∃ x, runR labels [] e = .error x) ∨ ∃ v, runR labels [] e = .ok [v] := by
  obtain ⟨_, h2⟩ := run_base labels e [] [] 1 h
  cases hr : runR labels [] e with
  | error x => exact .inl ⟨x, rfl⟩
  | ok st =>
    have := h2 st hr
    match st, this with
    | [v], _ => exact .inr ⟨v, rfl⟩

theorem run_on (labels : List Sym) {e : List Item} (h : wellL e) (base : List Val) : runR labels base e = onE (base ++ ·) (runR labels [] e) := by
  have := (run_base labels e base [] 1 h).1
  rwa [List.append_nil] at this

theorem well_of {e : List Item} (h : wellL e) (hl : e.length ≤ 64) : well e = true := by
  unfold well
  rw [Bool.and_eq_true, decide_eq_true_eq, wellR_enough]
  exact ⟨h, hl⟩

/-- What value.Of tells of an expression. -/
theorem of_well (labels : List Sym) {e : List Item} (h : wellL e) (hl : e.length ≤ 64) : (∃ x, runR labels [] e = .error x ∧ ofR labels e = some (0, 0, x, ())) ∨ ∃ v : Val, runR labels [] e = .ok [v] ∧ ofR labels e = some (v.1, v.2.1, 0, ()) := by
  unfold ofR
  rw [if_pos (well_of h hl)]
  rcases run_well labels h with ⟨x, hx⟩ | ⟨v, hv⟩
  · exact .inl ⟨x, hx, by rw [hx]⟩
  · exact .inr ⟨v, hv, by rw [hv]; rfl⟩

/-- Two expressions, and what works on both. -/
theorem well_two {a b : List Item} (ha : wellL a) (hb : wellL b) (x : Item) (hx : needsR x = (2, true)) : wellL (a ++ b ++ [x]) := by
  unfold wellL at *
  have h1 : enough 1 b = some 2 := enough_shift b 0 1 1 (by omega) hb
  rw [enough_app, enough_app, ha, Option.bind_some, h1, Option.bind_some]
  simp [enough, hx]

theorem well_one {a : List Item} (ha : wellL a) (x : Item) (hx : needsR x = (1, true)) : wellL (a ++ [x]) := by
  unfold wellL at *
  rw [enough_app, ha, Option.bind_some]
  simp [enough, hx]

end Rv
