/- A number, as it fits. -/
import Derived.Test.YtchahhlcmabmaaaGreatDoorPGa
set_option linter.all false
namespace Rv
open Go

/-- A number, as it fits. -/
def numR (a b low high : Int) : Int × Int × Unit := if low ≤ a ∧ a ≤ high then (a, 0, ()) else if low ≤ b ∧ b ≤ high then (b, 0, ()) else (0, 28, ())

theorem num_loop (n m : Nat) (a b low high : Int) : value_Number.l7 n (m + 3) low high a b 0 = some (numR a b low high) := by
  have e2 : value_Number.l7 n (m + 1) low high a b 2 = some (0, 28, ()) := by
    simp only [value_Number.l7, dt]
    rw [if_neg (by decide)]
  have e1 : value_Number.l7 n (m + 2) low high a b 1 = some (if low ≤ b ∧ b ≤ high then (b, 0, ()) else (0, 28, ())) := by
    rw [value_Number.l7]
    simp only [dt, value_Number.j11]
    rw [if_pos (by decide), if_pos (by decide), show ([a, b].getD (1 : Int).toNat 0) = b from rfl, show IntKind.i64.wrap (1 + 1) = 2 by decide, e2]
    by_cases h1 : low ≤ b
    · by_cases h2 : b ≤ high
      · rw [if_pos h1, if_pos h2, if_pos ⟨h1, h2⟩]
      · rw [if_pos h1, if_neg h2, if_neg (fun h => h2 h.2)]
    · rw [if_neg h1, if_neg (fun h => h1 h.1)]
  rw [value_Number.l7]
  simp only [dt, value_Number.j11]
  rw [if_pos (by decide), if_pos (by decide), show ([a, b].getD (0 : Int).toNat 0) = a from rfl, show IntKind.i64.wrap (0 + 1) = 1 by decide, e1]
  unfold numR
  by_cases h1 : low ≤ a
  · by_cases h2 : a ≤ high
    · rw [if_pos h1, if_pos h2, if_pos ⟨h1, h2⟩]
    · rw [if_pos h1, if_neg h2, if_neg (show ¬ (low ≤ a ∧ a ≤ high) from fun h => h2 h.2)]
  · rw [if_neg h1, if_neg (show ¬ (low ≤ a ∧ a ≤ high) from fun h => h1 h.1)]

theorem vnumber_eq (e : List Item) (labels : List Sym) (low high v1 v2 x : Int) (h : value_Of.g e labels = some (v1, v2, x, ())) :
    value_Number.g e labels low high = some (if x ≠ 0 then (0, x, ()) else if v2 ≠ 0 then (0, 27, ()) else numR (IntKind.i64.wrap (IntKind.i32.wrap v1)) (IntKind.i64.wrap v1) low high) := by
  unfold value_Number.g value_Number.f
  rw [h, Option.bind_some]
  simp only [dt]
  have z : ¬ ((0 : Int) ≠ 0) := by decide
  by_cases h1 : x = 0
  · subst h1
    rw [if_neg z, if_neg z]
    by_cases h2 : v2 = 0
    · subst h2
      rw [if_neg z, if_neg z]
      have : ∀ k, 3 ≤ k → value_Number.l7 k k low high (IntKind.i64.wrap (IntKind.i32.wrap v1)) (IntKind.i64.wrap v1) 0 = some (numR (IntKind.i64.wrap (IntKind.i32.wrap v1)) (IntKind.i64.wrap v1) low high) := fun k hk => by
        obtain ⟨m, rfl⟩ : ∃ m, k = m + 3 := ⟨k - 3, by omega⟩
        exact num_loop _ m _ _ _ _
      exact this _ (by omega)
    · rw [if_pos (show v2 ≠ 0 from h2), if_pos (show v2 ≠ 0 from h2)]
  · rw [if_pos (show x ≠ 0 from h1), if_pos (show x ≠ 0 from h1)]

end Rv
