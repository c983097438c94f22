/- ValueNumbers: the plain law. -/
import Derived.Test.YtchahhlcmabmaaaDoorP16V
set_option linter.all false
namespace Rv
open Go

/-- A number, as it fits. -/
def numR (a b low high : Int) : Int × Int × Unit := if low ≤ a ∧ a ≤ high then (a, 0, ()) else if low ≤ b ∧ b ≤ high then (b, 0, ()) else (0, 28, ())

theorem num_loop (n m : Nat) (a b low high : Int) : value_Number.l7 n (m + 3) low high a b 0 = some (numR a b low high) := by
  have e2 : value_Number.l7 n (m + 1) low high a b 2 = some (0, 28, ()) := by
    simp only [value_Number.l7, dt]
    rw [if_neg (by decide)]
  have e1 : value_Number.l7 n (m + 2) low high a b 1 = some (if low ≤ b ∧ b ≤ high then (b, 0, ()) else (0, 28, ())) := by
    rw [value_Number.l7]
    simp only [dt, value_Number.j11]
    rw [if_pos (by decide), if_pos (by decide), show ([a, b].getD (1 : Int).toNat 0) = b from rfl, show IntKind.i64.wrap (1 + 1) = 2 by decide, e2]
    by_cases h1 : low ≤ b
    · by_cases h2 : b ≤ high
      · rw [if_pos h1, if_pos h2, if_pos ⟨h1, h2⟩]
      · rw [if_pos h1, if_neg h2, if_neg (fun h => h2 h.2)]
    · rw [if_neg h1, if_neg (fun h => h1 h.1)]
  rw [value_Number.l7]
  simp only [dt, value_Number.j11]
  rw [if_pos (by decide), if_pos (by decide), show ([a, b].getD (0 : Int).toNat 0) = a from rfl, show IntKind.i64.wrap (0 + 1) = 1 by decide, e1]
  unfold numR
  by_cases h1 : low ≤ a
  · by_cases h2 : a ≤ high
    · rw [if_pos h1, if_pos h2, if_pos ⟨h1, h2⟩]
    · rw [if_pos h1, if_neg h2, if_neg (show ¬ (low ≤ a ∧ a ≤ high) from fun h => h2 h.2)]
  · rw [if_neg h1, if_neg (show ¬ (low ≤ a ∧ a ≤ high) from fun h => h1 h.1)]

theorem vnumber_eq (e : List Item) (labels : List Sym) (low high v1 v2 x : Int) (h : value_Of.g e labels = some (v1, v2, x, ())) :
    value_Number.g e labels low high = some (if x ≠ 0 then (0, x, ()) else if v2 ≠ 0 then (0, 27, ()) else numR (IntKind.i64.wrap (IntKind.i32.wrap v1)) (IntKind.i64.wrap v1) low high) := by
  unfold value_Number.g value_Number.f
  rw [h, Option.bind_some]
  simp only [dt]
  have z : ¬ ((0 : Int) ≠ 0) := by decide
  by_cases h1 : x = 0
  · subst h1
    rw [if_neg z, if_neg z]
    by_cases h2 : v2 = 0
    · subst h2
      rw [if_neg z, if_neg z]
      have : ∀ k, 3 ≤ k → value_Number.l7 k k low high (IntKind.i64.wrap (IntKind.i32.wrap v1)) (IntKind.i64.wrap v1) 0 = some (numR (IntKind.i64.wrap (IntKind.i32.wrap v1)) (IntKind.i64.wrap v1) low high) := fun k hk => by
        obtain ⟨m, rfl⟩ : ∃ m, k = m + 3 := ⟨k - 3, by omega⟩
        exact num_loop _ m _ _ _ _
      exact this _ (by omega)
    · rw [if_pos (show v2 ≠ 0 from h2), if_pos (show v2 ≠ 0 from h2)]
  · rw [if_pos (show x ≠ 0 from h1), if_pos (show x ≠ 0 from h1)]

theorem val_a : value_Of.g [((2 : Int), 0, ([97] : Str), ())] [(([97] : Str), 0, ())] = some (0, 1, 0, ()) := by decide +kernel
theorem val_b : value_Of.g [((2 : Int), 0, ([97] : Str), ())] [] = some (0, 0, 25, ()) := by decide +kernel
theorem val_c : value_Of.g [] [] = some (0, 0, 23, ()) := by decide +kernel
theorem val_n (n : Int) : value_Of.g [((1 : Int), n, ([] : Str), ())] [] = some (n, 0, 0, ()) := val_ok [] (by simp) (e := [((1 : Int), n, ([] : Str), ())]) rfl (by simp) (v := (n, 0, ())) rfl

theorem well15_n (n : Int) : rivetref15_Well.g [((1 : Int), n, ([] : Str), ())] = some (true, ()) := by
  have gen : ∀ k m : Nat, rivetref15_Well.l3 k (m + 2) [((1 : Int), n, ([] : Str), ())] 0 0 = some (true, ()) := fun k m => by
    have e1 : rivetref15_Well.l3 k (m + 1) [((1 : Int), n, ([] : Str), ())] 1 1 = some (true, ()) := by
      simp only [rivetref15_Well.l3, dt]
      rw [if_neg (by simp), if_pos trivial]; simp
    have e2 : rivetref15_needs.g 1 n [] = some (0, ()) := by
      unfold rivetref15_needs.g rivetref15_needs.f
      rw [if_pos (by decide), if_pos (by decide)]
    rw [rivetref15_Well.l3]
    simp only [dt, df]
    rw [if_pos (by simp), if_pos (by simp)]
    show (rivetref15_needs.g 1 n []).bind _ = _
    rw [e2, Option.bind_some]
    dsimp only
    rw [if_pos (by decide), if_neg (by decide)]
    exact e1
  unfold rivetref15_Well.g rivetref15_Well.f
  exact gen 1001 999

theorem vnumbers_law (n low high : Int) (hn : 0 ≤ n ∧ n ≤ 4294967295) : rivetlaw16_ValueNumbers.g n low high = some (true, ()) := by
  unfold rivetlaw16_ValueNumbers.g rivetlaw16_ValueNumbers.f
  have k1 := vnumber_eq _ _ low high _ _ _ val_a
  have k2 := vnumber_eq _ _ low high _ _ _ val_b
  have k3 := vnumber_eq _ _ low high _ _ _ val_c
  have k4 := vnumber_eq _ _ low high _ _ _ (val_n n)
  rw [if_neg (by decide), if_pos (by decide)] at k1
  rw [if_pos (by decide)] at k2 k3
  rw [if_neg (by decide), if_neg (by decide)] at k4
  rw [shown16_eq, Option.bind_some, k4, Option.bind_some]
  simp only [rivetlaw16_ValueNumbers.j6, rivetlaw16_ValueNumbers.j7, k1, k2, k3, well15_n, Option.bind_some, dt, df]
  generalize IntKind.i64.wrap (IntKind.i32.wrap n) = a
  generalize IntKind.i64.wrap n = b
  unfold numR
  by_cases a1 : low ≤ a <;> by_cases a2 : a ≤ high <;> by_cases b1 : low ≤ b <;> by_cases b2 : b ≤ high <;> simp [a1, a2, b1, b2]

theorem vnumbers_wf {n low high : Int} (h : (Lit.int .u32 n).wf = true ∧ (Lit.int .i64 low).wf = true ∧ (Lit.int .i64 high).wf = true ∧ True) : rivetlaw16_ValueNumbers.g n low high = some (true, ()) := vnumbers_law n low high (wfU32 h.1)

end Rv
