/- Expressions: which items are one. -/
import Derived.Test.YtchahhlcmabmaaaDoorPLabel
set_option linter.all false
namespace Rv
open Go

abbrev Item := Int × Int × Str × Unit

/-- How many an item works on; may it be? -/
def needsR (x : Item) : Int × Bool :=
  if x.1 = 1 then (0, decide (x.2.2.1 = []))
  else if x.1 = 2 then (0, decide (x.2.1 = 0) && labelOk x.2.2.1)
  else if x.1 = 3 then (1, decide (x.2.1 = 0) && decide (x.2.2.1 = []))
  else if x.1 = 4 ∨ x.1 = 5 ∨ x.1 = 6 then (2, decide (x.2.1 = 0) && decide (x.2.2.1 = []))
  else (0, false)

theorem needs_eq (a b : Int) (c : Str) : expr_needs.g a b c = some ((needsR (a, b, c, ())).1, (needsR (a, b, c, ())).2, ()) := by
  unfold expr_needs.g expr_needs.f
  simp only [expr_needs.j2, dt, label_eq, Option.bind_some]
  unfold needsR
  dsimp only
  rcases propTF (b = 0) with hb | hb
  all_goals
    by_cases h1 : a = 1
    · subst h1; simp only [hb, if_true, if_false, decide_true, decide_false]
    by_cases h2 : a = 2
    · subst h2; simp only [hb, if_true, if_false, decide_true, decide_false, Bool.true_and, Bool.false_and, show ¬ ((2 : Int) = 1) by decide]
    by_cases h3 : a = 3
    · subst h3; simp only [hb, if_true, if_false, decide_true, decide_false, Bool.true_and, Bool.false_and, show ¬ ((3 : Int) = 1) by decide, show ¬ ((3 : Int) = 2) by decide]
    by_cases h4 : a = 4
    · subst h4; simp only [hb, if_true, if_false, decide_true, decide_false, Bool.true_and, Bool.false_and, true_or, show ¬ ((4 : Int) = 1) by decide, show ¬ ((4 : Int) = 2) by decide, show ¬ ((4 : Int) = 3) by decide]
    by_cases h5 : a = 5
    · subst h5; simp only [hb, if_true, if_false, decide_true, decide_false, Bool.true_and, Bool.false_and, true_or, or_true, show ¬ ((5 : Int) = 1) by decide, show ¬ ((5 : Int) = 2) by decide, show ¬ ((5 : Int) = 3) by decide, show ¬ ((5 : Int) = 4) by decide]
    by_cases h6 : a = 6
    · subst h6; simp only [hb, if_true, if_false, decide_true, decide_false, Bool.true_and, Bool.false_and, true_or, or_true, show ¬ ((6 : Int) = 1) by decide, show ¬ ((6 : Int) = 2) by decide, show ¬ ((6 : Int) = 3) by decide, show ¬ ((6 : Int) = 4) by decide, show ¬ ((6 : Int) = 5) by decide]
    simp only [hb, h1, h2, h3, h4, h5, h6, if_true, if_false, or_self]

/-- Are they an expression, where so many values are there already? -/
def wellR : Int → List Item → Bool
  | t, [] => decide (t = 1)
  | t, x :: r => (needsR x).2 && (!decide (t < (needsR x).1) && wellR (t + (1 - (needsR x).1)) r)

def well (e : List Item) : Bool := wellR 0 e && decide (e.length ≤ 64)

theorem needs_range (x : Item) : 0 ≤ (needsR x).1 ∧ (needsR x).1 ≤ 2 := by
  unfold needsR
  split
  · simp
  · split
    · simp
    · split
      · simp
      · split <;> simp

theorem well_loop (e : List Item) (he : e.length ≤ 4611686018427387904) (n : Nat) : ∀ (m i : Nat) (t : Int), i ≤ e.length → e.length - i < m → 0 ≤ t → t ≤ i →
    expr_Well.l3 n m e t e (e.length : Int) (i : Int) = some (wellR t (e.drop i) && decide (e.length ≤ 64), ()) := by
  intro m
  induction m with
  | zero => intro i t _ h; omega
  | succ m ih =>
    intro i t hi hm h0 ht
    by_cases h1 : i < e.length
    · have hx : e.drop i = e.getD i ((0 : Int), ((0 : Int), (([] : Str), ()))) :: e.drop (i + 1) := by
        rw [List.drop_eq_getElem_cons h1, List.getD_eq_getElem?_getD, List.getElem?_eq_getElem h1]; rfl
      rw [hx]
      simp only [expr_Well.l3, dt, df, needs_eq, Option.bind_some]
      rw [if_pos (by omega), if_pos (by omega), Int.toNat_natCast]
      generalize e.getD i ((0 : Int), ((0 : Int), (([] : Str), ()))) = x
      obtain ⟨a, b, c, u⟩ := x
      cases u
      have hr := needs_range (a, b, c, ())
      simp only [wellR]
      generalize needsR (a, b, c, ()) = y at *
      obtain ⟨k, ok⟩ := y
      simp only at hr ⊢
      cases ok
      · rfl
      · rw [if_pos (show (!true) = false from rfl)]
        by_cases h2 : t < k
        · rw [if_pos h2]; simp [h2]
        · rw [if_neg h2, w64 (x := 1 - k) (by omega), w64 (x := t + (1 - k)) (by omega), w64 (x := (i : Int) + 1) (by omega), show (i : Int) + 1 = ((i + 1 : Nat) : Int) by omega]
          rw [ih (i + 1) (t + (1 - k)) (by omega) (by omega) (by omega) (by omega)]
          simp [h2]
    · have hi' : i = e.length := by omega
      subst hi'
      simp only [expr_Well.l3, dt]
      rw [if_neg (by omega), List.drop_length]
      simp only [wellR]
      by_cases h3 : t = 1
      · rw [if_pos h3]
        simp [h3]
        omega
      · rw [if_neg h3]; simp [h3]

theorem well_eq (e : List Item) (he : e.length ≤ 4611686018427387904) : expr_Well.g e = some (well e, ()) := by
  unfold expr_Well.g expr_Well.f
  exact well_loop e he _ _ 0 0 (by omega) (by omega) (by omega) (by omega)

end Rv
