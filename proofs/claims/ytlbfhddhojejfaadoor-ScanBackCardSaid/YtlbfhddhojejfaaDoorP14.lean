/- Chapter 14's own words. -/
import Derived.Test.YtlbfhddhojejfaaDoorPScanL
set_option linter.all false
namespace Rv
open Go

theorem few_eq (s : Str) (hs : s.length ≤ 9223372036854775807) : rivetlaw14_few.g s = some (s.take 100, ()) := by
  unfold rivetlaw14_few.g rivetlaw14_few.f mn
  by_cases h : (100 : Int) < s.length
  · rw [if_pos h, if_pos (by omega)]; rfl
  · rw [if_neg h, if_pos (by omega)]
    simp only [Int.toNat_natCast, List.take_length, List.drop_zero]
    rw [List.take_of_length_le (by omega)]

theorem tok_eqv (a b : Tok) : (decide (a.1 = b.1) && (decide (a.2.1 = b.2.1) && (decide (a.2.2.1 = b.2.2.1) && (decide (a.2.2.2.1 = b.2.2.2.1) && true)))) = decide (a = b) := by
  obtain ⟨a1, a2, a3, a4, _⟩ := a
  obtain ⟨b1, b2, b3, b4, _⟩ := b
  rw [Bool.eq_iff_iff]
  simp

theorem same_loop (a b : List Tok) (hl : a.length = b.length) (hb : a.length < 9223372036854775807) (n : Nat) : ∀ (m k : Nat), k ≤ a.length → a.length - k < m → rivetref14_Same.l4 n m a b (k : Int) = some (decide (a.drop k = b.drop k), ()) := by
  intro m
  induction m with
  | zero => intro k _ h; omega
  | succ m ih =>
    intro k hk hm
    simp only [rivetref14_Same.l4, dt]
    by_cases hlt : k < a.length
    · rw [if_pos (by omega), if_pos (by omega), if_pos (by omega), w64 (by omega), show (k : Int) + 1 = ((k + 1 : Nat) : Int) by omega, ih (k + 1) (by omega) (by omega)]
      simp only [Int.toNat_natCast, tok_eqv]
      have ea : a.drop k = a.getD k (0, 0, [], 0, ()) :: a.drop (k + 1) := by rw [List.drop_eq_getElem_cons hlt]; simp [List.getD, hlt]
      have eb : b.drop k = b.getD k (0, 0, [], 0, ()) :: b.drop (k + 1) := by rw [List.drop_eq_getElem_cons (by omega)]; simp [List.getD, show k < b.length by omega]
      rw [ea, eb]
      by_cases h : a.getD k (0, 0, [], 0, ()) = b.getD k (0, 0, [], 0, ())
      · simp only [h, decide_true, Bool.not_true, Bool.false_eq_true, if_false, List.cons.injEq, true_and]
      · simp only [h, decide_false, Bool.not_false, if_true, List.cons.injEq, false_and]
    · rw [if_neg (by omega), List.drop_eq_nil_of_le (by omega), List.drop_eq_nil_of_le (by omega)]
      simp

theorem same_eq (a b : List Tok) (hb : a.length < 9223372036854775807) : rivetref14_Same.g a b = some (decide (a = b), ()) := by
  unfold rivetref14_Same.g rivetref14_Same.f
  simp only [dt]
  by_cases h : a.length = b.length
  · rw [if_neg (by omega)]
    have := same_loop a b h hb (1000 + a.length + b.length) (1000 + a.length + b.length) 0 (by omega) (by omega)
    simpa using this
  · rw [if_pos (by omega)]
    have : a ≠ b := fun e => h (by rw [e])
    simp [this]

theorem shown_eq : rivetlaw14_shown.g = some (true, ()) := by decide +kernel

end Rv
