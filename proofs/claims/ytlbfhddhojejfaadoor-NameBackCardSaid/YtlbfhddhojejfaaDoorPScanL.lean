/- Laws of the scanner's lines. -/
import Derived.Test.YtlbfhddhojejfaaDoorPScan
set_option linter.all false
namespace Rv
open Go

/-- A token, so much further behind. -/
def shift (j : Int) (t : Tok) : Tok := (t.1, t.2.1 + j, t.2.2)

def exMap {α β : Type} (f : α → β) : Except Int α → Except Int β
  | .error e => .error e
  | .ok a => .ok (f a)

theorem lineR_shift (j : Int) : ∀ (n : Nat) (k : Int) (s : Str), s.length ≤ n → lineR (k + j) s = exMap (List.map (shift j)) (lineR k s)
  | _, k, [], _ => by rw [lineR_nil, lineR_nil]; rfl
  | 0, k, c :: r, h => by simp at h
  | n + 1, k, c :: r, h => by
    simp only [List.length_cons] at h
    rw [lineR_cons, lineR_cons]
    by_cases h59 : c = 59
    · rw [if_pos h59, if_pos h59]; rfl
    · rw [if_neg h59, if_neg h59]
      by_cases hb : c = 32 ∨ c = 9
      · rw [if_pos hb, if_pos hb, show k + j + 1 = k + 1 + j by omega]
        exact lineR_shift j n (k + 1) r (by omega)
      · rw [if_neg hb, if_neg hb]
        cases tokAt c r with
        | error e => rfl
        | ok x =>
          obtain ⟨d, q, t, v⟩ := x
          simp only
          rw [show k + j + (d : Int) + (t.length : Int) = k + d + t.length + j by omega, lineR_shift j n (k + d + t.length) (r.drop (d + t.length - 1)) (by simp; omega)]
          cases lineR (k + d + t.length) (r.drop (d + t.length - 1)) with
          | error e => rfl
          | ok l => rfl

theorem word_no59 {s : Str} : (59 : UInt8) ∉ s.takeWhile isW := by
  intro h
  have h1 : (s.takeWhile isW).all isW = true := List.all_takeWhile
  have := List.all_eq_true.1 h1 59 h
  exact absurd this (by decide)

theorem takeW (s : Str) : s.take (s.takeWhile isW).length = s.takeWhile isW := (List.prefix_iff_eq_take.1 (List.takeWhile_prefix isW)).symm

theorem tokAt_ok {c : UInt8} {r : Str} {d : Nat} {q : Int} {t : Str} {v : Int} (h : tokAt c r = .ok (d, q, t, v)) : 1 ≤ d + t.length ∧ d + t.length - 1 ≤ r.length ∧ (59 : UInt8) ∉ r.take (d + t.length - 1) := by
  have wc : isW c = true → 1 ≤ 0 + (wordOf (c :: r)).length ∧ 0 + (wordOf (c :: r)).length - 1 ≤ r.length ∧ (59 : UInt8) ∉ r.take (0 + (wordOf (c :: r)).length - 1) := by
    intro hc
    have : wordOf (c :: r) = c :: r.takeWhile isW := by simp [wordOf, List.takeWhile_cons, hc]
    rw [this]
    have hl := (List.takeWhile_prefix isW (l := r)).length_le
    simp only [List.length_cons]
    refine ⟨by omega, by omega, ?_⟩
    rw [show 0 + ((r.takeWhile isW).length + 1) - 1 = (r.takeWhile isW).length by omega, takeW]
    exact word_no59
  unfold tokAt at h
  split at h
  · rename_i hL
    simp only [Except.ok.injEq, Prod.mk.injEq] at h
    obtain ⟨rfl, rfl, rfl, rfl⟩ := h
    exact wc (by simp [isW, hL])
  · split at h
    · rename_i hD
      split at h
      · simp only [Except.ok.injEq, Prod.mk.injEq] at h
        obtain ⟨rfl, rfl, rfl, rfl⟩ := h
        exact wc (by simp [isW, hD])
      · cases h
    · split at h
      · simp only [Except.ok.injEq, Prod.mk.injEq] at h
        obtain ⟨rfl, rfl, rfl, rfl⟩ := h
        have hl := wordOf_le r
        refine ⟨by omega, by omega, ?_⟩
        rw [show 1 + (wordOf r).length - 1 = (r.takeWhile isW).length by unfold wordOf; omega, takeW]
        exact word_no59
      · split at h
        · simp only [Except.ok.injEq, Prod.mk.injEq] at h
          obtain ⟨rfl, rfl, rfl, rfl⟩ := h
          simp
        · cases h

theorem takeW_app {s : Str} {b : UInt8} {y : Str} (hb : isW b = false) : (s ++ b :: y).takeWhile isW = s.takeWhile isW := by
  induction s with
  | nil => simp [List.takeWhile_cons, hb]
  | cons c s ih =>
    simp only [List.cons_append, List.takeWhile_cons]
    rw [ih]

theorem tokAt_app {c : UInt8} {r : Str} {b : UInt8} {y : Str} (hb : isW b = false) : tokAt c (r ++ b :: y) = tokAt c r := by
  have h1 : wordOf (c :: (r ++ b :: y)) = wordOf (c :: r) := takeW_app (s := c :: r) hb
  have h2 : wordOf (r ++ b :: y) = wordOf r := takeW_app hb
  have h3 : (∃ d ∈ (r ++ b :: y).head?, isL d = true) ↔ (∃ d ∈ r.head?, isL d = true) := by
    cases r with
    | nil =>
      have : isL b = false := by cases h : isL b with
        | true => simp [isW, h] at hb
        | false => rfl
      simp [this]
    | cons e r => simp
  unfold tokAt
  rw [h1, h2]
  simp only [h3]

/-- Two parts, a blank between them. -/
theorem lineR_app {b : UInt8} (hb : b = 32 ∨ b = 9) (y : Str) : ∀ (n : Nat) (k : Int) (x : Str), x.length ≤ n → lineR k (x ++ b :: y) = match lineR k x with
    | .error e => .error e
    | .ok l => if (59 : UInt8) ∈ x then .ok l else match lineR (k + x.length + 1) y with
      | .error e => .error e
      | .ok m => .ok (l ++ m) := by
  have hW : isW b = false := by rcases hb with rfl | rfl <;> decide
  have h59b : b ≠ 59 := by rcases hb with rfl | rfl <;> decide
  intro n
  induction n with
  | zero =>
    intro k x hx
    have : x = [] := List.length_eq_zero_iff.1 (by omega)
    subst this
    rw [List.nil_append, lineR_cons, if_neg h59b, if_pos hb, lineR_nil]
    simp only [List.not_mem_nil, if_false, List.length_nil, List.nil_append]
    rw [show k + ((0 : Nat) : Int) + 1 = k + 1 by omega]
    cases lineR (k + 1) y <;> rfl
  | succ n ih =>
    intro k x hx
    cases x with
    | nil => exact ih k [] (by simp)
    | cons c r =>
      simp only [List.length_cons] at hx
      rw [List.cons_append, lineR_cons, lineR_cons]
      by_cases h59 : c = 59
      · rw [if_pos h59, if_pos h59]
        simp [h59]
      · rw [if_neg h59, if_neg h59]
        have hmem : ((59 : UInt8) ∈ c :: r) = ((59 : UInt8) ∈ r) := by
          simp only [List.mem_cons, eq_iff_iff, or_iff_right_iff_imp]
          intro e; exact absurd e.symm h59
        by_cases hbl : c = 32 ∨ c = 9
        · rw [if_pos hbl, if_pos hbl, ih (k + 1) r (by omega)]
          simp only [hmem, List.length_cons]
          rw [show k + 1 + (r.length : Int) + 1 = k + ((r.length + 1 : Nat) : Int) + 1 by omega]
        · rw [if_neg hbl, if_neg hbl, tokAt_app hW]
          cases hT : tokAt c r with
          | error e => rfl
          | ok z =>
            obtain ⟨d, q, t, v⟩ := z
            obtain ⟨h1, h2, h3⟩ := tokAt_ok hT
            simp only
            rw [List.drop_append_of_le_length h2, ih _ _ (by simp; omega)]
            have hm2 : ((59 : UInt8) ∈ r.drop (d + t.length - 1)) = ((59 : UInt8) ∈ r) := by
              apply propext
              constructor
              · exact List.mem_of_mem_drop
              · intro h
                rw [← List.take_append_drop (d + t.length - 1) r, List.mem_append] at h
                exact h.resolve_left h3
            rw [List.length_drop, show k + (d : Int) + (t.length : Int) + ((r.length - (d + t.length - 1) : Nat) : Int) + 1 = k + ((r.length + 1 : Nat) : Int) + 1 by omega]
            simp only [hm2, hmem, List.length_cons]
            cases lineR (k + d + t.length) (r.drop (d + t.length - 1)) with
            | error e => rfl
            | ok l =>
              by_cases h59r : (59 : UInt8) ∈ r
              · simp only [h59r, if_true]
              · simp only [h59r, if_false]
                cases lineR (k + ((r.length + 1 : Nat) : Int) + 1) y <;> rfl

/-- Blanks alone. -/
theorem lineR_blanks (k : Int) : ∀ (n : Nat) (y : Str), lineR k (List.replicate n 32 ++ y) = lineR (k + n) y
  | 0, y => by simp
  | n + 1, y => by
    rw [List.replicate_succ, List.cons_append, lineR_cons, if_neg (by decide), if_pos (.inl rfl), lineR_blanks (k + 1) n y, show k + 1 + (n : Int) = k + ((n + 1 : Nat) : Int) by omega]

theorem lineR_len : ∀ (n : Nat) (k : Int) (s : Str) (l : List Tok), s.length ≤ n → lineR k s = .ok l → l.length ≤ s.length
  | _, k, [], l, _, h => by rw [lineR_nil] at h; cases h; simp
  | 0, k, c :: r, l, hn, _ => by simp at hn
  | n + 1, k, c :: r, l, hn, h => by
    simp only [List.length_cons] at hn ⊢
    rw [lineR_cons] at h
    split at h
    · cases h; simp
    · split at h
      · have := lineR_len n (k + 1) r l (by omega) h; omega
      · split at h
        · cases h
        · split at h
          · cases h
          · rename_i l' hl
            cases h
            have := lineR_len n _ _ l' (by simp; omega) hl
            simp at this ⊢; omega

theorem lineOut_len {k : Int} {s : Str} : (lineOut [] (lineR k s)).1.length ≤ s.length := by
  cases h : lineR k s with
  | error e => simp [lineOut]
  | ok l => simpa [lineOut] using lineR_len s.length k s l (Nat.le_refl _) h

/- Loops over a row that is changed in place. -/
theorem set_map {α : Type} (f : α → α) (dflt : α) (l : List α) (k : Nat) (hk : k < l.length) : (((l.take k).map f ++ l.drop k).set k (f (((l.take k).map f ++ l.drop k).getD k dflt))) = (l.take (k + 1)).map f ++ l.drop (k + 1) := by
  have h1 : ((l.take k).map f).length = k := by simp; omega
  have h2 : ((l.take k).map f ++ l.drop k).getD k dflt = l[k] := by
    rw [List.getD_eq_getElem?_getD, List.getElem?_append_right (by omega), h1, Nat.sub_self]
    simp [hk]
  rw [h2, List.set_append_right _ _ (by omega), h1, Nat.sub_self, List.drop_eq_getElem_cons hk, List.set_cons_zero, List.take_succ_eq_append_getElem hk, List.map_append]
  simp

theorem map_len {α : Type} (f : α → α) (l : List α) (k : Nat) (hk : k ≤ l.length) : ((l.take k).map f ++ l.drop k).length = l.length := by
  simp; omega

theorem lineR_bound : ∀ (n : Nat) (k : Int) (s : Str) (l : List Tok), s.length ≤ n → lineR k s = .ok l → ∀ t ∈ l, k ≤ t.2.1 ∧ t.2.1 ≤ k + s.length
  | _, k, [], l, _, h => by rw [lineR_nil] at h; cases h; intro t ht; cases ht
  | 0, k, c :: r, l, hn, _ => by simp at hn
  | n + 1, k, c :: r, l, hn, h => by
    simp only [List.length_cons] at hn ⊢
    rw [lineR_cons] at h
    split at h
    · cases h; intro t ht; cases ht
    · split at h
      · intro t ht
        have := lineR_bound n (k + 1) r l (by omega) h t ht; omega
      · split at h
        · cases h
        · rename_i d q tx v hT
          obtain ⟨h1, h2, _⟩ := tokAt_ok hT
          split at h
          · cases h
          · rename_i l' hl
            cases h
            intro t ht
            rcases List.mem_cons.1 ht with rfl | ht
            · simp only; omega
            · have := lineR_bound n _ _ l' (by simp; omega) hl t ht
              simp at this; omega

end Rv
