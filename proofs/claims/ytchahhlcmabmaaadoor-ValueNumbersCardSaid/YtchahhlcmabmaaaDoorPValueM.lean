/- Values of expressions, put together. -/
import Derived.Test.YtchahhlcmabmaaaDoorPValueL
set_option linter.all false
namespace Rv
open Go

/-- How many values an item leaves. -/
theorem step_len (labels : List Sym) (x : Item) (st st' : List Val) (hk : (needsR x).2 = true) (hl : ¬ (st.length : Int) < (needsR x).1) (h : stepR labels st x = .ok st') : (st'.length : Int) = st.length + (1 - (needsR x).1) := by
  obtain ⟨a, b, c, u⟩ := x
  cases u
  unfold stepR at h
  dsimp only at h
  by_cases k2 : a = 2
  · subst k2
    rw [if_pos rfl] at h
    have e0 : (needsR (2, b, c, ())).1 = 0 := rfl
    rw [e0]
    split at h
    · cases h; simp
    · cases h
  · rw [if_neg k2] at h
    by_cases k3 : a = 3
    · subst k3
      have e0 : (needsR (3, b, c, ())).1 = 1 := rfl
      rw [e0] at hl ⊢
      rcases snocV st with rfl | ⟨l, v, rfl⟩
      · simp at hl
      · rw [if_pos rfl, (last1 l v).1, (last1 l v).2] at h
        cases h; simp
    · rw [if_neg k3] at h
      by_cases k4 : a = 4 ∨ a = 5 ∨ a = 6
      · have e0 : (needsR (a, b, c, ())).1 = 2 := by
          unfold needsR
          rcases k4 with rfl | rfl | rfl <;> rfl
        rw [e0] at hl ⊢
        rcases snocV st with rfl | ⟨l0, v, rfl⟩
        · simp at hl
        · rcases snocV l0 with rfl | ⟨l, w, rfl⟩
          · simp at hl
          · rw [if_pos k4, (last1 _ v).1, (last1 _ v).2, (last1 l w).1, (last1 l w).2] at h
            dsimp only at h
            split at h
            · cases h; simp; omega
            · split at h
              · cases h; simp; omega
              · split at h
                · cases h; simp; omega
                · cases h
      · rw [if_neg k4] at h
        have ha : a = 1 := by
          apply Classical.byContradiction
          intro h1'
          have : (needsR (a, b, c, ())).2 = false := by
            unfold needsR
            simp [h1', k2, k3, k4]
          rw [this] at hk
          cases hk
        subst ha
        have e0 : (needsR (1, b, c, ())).1 = 0 := rfl
        rw [e0]
        cases h; simp

def onE (f : List Val → List Val) : Except Int (List Val) → Except Int (List Val)
  | .ok l => .ok (f l)
  | .error e => .error e

/-- What lies below does not matter. -/
theorem step_base (labels : List Sym) (x : Item) (base st : List Val) (hl : ¬ (st.length : Int) < (needsR x).1) : stepR labels (base ++ st) x = onE (base ++ ·) (stepR labels st x) := by
  obtain ⟨a, b, c, u⟩ := x
  cases u
  unfold stepR
  dsimp only
  by_cases k2 : a = 2
  · subst k2
    rw [if_pos rfl, if_pos rfl]
    cases findR c labels with
    | none => rfl
    | some y => simp [onE]
  · rw [if_neg k2, if_neg k2]
    by_cases k3 : a = 3
    · subst k3
      have e0 : (needsR (3, b, c, ())).1 = 1 := rfl
      rw [e0] at hl
      rcases snocV st with rfl | ⟨l, v, rfl⟩
      · simp at hl
      · rw [if_pos rfl, if_pos rfl, ← List.append_assoc, (last1 (base ++ l) v).1, (last1 (base ++ l) v).2, (last1 l v).1, (last1 l v).2]
        simp [onE]
    · rw [if_neg k3, if_neg k3]
      by_cases k4 : a = 4 ∨ a = 5 ∨ a = 6
      · have e0 : (needsR (a, b, c, ())).1 = 2 := by
          unfold needsR
          rcases k4 with rfl | rfl | rfl <;> rfl
        rw [e0] at hl
        rcases snocV st with rfl | ⟨l0, v, rfl⟩
        · simp at hl
        · rcases snocV l0 with rfl | ⟨l, w, rfl⟩
          · simp at hl
          · rw [if_pos k4, if_pos k4, ← List.append_assoc, ← List.append_assoc, (last1 (base ++ l ++ [w]) v).1, (last1 (base ++ l ++ [w]) v).2, (last1 (base ++ l) w).1, (last1 (base ++ l) w).2, (last1 (l ++ [w]) v).1, (last1 (l ++ [w]) v).2, (last1 l w).1, (last1 l w).2]
            dsimp only
            split
            · simp [onE]
            · split
              · simp [onE]
              · split
                · simp [onE]
                · rfl
      · rw [if_neg k4, if_neg k4]
        simp [onE]

/-- Enough values are there for each item; so many there are at the end. -/
def enough : Int → List Item → Option Int
  | t, [] => some t
  | t, x :: r => if (needsR x).2 = true ∧ ¬ t < (needsR x).1 then enough (t + (1 - (needsR x).1)) r else none

theorem wellR_enough : ∀ (e : List Item) (t : Int), (wellR t e = true) = (enough t e = some 1)
  | [], t => by simp [wellR, enough]
  | x :: r, t => by
    simp only [wellR, enough, Bool.and_eq_true, Bool.not_eq_true', decide_eq_false_iff_not]
    by_cases h : (needsR x).2 = true ∧ ¬ t < (needsR x).1
    · rw [if_pos h, ← wellR_enough r]
      simp [h.1, h.2]
    · rw [if_neg h]
      apply propext
      constructor
      · intro h'; exact absurd ⟨h'.1, h'.2.1⟩ h
      · intro h'; cases h'

theorem enough_app : ∀ (a b : List Item) (t : Int), enough t (a ++ b) = (enough t a).bind fun k => enough k b
  | [], b, t => rfl
  | x :: a, b, t => by
    simp only [List.cons_append, enough]
    split
    · exact enough_app a b _
    · rfl

theorem run_base (labels : List Sym) : ∀ (e : List Item) (base st : List Val) (k : Int), enough (st.length : Int) e = some k → runR labels (base ++ st) e = onE (base ++ ·) (runR labels st e) ∧ ∀ st', runR labels st e = .ok st' → (st'.length : Int) = k
  | [], base, st, k, h => by
    simp only [enough, Option.some.injEq] at h
    exact ⟨rfl, fun st' h' => by cases h'; exact h⟩
  | x :: e, base, st, k, h => by
    simp only [enough] at h
    split at h
    · rename_i hc
      simp only [runR]
      rw [step_base labels x base st hc.2]
      cases hs : stepR labels st x with
      | error er => exact ⟨rfl, fun st' h' => by cases h'⟩
      | ok s2 =>
        have hl := step_len labels x st s2 hc.1 hc.2 hs
        rw [← hl] at h
        exact run_base labels e base s2 k h
    · cases h

end Rv
