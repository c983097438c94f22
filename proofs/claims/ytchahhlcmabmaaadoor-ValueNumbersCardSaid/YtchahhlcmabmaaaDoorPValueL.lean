/- The loop of value.Of. -/
import Derived.Test.YtchahhlcmabmaaaDoorPValue
set_option linter.all false
namespace Rv
open Go

def lastV (st : List Val) : Option (Int × Int × Int × Unit) :=
  match st.getLast? with
  | some v => some (v.1, v.2.1, 0, ())
  | none => none

theorem of_push (labels : List Sym) (e : List Item) (n : Nat) (rl) (t : Int) (i : Nat) (hi : i ≤ 1000) (b0 b1 : Int) (st : List Val) (hst : st.length ≤ 1000) (v0 v1 : Int) :
    value_Of.j27 n rl labels e t (i : Int) b0 b1 st v0 v1 = rl labels e t ((i + 1 : Nat) : Int) b0 b1 (st ++ [(v0, v1, ())]) := by
  unfold value_Of.j27
  rw [if_pos (by simp; omega), w64 (by omega)]
  rfl

theorem snocV (st : List Val) : st = [] ∨ ∃ l v, st = l ++ [v] := by
  rcases List.eq_nil_or_concat st with h | ⟨l, v, h⟩
  · exact .inl h
  · exact .inr ⟨l, v, by rw [h, List.concat_eq_append]⟩

theorem last1 (l : List Val) (v : Val) : (l ++ [v]).getLast? = some v ∧ (l ++ [v]).dropLast = l := by simp

theorem of_loop (labels : List Sym) (hlab : labels.length ≤ 4611686018427387904) (e : List Item) (he : e.length ≤ 999) (n : Nat) : ∀ (m i : Nat) (st : List Val) (b0 b1 : Int), i ≤ e.length → e.length - i < m → wellR (st.length : Int) (e.drop i) = true → st.length ≤ i →
    value_Of.l5 n m labels e (e.length : Int) (i : Int) b0 b1 st = match runR labels st (e.drop i) with
      | .error x => some (0, 0, x, ())
      | .ok st' => lastV st' := by
  intro m
  induction m with
  | zero => intro i st b0 b1 _ h; omega
  | succ m ih =>
    intro i st b0 b1 hi hm hw hst
    by_cases h1 : i < e.length
    · have hx : e.drop i = e.getD i ((0 : Int), ((0 : Int), (([] : Str), ()))) :: e.drop (i + 1) := by
        rw [List.drop_eq_getElem_cons h1, List.getD_eq_getElem?_getD, List.getElem?_eq_getElem h1]; rfl
      rw [hx] at hw ⊢
      simp only [value_Of.l5, dt, df]
      rw [if_pos (by omega), if_pos (by omega), Int.toNat_natCast]
      generalize e.getD i ((0 : Int), ((0 : Int), (([] : Str), ()))) = x at hw ⊢
      obtain ⟨a, b, c, u⟩ := x
      cases u
      simp only [wellR, Bool.and_eq_true, Bool.not_eq_true', decide_eq_false_iff_not] at hw
      obtain ⟨hk, hlt, hw⟩ := hw
      have next : ∀ (s : List Val) (v0 v1 : Int), s.length + 1 ≤ i + 1 → wellR ((s.length + 1 : Nat) : Int) (e.drop (i + 1)) = true →
          value_Of.j27 n (value_Of.l5 n m) labels e (e.length : Int) (i : Int) b0 b1 s v0 v1 = match runR labels (s ++ [(v0, v1, ())]) (e.drop (i + 1)) with
            | .error x => some (0, 0, x, ())
            | .ok st' => lastV st' := fun s v0 v1 hs hws => by
        rw [of_push labels e n _ _ i (by omega) b0 b1 s (by omega) v0 v1]
        exact ih (i + 1) _ b0 b1 (by omega) (by omega) (by simpa using hws) (by simpa using hs)
      simp only [runR, stepR]
      by_cases k2 : a = 2
      · subst k2
        rw [if_pos rfl, if_pos rfl, find_eq labels c hlab, Option.bind_some]
        have e0 : (needsR (2, b, c, ())).1 = 0 := rfl
        rw [e0] at hw
        cases hf : findR c labels with
        | none => rfl
        | some at_ =>
          dsimp only [Option.isSome, Option.getD]
          rw [if_neg (by simp)]
          exact next st _ 1 (by omega) (by simpa using hw)
      · rw [if_neg k2, if_neg k2]
        by_cases k3 : a = 3
        · subst k3
          have e0 : (needsR (3, b, c, ())).1 = 1 := rfl
          rw [e0] at hlt hw
          rcases snocV st with rfl | ⟨l, v, rfl⟩
          · simp at hlt
          · obtain ⟨g1, g2⟩ := last1 l v
            rw [if_pos rfl, if_pos rfl, g1, g2, pop_eq l v (by simp at hst; omega), Option.bind_some]
            dsimp only
            rw [times_neg, Option.bind_some]
            exact next l _ _ (by simp at hst; omega) (by simpa using hw)
        · rw [if_neg k3, if_neg k3]
          by_cases k4 : a = 4 ∨ a = 5 ∨ a = 6
          · have e0 : (needsR (a, b, c, ())).1 = 2 := by
              unfold needsR
              rcases k4 with rfl | rfl | rfl <;> rfl
            rw [e0] at hlt hw
            rcases snocV st with rfl | ⟨l0, v, rfl⟩
            · simp at hlt
            · rcases snocV l0 with rfl | ⟨l, w, rfl⟩
              · simp at hlt
              · obtain ⟨g1, g2⟩ := last1 (l ++ [w]) v
                obtain ⟨g3, g4⟩ := last1 l w
                have hl : l.length ≤ 1000 := by simp at hst; omega
                have hn := next l
                rw [if_pos k4, g1, g2, g3, g4, pop_eq (l ++ [w]) v (by simp; omega), Option.bind_some]
                dsimp only
                have hp2 := pop_eq l w (by omega)
                simp only [hp2, Option.bind_some, sum_eq, times_neg, u32_add_neg, i64_add_neg]
                have hs1 : l.length + 1 ≤ i + 1 := by simp at hst; omega
                have hw1 : wellR ((l.length + 1 : Nat) : Int) (e.drop (i + 1)) = true := by
                  have : ((l ++ [w] ++ [v]).length : Int) + (1 - 2) = ((l.length + 1 : Nat) : Int) := by simp; omega
                  rw [← this]; exact hw
                rcases k4 with rfl | rfl | rfl
                · rw [if_pos rfl, if_pos rfl, Int.add_comm v.1 w.1, Int.add_comm v.2.1 w.2.1]
                  exact next l _ _ hs1 hw1
                · rw [if_neg (show ¬ (5 : Int) = 4 by decide), if_neg (show ¬ (5 : Int) = 4 by decide), if_pos rfl, if_pos rfl]
                  exact next l _ _ hs1 hw1
                · rw [if_neg (show ¬ (6 : Int) = 4 by decide), if_neg (show ¬ (6 : Int) = 4 by decide), if_neg (show ¬ (6 : Int) = 5 by decide), if_neg (show ¬ (6 : Int) = 5 by decide), if_pos rfl]
                  by_cases z1 : v.2.1 = 0
                  · by_cases z2 : w.2.1 = 0
                    · rw [if_pos (show w.2.1 = 0 ∧ v.2.1 = 0 from ⟨z2, z1⟩)]
                      simp only [z1, z2, decide_true, Bool.and_self, Bool.not_true, if_true]
                      rw [if_neg (by decide), Int.mul_comm v.1 w.1]
                      exact next l _ _ hs1 hw1
                    · rw [if_neg (show ¬ (w.2.1 = 0 ∧ v.2.1 = 0) from fun h => z2 h.1)]
                      simp [z1, z2]
                  · rw [if_neg (show ¬ (w.2.1 = 0 ∧ v.2.1 = 0) from fun h => z1 h.2)]
                    simp [z1]
          · have ha : a = 1 := by
              apply Classical.byContradiction
              intro h1'
              have : (needsR (a, b, c, ())).2 = false := by
                unfold needsR
                simp [h1', k2, k3, k4]
              rw [this] at hk
              cases hk
            subst ha
            have e0 : (needsR (1, b, c, ())).1 = 0 := rfl
            rw [e0] at hw
            rw [if_neg k4, if_neg (show ¬ (1 : Int) = 4 by decide), if_neg (show ¬ (1 : Int) = 5 by decide), if_neg (show ¬ (1 : Int) = 6 by decide)]
            exact next st b 0 (by omega) (by simpa using hw)
    · have hi' : i = e.length := by omega
      subst hi'
      simp only [value_Of.l5, dt]
      rw [if_neg (by omega), List.drop_length]
      simp only [runR]
      rw [List.drop_length] at hw
      rcases snocV st with rfl | ⟨l, v, rfl⟩
      · simp [wellR] at hw
      · rw [pop_eq l v (by simp at hst; omega), Option.bind_some]
        simp [lastV]

/-- What an expression comes to: number, addresses, error. -/
def ofR (labels : List Sym) (e : List Item) : Option (Int × Int × Int × Unit) :=
  if well e = true then (match runR labels [] e with
    | .error x => some (0, 0, x, ())
    | .ok st => lastV st)
  else some (0, 0, 23, ())

theorem of_eq (labels : List Sym) (hlab : labels.length ≤ 4611686018427387904) (e : List Item) (he : e.length ≤ 4611686018427387904) : value_Of.g e labels = ofR labels e := by
  unfold value_Of.g value_Of.f ofR
  rw [well_eq e he, Option.bind_some]
  dsimp only
  by_cases hw : well e = true
  · rw [hw, if_neg (by decide), if_pos rfl]
    unfold well at hw
    rw [Bool.and_eq_true, decide_eq_true_eq] at hw
    exact of_loop labels hlab e (by omega) _ _ 0 [] 0 0 (by omega) (by omega) (by simpa using hw.1) (by simp)
  · have hw' : well e = false := by simpa using hw
    rw [hw']
    rfl

end Rv
