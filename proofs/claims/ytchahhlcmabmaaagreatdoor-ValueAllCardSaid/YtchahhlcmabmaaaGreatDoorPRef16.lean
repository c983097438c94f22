/- The document's values are the code's. -/
import Derived.Test.YtchahhlcmabmaaaGreatDoorPRef15
import Derived.Test.YtchahhlcmabmaaaGreatDoorPNamed
set_option linter.all false
namespace Rv
open Go

theorem rof_push (labels : List Sym) (e : List Item) (n : Nat) (rl) (i : Nat) (hi : i ≤ 1000) (b0 b1 : Int) (st tl : List Val) (hst : st.length + tl.length ≤ 1000) (v0 v1 : Int) :
    rivetref16_Of.j29 n rl e labels (st ++ tl) (i : Int) (st.length : Int) b0 b1 v0 v1 = rl e labels (st ++ [(v0, v1, ())]) ((i + 1 : Nat) : Int) b0 b1 := by
  unfold rivetref16_Of.j29
  rw [if_pos (by simp; omega), Int.toNat_natCast, List.take_left, List.nil_append, if_pos (by simp; omega), if_pos (by simp; omega), w64 (by omega)]
  rfl

theorem rof_loop (labels : List Sym) (hlab : labels.length ≤ 4611686018427387904) (e : List Item) (he : e.length ≤ 999) (n : Nat) : ∀ (m i : Nat) (st : List Val) (b0 b1 : Int), i ≤ e.length → e.length - i < m → wellR (st.length : Int) (e.drop i) = true → st.length ≤ i →
    rivetref16_Of.l5 n m e labels st (i : Int) b0 b1 = match runR labels st (e.drop i) with
      | .error x => some (0, 0, x, ())
      | .ok st' => lastV st' := by
  intro m
  induction m with
  | zero => intro i st b0 b1 _ h; omega
  | succ m ih =>
    intro i st b0 b1 hi hm hw hst
    rw [rivetref16_Of.l5]
    simp only [dt, df, Int.toNat_natCast]
    by_cases h1 : i < e.length
    · have hx : e.drop i = e.getD i ((0 : Int), ((0 : Int), (([] : Str), ()))) :: e.drop (i + 1) := by
        rw [List.drop_eq_getElem_cons h1, List.getD_eq_getElem?_getD, List.getElem?_eq_getElem h1]; rfl
      rw [hx] at hw ⊢
      rw [if_pos (by omega), if_pos (by omega), if_pos (by omega)]
      generalize e.getD i ((0 : Int), ((0 : Int), (([] : Str), ()))) = x at hw ⊢
      obtain ⟨a, b, c, u⟩ := x
      cases u
      simp only [wellR, Bool.and_eq_true, Bool.not_eq_true', decide_eq_false_iff_not] at hw
      obtain ⟨hk, hlt, hw⟩ := hw
      have next : ∀ (s tl : List Val) (v0 v1 : Int), s.length + tl.length ≤ 1000 → s.length + 1 ≤ i + 1 → wellR ((s.length + 1 : Nat) : Int) (e.drop (i + 1)) = true →
          rivetref16_Of.j29 n (rivetref16_Of.l5 n m) e labels (s ++ tl) (i : Int) (s.length : Int) b0 b1 v0 v1 = match runR labels (s ++ [(v0, v1, ())]) (e.drop (i + 1)) with
            | .error x => some (0, 0, x, ())
            | .ok st' => lastV st' := fun s tl v0 v1 hs1 hs hws => by
        rw [rof_push labels e n _ i (by omega) b0 b1 s tl hs1 v0 v1]
        exact ih (i + 1) _ b0 b1 (by omega) (by omega) (by simpa using hws) (by simpa using hs)
      simp only [runR, stepR]
      by_cases k2 : a = 2
      · subst k2
        rw [if_pos rfl, if_pos rfl, if_pos (by omega), find16_eq labels c hlab, Option.bind_some]
        have e0 : (needsR (2, b, c, ())).1 = 0 := rfl
        rw [e0] at hw
        cases hf : findR c labels with
        | none => rfl
        | some at_ =>
          dsimp only [Option.isSome, Option.getD]
          rw [if_neg (by simp)]
          have := next st [] (IntKind.u32.wrap at_) 1 (by simp; omega) (by omega) (by simpa using hw)
          rwa [List.append_nil] at this
      · rw [if_neg k2, if_neg k2]
        by_cases k3 : a = 3
        · subst k3
          have e0 : (needsR (3, b, c, ())).1 = 1 := rfl
          rw [e0] at hlt hw
          rcases snocV st with rfl | ⟨l, v, rfl⟩
          · simp at hlt
          · obtain ⟨g1, g2⟩ := last1 l v
            have hw1 : IntKind.i64.wrap (((l ++ [v]).length : Int) - 1) = (l.length : Int) := by rw [w64 (by simp at hst ⊢; omega)]; simp
            have hgd : (l ++ [v]).getD l.length ((0 : Int), ((0 : Int), ())) = v := by
              rw [List.getD_eq_getElem?_getD, List.getElem?_append_right (Nat.le_refl _)]; simp
            rw [if_pos rfl, if_pos rfl, g1, g2, hw1, if_pos (by simp; omega), if_pos (by simp; omega)]
            simp only [Int.toNat_natCast, hgd]
            exact next l [v] _ _ (by simp at hst ⊢; omega) (by simp at hst; omega) (by simpa using hw)
        · rw [if_neg k3, if_neg k3]
          by_cases k4 : a = 4 ∨ a = 5 ∨ a = 6
          · have e0 : (needsR (a, b, c, ())).1 = 2 := by
              unfold needsR
              rcases k4 with rfl | rfl | rfl <;> rfl
            rw [e0] at hlt hw
            rcases snocV st with rfl | ⟨l0, v, rfl⟩
            · simp at hlt
            · rcases snocV l0 with rfl | ⟨l, w, rfl⟩
              · simp at hlt
              · obtain ⟨g1, g2⟩ := last1 (l ++ [w]) v
                obtain ⟨g3, g4⟩ := last1 l w
                rw [if_pos k4, g1, g2, g3, g4]
                dsimp only
                have hw1 : IntKind.i64.wrap (((l ++ [w] ++ [v]).length : Int) - 2) = (l.length : Int) := by rw [w64 (by simp at hst ⊢; omega)]; simp <;> omega
                have hw2 : IntKind.i64.wrap ((l.length : Int) + 1) = ((l.length + 1 : Nat) : Int) := by rw [w64 (by simp at hst; omega)]; omega
                have hd1 : (l ++ [w] ++ [v]).getD l.length ((0 : Int), ((0 : Int), ())) = w := by
                  rw [List.append_assoc, List.getD_eq_getElem?_getD, List.getElem?_append_right (Nat.le_refl _)]; simp
                have hd2 : (l ++ [w] ++ [v]).getD (l.length + 1) ((0 : Int), ((0 : Int), ())) = v := by
                  rw [List.append_assoc, List.getD_eq_getElem?_getD, List.getElem?_append_right (by omega)]; simp
                have hlen : (l ++ [w] ++ [v]).length = l.length + 2 := by simp
                have hc1 : 0 ≤ (l.length : Int) ∧ (l.length : Int) < ((l ++ [w] ++ [v]).length : Int) := by rw [hlen]; omega
                have hc2 : 0 ≤ ((l.length + 1 : Nat) : Int) ∧ ((l.length + 1 : Nat) : Int) < ((l ++ [w] ++ [v]).length : Int) := by rw [hlen]; omega
                simp only [hw1, hw2, Int.toNat_natCast, hd1, hd2]
                have hs1 : l.length + 1 ≤ i + 1 := by simp at hst; omega
                have hwx : wellR ((l.length + 1 : Nat) : Int) (e.drop (i + 1)) = true := by
                  have : ((l ++ [w] ++ [v]).length : Int) + (1 - 2) = ((l.length + 1 : Nat) : Int) := by simp; omega
                  rw [← this]; exact hw
                have hn := fun v0 v1 => next l ([w] ++ [v]) v0 v1 (by simp at hst ⊢; omega) hs1 hwx
                rw [← List.append_assoc] at hn
                rcases k4 with rfl | rfl | rfl
                · rw [if_pos rfl, if_pos rfl, if_pos hc1, if_pos hc2, if_pos hc1, if_pos hc2]
                  exact hn _ _
                · rw [if_neg (show ¬ (5 : Int) = 4 by decide), if_neg (show ¬ (5 : Int) = 4 by decide), if_pos rfl, if_pos rfl, if_pos hc1, if_pos hc2, if_pos hc1, if_pos hc2]
                  exact hn _ _
                · rw [if_neg (show ¬ (6 : Int) = 4 by decide), if_neg (show ¬ (6 : Int) = 4 by decide), if_neg (show ¬ (6 : Int) = 5 by decide), if_neg (show ¬ (6 : Int) = 5 by decide), if_pos rfl, if_pos hc1]
                  by_cases z1 : w.2.1 = 0
                  · rw [if_pos (by simpa using z1), if_pos hc2]
                    by_cases z2 : v.2.1 = 0
                    · rw [if_neg (by simpa using z2), if_pos hc1, if_pos hc2, if_pos ⟨z1, z2⟩]
                      exact hn _ _
                    · rw [if_pos z2, if_neg (show ¬ (w.2.1 = 0 ∧ v.2.1 = 0) from fun h => z2 h.2)]
                  · rw [if_neg (by simpa using z1), if_neg (show ¬ (w.2.1 = 0 ∧ v.2.1 = 0) from fun h => z1 h.1)]
          · have ha : a = 1 := by
              apply Classical.byContradiction
              intro h1'
              have : (needsR (a, b, c, ())).2 = false := by
                unfold needsR
                simp [h1', k2, k3, k4]
              rw [this] at hk
              cases hk
            subst ha
            have e0 : (needsR (1, b, c, ())).1 = 0 := rfl
            rw [e0] at hw
            rw [if_neg k4, if_neg (show ¬ (1 : Int) = 4 by decide), if_neg (show ¬ (1 : Int) = 5 by decide), if_neg (show ¬ (1 : Int) = 6 by decide)]
            have := next st [] b 0 (by simp; omega) (by omega) (by simpa using hw)
            rwa [List.append_nil] at this
    · have hi' : i = e.length := by omega
      subst hi'
      rw [if_neg (by omega), List.drop_length]
      simp only [runR]
      rw [List.drop_length] at hw
      simp only [wellR, decide_eq_true_eq] at hw
      match st, hw with
      | [v], _ =>
        rw [if_pos (by simp)]
        rfl
      | [], hw => simp at hw
      | _ :: _ :: _, hw => simp at hw; omega

theorem rof_eq (labels : List Sym) (hlab : labels.length ≤ 4611686018427387904) (e : List Item) (he : e.length ≤ 100000) (hn : ∀ x ∈ e, x.2.2.1.length ≤ 100000) : rivetref16_Of.g e labels = ofR labels e := by
  unfold rivetref16_Of.g rivetref16_Of.f ofR
  rw [rwell_eq e he hn, Option.bind_some]
  dsimp only
  by_cases hw : well e = true
  · rw [hw, if_neg (by decide), if_pos rfl]
    unfold well at hw
    rw [Bool.and_eq_true, decide_eq_true_eq] at hw
    exact rof_loop labels hlab e (by omega) _ _ 0 [] 0 0 (by omega) (by omega) (by simpa using hw.1) (by simp)
  · have hw' : well e = false := by simpa using hw
    rw [hw']
    rfl

end Rv
