/- A label with one byte more. -/
import Derived.Test.YtlbfhddhojejfaaDoorPName
set_option linter.all false
namespace Rv
open Go

theorem label_end {l : Str} (h : labelOk l = true) (b : UInt8) :
    labelOk (l ++ [b]) = (isW b && decide (l.length + 1 ≤ 12) && !(isD b && (decide (l = [82]) || (decide (l.length = 2) && decide (l.getD 0 0 = 82) && isD (l.getD 1 0))))) := by
  unfold labelOk at h ⊢
  simp only [Bool.and_eq_true, Bool.not_eq_true', decide_eq_true_eq] at h
  obtain ⟨⟨⟨⟨h1, h2⟩, h3⟩, h4⟩, h5⟩ := h
  match l, h1 with
  | a :: r, _ =>
    have e1 : decide (a :: r ++ [b] ≠ []) = true := by simp
    have e2 : (a :: r ++ [b]).getD 0 0 = a := by simp
    have e3 : isD a = false := by simpa using h3
    have e4 : (a :: r ++ [b]).all isW = isW b := by
      have : (a :: r).all isW = true := h4
      rw [List.all_append, this]; simp
    have e5 : (a :: r ++ [b]).length = (a :: r).length + 1 := by simp
    rw [e1, e2, e3, e4, e5]
    have e6 : regLike (a :: r ++ [b]) = (isD b && (decide (a :: r = [82]) || (decide ((a :: r).length = 2) && decide ((a :: r).getD 0 0 = 82) && isD ((a :: r).getD 1 0)))) := by
      unfold regLike
      match r with
      | [] => simp [Bool.and_comm]
      | [c] =>
        simp
        cases decide (a = 82) <;> cases isD c <;> cases isD b <;> rfl
      | c :: d :: t => simp
    rw [e6]
    generalize (isD b && (decide (a :: r = [82]) || (decide ((a :: r).length = 2) && decide ((a :: r).getD 0 0 = 82) && isD ((a :: r).getD 1 0)))) = z
    cases isW b <;> cases z <;> simp

theorem label_bad {l : Str} {b : UInt8} {k : Nat} (hb : isW b = false) : labelOk (l.take k ++ [b] ++ l.drop k) = false := by
  unfold labelOk
  have : (l.take k ++ [b] ++ l.drop k).all isW = false := by simp [hb]
  rw [this]; simp

theorem isW_eq (b : UInt8) : isW b = decide ((65 ≤ b.toNat ∧ b.toNat ≤ 90 ∨ 97 ≤ b.toNat ∧ b.toNat ≤ 122 ∨ b.toNat = 95) ∨ 48 ≤ b.toNat ∧ b.toNat ≤ 57) := by
  unfold isW isL isD
  simp only [Bool.decide_or]

theorem nlabels_eq (s : Str) (hs : s.length ≤ 9223372036854775807) (b c : UInt8) : rivetlaw13_NameLabels.g s (b.toNat : Int) (c.toNat : Int) = some (true, ()) := by
  unfold rivetlaw13_NameLabels.g
  generalize 1000 + s.length + (b.toNat : Int).toNat + (c.toNat : Int).toNat = n
  unfold rivetlaw13_NameLabels.f
  obtain ⟨l, hl, hlab, hlen, _⟩ := fit13_label (s.take 20) (by rw [List.length_take]; omega)
  rw [shown13, few13 s hs, Option.bind_some, Option.bind_some]
  dsimp only
  rw [hl, Option.bind_some]
  dsimp only
  have hX : ∀ w, w = isW b → rivetlaw13_NameLabels.j4 n (b.toNat : Int) (c.toNat : Int) true l w = some (true, ()) := by
    intro w hw
    unfold rivetlaw13_NameLabels.j4
    rw [bytesOf_one]
    have hc := c.toNat_lt
    have w1 : IntKind.i64.wrap ((l.length : Int) + 1) = ((l.length + 1 : Nat) : Int) := by rw [w64 (by omega)]; omega
    have w2 : IntKind.i64.wrap (c.toNat : Int) = (c.toNat : Int) := w64 (by omega)
    rw [w1, w2]
    obtain ⟨k, hk⟩ : ∃ k : Nat, Int.tmod (c.toNat : Int) ((l.length + 1 : Nat) : Int) = (k : Int) ∧ k ≤ l.length := by
      refine ⟨c.toNat % (l.length + 1), ?_, by have := Nat.mod_lt c.toNat (by omega : 0 < l.length + 1); omega⟩
      rfl
    obtain ⟨hk, hkl⟩ := hk
    rw [hk]
    simp only [Int.toNat_natCast, List.drop_zero]
    rw [if_pos (by simp; omega), if_neg (by omega), if_pos (by omega), if_pos (by simp; omega), if_pos (by omega), if_pos (by simp; omega)]
    have hin : (l.take k ++ [b] ++ (l.take l.length).drop k) = l.take k ++ [b] ++ l.drop k := by rw [List.take_length]
    rw [hin]
    have hY : ∀ d, d = isD b → rivetlaw13_NameLabels.j8 n true l w (l ++ [b]) (l.take k ++ [b] ++ l.drop k) d = some (true, ()) := by
      intro d hd
      have hZ : ∀ v, v = labelOk (l ++ [b]) → rivetlaw13_NameLabels.j9 n true l w (l ++ [b]) (l.take k ++ [b] ++ l.drop k) v = some (true, ()) := by
        intro v hv
        unfold rivetlaw13_NameLabels.j9
        have h1 : labelOk (49 :: l) = false := by
          unfold labelOk
          have : isD ((49 :: l : Str).getD 0 0) = true := by show isD 49 = true; decide
          rw [this]; simp
        have h0 : labelOk [] = false := by decide
        have h2 : ([49] : Str).length + l.length ≤ 9223372036854775807 := by simp; omega
        simp only [if_true, label_eq, Option.bind_some, hlab, hv, beq_self_eq_true, h0, Bool.not_false, h2, List.singleton_append, h1]
        cases hwb : isW b
        · rw [hw, hwb]
          have hbad := label_bad (l := l) (k := k) hwb
          rw [hbad]
          simp
        · rw [hw, hwb]
          simp
      unfold rivetlaw13_NameLabels.j8
      have hle := label_end hlab b
      rw [← hw, ← hd] at hle
      cases w with
      | false => exact hZ _ (by rw [hle]; simp)
      | true =>
        have h12 : l.length + 1 ≤ 12 := by omega
        have hle' : labelOk (l ++ [b]) = !(d && (decide (l = [82]) || (decide (l.length = 2) && decide (l.getD 0 0 = 82) && isD (l.getD 1 0)))) := by rw [hle]; simp [h12]
        clear hle
        rw [if_pos rfl, if_pos (by simp; omega)]
        cases d with
        | false =>
          rw [if_neg (by simp)]
          exact hZ _ (by rw [hle']; simp)
        | true =>
          rw [if_pos rfl]
          by_cases e1 : l = [82]
          · rw [if_neg (by simp [e1])]
            exact hZ _ (by rw [hle']; simp [e1])
          · rw [if_pos (by simp [e1])]
            by_cases e2 : l.length = 2
            · rw [if_pos (by simp; omega), if_pos (by omega)]
              match l, e2 with
              | [x, y], _ =>
                have b0 : bt [x, y] (0 : Int) = (x.toNat : Int) := rfl
                have b1 : bt [x, y] (1 : Int) = (y.toNat : Int) := rfl
                rw [b0, b1]
                have hx : ((x.toNat : Int) = 82) = (x = 82) := byte_is x 82 (by omega)
                by_cases e3 : x = 82
                · rw [if_pos (by simp [hx, e3]), if_pos (by simp)]
                  by_cases e4 : (48 : Int) ≤ (y.toNat : Int)
                  · rw [if_pos (by simpa using e4), if_pos (by simp)]
                    refine hZ _ ?_
                    rw [hle']
                    have : isD y = decide ((y.toNat : Int) ≤ 57) := by
                      unfold isD
                      exact decide_eq_decide.2 (by omega)
                    simp [e3, this]
                  · rw [if_neg (by simpa using e4)]
                    refine hZ _ ?_
                    rw [hle']
                    have : isD y = false := by
                      unfold isD
                      exact decide_eq_false (by omega)
                    simp [this]
                · rw [if_neg (by simp [hx, e3])]
                  refine hZ _ ?_
                  rw [hle']
                  simp [e3]
            · rw [if_neg (by simp; omega)]
              refine hZ _ ?_
              rw [hle']
              simp [e1, e2]
    by_cases h48 : (48 : Int) ≤ (b.toNat : Int)
    · rw [if_pos (by simpa using h48)]
      exact hY _ (by unfold isD; exact decide_eq_decide.2 (by omega))
    · rw [if_neg (by simpa using h48)]
      exact hY _ (by unfold isD; exact (decide_eq_false (by omega)).symm)
  clear hl
  have hb := b.toNat_lt
  simp only [dt, df]
  repeat' split
  all_goals (refine hX _ ?_; rw [isW_eq]; first | exact (decide_eq_true (by omega)).symm | exact (decide_eq_false (by omega)).symm | exact decide_eq_decide.2 (by omega))

theorem nlabels_wf {s : Str} {x y : Int} (h : s.length ≤ maxLen ∧ (Lit.int .u8 x).wf = true ∧ (Lit.int .u8 y).wf = true ∧ True) : rivetlaw13_NameLabels.g s x y = some (true, ()) := by
  obtain ⟨h1, h2, h3, _⟩ := h
  obtain ⟨b, hb⟩ := u8_of h2
  obtain ⟨c, hc⟩ := u8_of h3
  rw [hb, hc]
  exact nlabels_eq s (wfLen h1) b c
end Rv
