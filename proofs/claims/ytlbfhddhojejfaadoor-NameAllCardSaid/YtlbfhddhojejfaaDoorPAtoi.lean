/- A number in ten is read, or told to be none: never is there no answer. -/
import Derived.Test.YtlbfhddhojejfaaDoorPNameT
set_option linter.all false
namespace Rv
open Go
set_option maxRecDepth 100000

/-- An answer: no error, or one of the two kinds. -/
def okE (r : Option (Int × Option Int × Unit)) : Prop := ∃ v e, r = some (v, e, ()) ∧ (e = none ∨ e = some 1 ∨ e = some 2)
theorem okE_none {v : Int} : okE (some (v, none, ())) := ⟨_, _, rfl, .inl rfl⟩
theorem okE_one {v : Int} : okE (some (v, some 1, ())) := ⟨_, _, rfl, .inr (.inl rfl)⟩
theorem okE_two {v : Int} : okE (some (v, some 2, ())) := ⟨_, _, rfl, .inr (.inr rfl)⟩

theorem lower_some (c : Int) : internal_strconv_lower.g c = some (bitsI .or .u8 c 32, ()) := rfl

theorem pa_loop (s09 : Str) (c mv : Int) (l : List Int) (hl : l.length ≤ 1000000) (n : Nat) : ∀ (m i : Nat), i ≤ l.length → l.length - i < m → ∀ v, okE (internal_strconv_ParseUint.l36 n m 10 false s09 c mv false v l (l.length : Int) (i : Int)) := by
  intro m
  induction m with
  | zero => intro i _ h; omega
  | succ m ih =>
    intro i hi hm v
    unfold internal_strconv_ParseUint.l36
    by_cases hlt : i < l.length
    · rw [if_pos (by simp; omega), if_pos (by omega)]
      have w1 : IntKind.i64.wrap ((i : Int) + 1) = ((i + 1 : Nat) : Int) := by rw [w64 (by omega)]; omega
      have h46 : ∀ d, okE (internal_strconv_ParseUint.j46 n (internal_strconv_ParseUint.l36 n m) 10 false s09 c mv false v d l (l.length : Int) (i : Int)) := by
        intro d
        unfold internal_strconv_ParseUint.j46
        split
        · exact okE_two
        · split
          · exact okE_one
          · split
            · split
              · exact okE_one
              · unfold internal_strconv_ParseUint.j55
                rw [w1]
                exact ih (i + 1) (by omega) (by omega) _
            · exact okE_one
      simp only [lower_some, Option.bind_some, Bool.false_eq_true, if_false]
      generalize hb : l.getD (i : Int).toNat 0 = b
      by_cases e1 : b = 95
      · rw [if_pos (by simp [e1])]
        split
        · split
          · exact h46 _
          · split
            · split
              · exact h46 _
              · exact okE_two
            · exact okE_two
        · split
          · split
            · exact h46 _
            · exact okE_two
          · exact okE_two
      · rw [if_neg (by simp [e1])]
        split
        · split
          · exact h46 _
          · split
            · split
              · exact h46 _
              · exact okE_two
            · exact okE_two
        · split
          · split
            · exact h46 _
            · exact okE_two
          · exact okE_two
    · rw [if_neg (by simp; omega)]
      simp only [Bool.false_eq_true, if_false]
      exact okE_none

theorem pu_ok (s : Str) (hs : s.length ≤ 1000000) : okE (internal_strconv_ParseUint.g s 10 0) := by
  unfold internal_strconv_ParseUint.g internal_strconv_ParseUint.f
  by_cases h0 : s = []
  · rw [if_pos (by simp [h0])]; exact okE_two
  · rw [if_neg (by simp [h0]), if_pos (by decide), if_pos (by decide)]
    unfold internal_strconv_ParseUint.j21
    rw [if_pos (by decide)]
    unfold internal_strconv_ParseUint.j25
    rw [if_pos (by decide)]
    unfold internal_strconv_ParseUint.j32
    rw [if_neg (by decide)]
    have hd : decide ((10 : Int) = 0) = false := by decide
    rw [hd]
    have hz : (0 : Int) = ((0 : Nat) : Int) := rfl
    have := pa_loop s 1844674407370955162 (IntKind.u64.wrap ((IntKind.u64.wrap ((1 : Int) * 2 ^ (min (IntKind.u64.wrap 64).toNat IntKind.u64.bits))) - (1 : Int))) (s.map fun b => (b.toNat : Int)) (by simpa using hs) (1000 + s.length + (10 : Int).toNat + (0 : Int).toNat) (1000 + s.length + (10 : Int).toNat + (0 : Int).toNat) 0 (by simp) (by simp; omega) 0
    exact this

theorem pi21 (n : Nat) (g : Bool) (v : Int) : okE (internal_strconv_ParseInt.j21 n g v) := by
  unfold internal_strconv_ParseInt.j21
  split <;> exact okE_none

theorem pi19 (n : Nat) (g : Bool) (v c : Int) : okE (internal_strconv_ParseInt.j19 n g v c) := by
  unfold internal_strconv_ParseInt.j19
  split
  · split
    · exact okE_one
    · exact pi21 _ _ _
  · exact pi21 _ _ _

theorem pi16 (n : Nat) (g : Bool) (v : Int) : okE (internal_strconv_ParseInt.j16 n 64 g v) := by
  unfold internal_strconv_ParseInt.j16
  have h : ¬ IntKind.u64.wrap (IntKind.i64.wrap (64 - 1)) < 0 := by rw [w64 (by omega), w64u (by omega)]; omega
  rw [if_neg h]
  generalize IntKind.u64.wrap ((1 : Int) * 2 ^ (min (IntKind.u64.wrap (IntKind.i64.wrap (64 - 1))).toNat IntKind.u64.bits)) = c
  split
  · split
    · exact okE_one
    · exact pi19 _ _ _ _
  · exact pi19 _ _ _ _

theorem pi14 (n : Nat) (g : Bool) (v : Int) : okE (internal_strconv_ParseInt.j14 n 0 g v) := by
  unfold internal_strconv_ParseInt.j14
  rw [if_pos (by decide)]
  exact pi16 _ _ _

theorem pi_ok (s : Str) (hs : s.length ≤ 1000000) : okE (internal_strconv_ParseInt.g s 10 0) := by
  unfold internal_strconv_ParseInt.g internal_strconv_ParseInt.f
  generalize 1000 + s.length + (10 : Int).toNat + (0 : Int).toNat = n
  have h10 : ∀ (t : Str) g, t.length ≤ 1000000 → okE (internal_strconv_ParseInt.j10 n t 10 0 g) := fun t g ht => by
    unfold internal_strconv_ParseInt.j10
    obtain ⟨v, e, he, h⟩ := pu_ok t ht
    rw [he, Option.bind_some]
    dsimp only
    rcases h with rfl | rfl | rfl
    · rw [if_neg (by decide)]; exact pi14 _ _ _
    · rw [if_pos (by decide), if_neg (by simp)]; exact pi14 _ _ _
    · rw [if_pos (by decide), if_pos (by simp)]; exact okE_two
  by_cases h0 : s = []
  · rw [if_pos (by simp [h0])]; exact okE_two
  · rw [if_neg (by simp [h0])]
    have hlen : 0 < s.length := List.length_pos_iff.2 h0
    have ht : ((s.take ((s.length : Int)).toNat).drop ((1 : Int)).toNat).length ≤ 1000000 := by simp; omega
    rw [if_pos (by omega)]
    split
    · rw [if_pos (by omega)]; exact h10 _ _ ht
    · split
      · rw [if_pos (by omega)]; exact h10 _ _ ht
      · exact h10 _ _ hs

theorem at_loop (s05 : Str) (h5 : s05 ≠ []) (l : List Int) (hl : l.length ≤ 1000000) (n : Nat) : ∀ (m i : Nat), i ≤ l.length → l.length - i < m → ∀ v, okE (internal_strconv_Atoi.l10 n m s05 v l (l.length : Int) (i : Int)) := by
  intro m
  induction m with
  | zero => intro i _ h; omega
  | succ m ih =>
    intro i hi hm v
    unfold internal_strconv_Atoi.l10
    by_cases hlt : i < l.length
    · rw [if_pos (by simp; omega), if_pos (by omega)]
      have w1 : IntKind.i64.wrap ((i : Int) + 1) = ((i + 1 : Nat) : Int) := by rw [w64 (by omega)]; omega
      split
      · exact okE_two
      · rw [w1]
        exact ih (i + 1) (by omega) (by omega) _
    · rw [if_neg (by simp; omega)]
      have hlen : 0 < s05.length := List.length_pos_iff.2 h5
      rw [if_pos (by omega)]
      split <;> exact okE_none

theorem ia_ok (s : Str) (hs : s.length ≤ 1000000) : okE (internal_strconv_Atoi.g s) := by
  unfold internal_strconv_Atoi.g internal_strconv_Atoi.f
  obtain ⟨n, hn⟩ : ∃ n, 1000 + s.length = n := ⟨_, rfl⟩
  rw [hn]
  have h8 : ∀ t : Str, t.length ≤ s.length → s ≠ [] → okE (internal_strconv_Atoi.j8 n t s) := fun t ht h0 => by
    unfold internal_strconv_Atoi.j8
    have := at_loop s h0 (t.map fun b => (b.toNat : Int)) (by simp; omega) n n 0 (by simp) (by simp; omega) 0
    exact this
  have h20 : okE (internal_strconv_Atoi.j20 n s) := by
    unfold internal_strconv_Atoi.j20
    obtain ⟨v, e, he, h⟩ := pi_ok s hs
    rw [he, Option.bind_some]
    exact ⟨v, e, rfl, h⟩
  by_cases h0 : s = []
  · rw [if_neg (by simp [h0])]; exact h20
  · have hlen : 0 < s.length := List.length_pos_iff.2 h0
    have ht : ((s.take ((s.length : Int)).toNat).drop ((1 : Int)).toNat).length ≤ s.length := by simp
    have h6 : okE (internal_strconv_Atoi.j6 n ((s.take ((s.length : Int)).toNat).drop ((1 : Int)).toNat) s) := by
      unfold internal_strconv_Atoi.j6
      split
      · exact okE_two
      · exact h8 _ ht h0
    rw [if_pos (by simp; omega)]
    split
    · rw [if_pos (by omega)]
      split
      · rw [if_pos (by omega)]
        split
        · rw [if_pos (by omega)]; exact h6
        · exact h8 _ (Nat.le_refl _) h0
      · rw [if_pos (by omega)]; exact h6
    · exact h20

theorem atoi_some (s : Str) (hs : s.length ≤ 1000000) : ∃ v b, strconv_Atoi.g s = some (v, b, ()) := by
  unfold strconv_Atoi.g strconv_Atoi.f
  obtain ⟨v, e, he, h⟩ := ia_ok s hs
  rw [he, Option.bind_some]
  dsimp only
  rcases h with rfl | rfl | rfl
  · exact ⟨_, _, rfl⟩
  · have : L.toErrorO ([65, 116, 111, 105] : Str) s 0 0 (some 1) = some (false, ()) := by unfold L.toErrorO; rw [if_pos ⟨by omega, Or.inl rfl⟩]
    rw [if_pos (by decide), this]
    exact ⟨_, _, rfl⟩
  · have : L.toErrorO ([65, 116, 111, 105] : Str) s 0 0 (some 2) = some (false, ()) := by unfold L.toErrorO; rw [if_pos ⟨by omega, Or.inr rfl⟩]
    rw [if_pos (by decide), this]
    exact ⟨_, _, rfl⟩
end Rv
