/- ExprDeep: the plain law. -/
import Derived.Test.YtchahhlcmabmaaaDoorPDeepB
set_option linter.all false
namespace Rv
open Go

theorem shown15_eq : rivetlaw15_shown.g = some (true, ()) := by decide +kernel

theorem deep_at {i k : Nat} (hi : i < 16) (hk : k < 16) : ∃ t x m f, scan_Line.g (mnS k (brS i)) = some (t, 0, ()) ∧ expr_Parse.g t 0 = some (x, m, f, ()) ∧ (if 8 < i + k then f = 24 ∧ x.length = 0 else (f = 0 ∧ x.length = 1 + k) ∧ m = t.length) := by
  have h := deep_all hi hk
  unfold deepB at h
  split at h
  · rename_i t e u hs
    split at h
    · rename_i x m f u' hp
      simp only [Bool.and_eq_true, decide_eq_true_eq] at h
      obtain ⟨rfl, h⟩ := h
      refine ⟨t, x, m, f, hs, hp, ?_⟩
      split
      · rename_i hd; rw [if_pos hd] at h; simpa using h
      · rename_i hd; rw [if_neg hd] at h; simpa using h
    · cases h
  · cases h

theorem long_at {j : Nat} (hj : j < 64) : ∃ t x m f, scan_Line.g (onS j) = some (t, 0, ()) ∧ expr_Parse.g t 0 = some (x, m, f, ()) ∧ (if 64 < 2 * j + 1 then f = 24 ∧ x.length = 0 else (f = 0 ∧ x.length = 2 * j + 1) ∧ m = t.length) := by
  have h := long_all hj
  unfold longB at h
  split at h
  · rename_i t e u hs
    split at h
    · rename_i x m f u' hp
      simp only [Bool.and_eq_true, decide_eq_true_eq] at h
      obtain ⟨rfl, h⟩ := h
      refine ⟨t, x, m, f, hs, hp, ?_⟩
      split
      · rename_i hd; rw [if_pos hd] at h; simpa using h
      · rename_i hd; rw [if_neg hd] at h; simpa using h
    · cases h
  · cases h

theorem onS_len : ∀ j, (onS j).length = 2 * j + 1
  | 0 => rfl
  | j + 1 => by simp only [onS, List.length_append, onS_len j]; rfl

theorem deep18 (n : Nat) (i k j0 : Nat) (hi : i < 16) (hk : k < 16) (hj0 : j0 < 64) (t : List (Int × Int × Str × Int × Unit)) (x : List (Int × Int × Str × Unit)) (M f : Int)
    (hx : if 8 < i + k then f = 24 ∧ x.length = 0 else (f = 0 ∧ x.length = 1 + k) ∧ M = t.length) :
    ∀ (d m j : Nat), j + d = j0 → d < m → rivetlaw15_ExprDeep.l18 n m true (i : Int) (k : Int) ((j0 + 1 : Nat) : Int) t 0 x M f (onS j) ((j + 1 : Nat) : Int) = some (true, ()) := by
  intro d
  induction d with
  | zero =>
    intro m j hj hm
    obtain ⟨m, rfl⟩ : ∃ m', m = m' + 1 := ⟨m - 1, by omega⟩
    have hjj : j = j0 := by omega
    subst hjj
    obtain ⟨u, y, o, h, hs, hp, hy⟩ := long_at hj0
    simp only [rivetlaw15_ExprDeep.l18, dt, df]
    rw [if_neg (by omega), hs, Option.bind_some]
    dsimp only
    rw [hp, Option.bind_some]
    have w1 : IntKind.i64.wrap ((i : Int) + (k : Int)) = (i : Int) + k := w64 (by omega)
    have w2 : IntKind.i64.wrap ((1 : Int) + (k : Int)) = 1 + (k : Int) := w64 (by omega)
    have w3 : IntKind.i64.wrap (IntKind.i64.wrap (2 * ((j + 1 : Nat) : Int)) - 1) = 2 * (j : Int) + 1 := by
      rw [w64 (x := 2 * ((j + 1 : Nat) : Int)) (by omega), w64 (by omega)]; omega
    simp only [w1, w2, w3, rivetlaw15_ExprDeep.j28, rivetlaw15_ExprDeep.j29, dt, df]
    have c2 : ∀ one : Bool, one = true → (if (decide ((64 : Int) < 2 * (j : Int) + 1)) = true then (if h = 24 then (if ¬ (y.length : Int) = 0 then (if (!decide ((64 : Int) < 2 * (j : Int) + 1)) = true then (if h = 0 then (if (y.length : Int) = 2 * (j : Int) + 1 then (if one = true then some (decide (o = (u.length : Int)), ()) else some (false, ())) else (if one = true then some (false, ()) else some (false, ()))) else (if one = true then some (false, ()) else some (false, ()))) else (if one = true then some (false, ()) else some (false, ()))) else (if one = true then some (true, ()) else some (false, ()))) else (if (!decide ((64 : Int) < 2 * (j : Int) + 1)) = true then (if h = 0 then (if (y.length : Int) = 2 * (j : Int) + 1 then (if one = true then some (decide (o = (u.length : Int)), ()) else some (false, ())) else (if one = true then some (false, ()) else some (false, ()))) else (if one = true then some (false, ()) else some (false, ()))) else (if one = true then some (false, ()) else some (false, ())))) else (if (!decide ((64 : Int) < 2 * (j : Int) + 1)) = true then (if h = 0 then (if (y.length : Int) = 2 * (j : Int) + 1 then (if one = true then some (decide (o = (u.length : Int)), ()) else some (false, ())) else (if one = true then some (false, ()) else some (false, ()))) else (if one = true then some (false, ()) else some (false, ()))) else (if one = true then some (false, ()) else some (false, ())))) = (some (true, ()) : Option (Bool × Unit)) := by
      intro one hone
      subst hone
      by_cases hd : 64 < 2 * j + 1
      · rw [if_pos hd] at hy
        have hd' : (64 : Int) < 2 * (j : Int) + 1 := by omega
        simp [hd', hy.1, hy.2]
      · rw [if_neg hd] at hy
        have hd' : ¬ (64 : Int) < 2 * (j : Int) + 1 := by omega
        have hl : (y.length : Int) = 2 * (j : Int) + 1 := by rw [hy.1.2]; omega
        simp [hd', hy.1.1, hl, hy.2]
    by_cases hd : 8 < i + k
    · rw [if_pos hd] at hx
      have hd' : (8 : Int) < (i : Int) + k := by omega
      have := c2 true rfl
      simp [hd', hx.1, hx.2] at this ⊢
      exact this
    · rw [if_neg hd] at hx
      have hd' : ¬ (8 : Int) < (i : Int) + k := by omega
      have hl : (x.length : Int) = 1 + (k : Int) := by rw [hx.1.2]; omega
      have := c2 true rfl
      simp [hd', hx.1.1, hl, hx.2] at this ⊢
      exact this
  | succ d ih =>
    intro m j hj hm
    obtain ⟨m, rfl⟩ : ∃ m', m = m' + 1 := ⟨m - 1, by omega⟩
    simp only [rivetlaw15_ExprDeep.l18, dt, df]
    have hl := onS_len j
    rw [if_pos (by omega), if_pos (by simp; omega), w64 (by omega)]
    exact ih m (j + 1) (by omega) (by omega)

theorem deep11 (n : Nat) (hn : 1000 ≤ n) (i k j0 : Nat) (hi : i < 16) (hk : k < 16) (hj0 : j0 < 64) :
    ∀ (d m j : Nat), j + d = k → d < m → rivetlaw15_ExprDeep.l11 n m true (i : Int) (k : Int) ((j0 + 1 : Nat) : Int) (mnS j (brS i)) (j : Int) = some (true, ()) := by
  intro d
  induction d with
  | zero =>
    intro m j hj hm
    obtain ⟨m, rfl⟩ : ∃ m', m = m' + 1 := ⟨m - 1, by omega⟩
    have hjj : j = k := by omega
    subst hjj
    obtain ⟨t, x, M, f, hs, hp, hx⟩ := deep_at hi hk
    simp only [rivetlaw15_ExprDeep.l11, dt]
    rw [if_neg (by omega), hs, Option.bind_some]
    dsimp only
    rw [hp, Option.bind_some]
    exact deep18 n i j j0 hi hk hj0 t x M f hx j0 n 0 (by omega) (by omega)
  | succ d ih =>
    intro m j hj hm
    obtain ⟨m, rfl⟩ : ∃ m', m = m' + 1 := ⟨m - 1, by omega⟩
    simp only [rivetlaw15_ExprDeep.l11, dt]
    rw [if_pos (by omega), if_pos (by simp [mnS, brS]; omega), w64 (by omega)]
    exact ih m (j + 1) (by omega) (by omega)

theorem deep7 (n : Nat) (hn : 1000 ≤ n) (i k j0 : Nat) (hi : i < 16) (hk : k < 16) (hj0 : j0 < 64) :
    ∀ (d m j : Nat), j + d = i → d < m → rivetlaw15_ExprDeep.l7 n m true (i : Int) (k : Int) ((j0 + 1 : Nat) : Int) (brS j) (j : Int) = some (true, ()) := by
  intro d
  induction d with
  | zero =>
    intro m j hj hm
    obtain ⟨m, rfl⟩ : ∃ m', m = m' + 1 := ⟨m - 1, by omega⟩
    have hjj : j = i := by omega
    subst hjj
    simp only [rivetlaw15_ExprDeep.l7, dt]
    rw [if_neg (by omega)]
    exact deep11 n hn j k j0 hi hk hj0 k n 0 (by omega) (by omega)
  | succ d ih =>
    intro m j hj hm
    obtain ⟨m, rfl⟩ : ∃ m', m = m' + 1 := ⟨m - 1, by omega⟩
    simp only [rivetlaw15_ExprDeep.l7, dt]
    have hb : ([40] ++ brS j ++ [41] : Str) = brS (j + 1) := by
      unfold brS
      rw [List.replicate_succ (n := j) (a := (40 : UInt8)), List.replicate_succ' (n := j) (a := (41 : UInt8))]
      simp
    rw [if_pos (by omega), if_pos (by simp [brS]; omega), if_pos (by simp [brS]; omega), w64 (by omega), hb]
    exact ih m (j + 1) (by omega) (by omega)

theorem tmodN (a m : Nat) : Int.tmod (a : Int) (m : Int) = ((a % m : Nat) : Int) := by
  rw [Int.tmod_eq_emod_of_nonneg (by omega)]; omega

theorem edeep_law (a b c : Int) (ha : 0 ≤ a ∧ a ≤ 255) (hb : 0 ≤ b ∧ b ≤ 255) (hc : 0 ≤ c ∧ c ≤ 255) : rivetlaw15_ExprDeep.g a b c = some (true, ()) := by
  obtain ⟨a, rfl⟩ : ∃ k : Nat, a = k := ⟨a.toNat, by omega⟩
  obtain ⟨b, rfl⟩ : ∃ k : Nat, b = k := ⟨b.toNat, by omega⟩
  obtain ⟨c, rfl⟩ : ∃ k : Nat, c = k := ⟨c.toNat, by omega⟩
  unfold rivetlaw15_ExprDeep.g rivetlaw15_ExprDeep.f
  rw [shown15_eq, Option.bind_some, if_pos (by omega), if_pos (by omega), if_pos (by omega)]
  have e0 : IntKind.i64.wrap (Int.tmod ([(a : Int), (b : Int), (c : Int)].getD ((0 : Int)).toNat 0) (16 : Int)) = ((a % 16 : Nat) : Int) := by
    show IntKind.i64.wrap (Int.tmod (a : Int) ((16 : Nat) : Int)) = _
    rw [tmodN, w64 (by omega)]
  have e1 : IntKind.i64.wrap (Int.tmod ([(a : Int), (b : Int), (c : Int)].getD ((1 : Int)).toNat 0) (16 : Int)) = ((b % 16 : Nat) : Int) := by
    show IntKind.i64.wrap (Int.tmod (b : Int) ((16 : Nat) : Int)) = _
    rw [tmodN, w64 (by omega)]
  have e2 : IntKind.i64.wrap ((1 : Int) + IntKind.i64.wrap (Int.tmod ([(a : Int), (b : Int), (c : Int)].getD ((2 : Int)).toNat 0) (64 : Int))) = ((c % 64 + 1 : Nat) : Int) := by
    show IntKind.i64.wrap ((1 : Int) + IntKind.i64.wrap (Int.tmod (c : Int) ((64 : Nat) : Int))) = _
    rw [tmodN, w64 (x := ((c % 64 : Nat) : Int)) (by omega), w64 (by omega)]; omega
  rw [e0, e1, e2]
  exact deep7 _ (by omega) (a % 16) (b % 16) (c % 64) (by omega) (by omega) (by omega) (a % 16) _ 0 (by omega) (by omega)

theorem edeep_wf {a b c : Int} (h : (Lit.int .u8 a).wf = true ∧ (Lit.int .u8 b).wf = true ∧ (Lit.int .u8 c).wf = true ∧ True) : rivetlaw15_ExprDeep.g a b c = some (true, ()) := edeep_law a b c (wfU8 h.1) (wfU8 h.2.1) (wfU8 h.2.2.1)

end Rv
