/- Digits of numbers. -/
import Derived.Test.YtchahhlcmabmaaaDoorPScanL
import Derived.Test.YtchahhlcmabmaaaDoorPFit
set_option linter.all false
namespace Rv
open Go

/-- A digit's sign. -/
def dch (d : Nat) : UInt8 := if d < 10 then UInt8.ofNat (48 + d) else UInt8.ofNat (87 + d)

theorem dch_tab : ((List.range 16).all fun d => decide (digOf (dch d) = some d) && isW (dch d) && (decide (10 ≤ d) || isD (dch d)) && decide ((([48, 49, 50, 51, 52, 53, 54, 55, 56, 57, 97, 98, 99, 100, 101, 102] : Str).take (d + 1)).drop d = [dch d])) = true := by decide +kernel

theorem dch_facts {d : Nat} (h : d < 16) : digOf (dch d) = some d ∧ isW (dch d) = true ∧ (d < 10 → isD (dch d) = true) ∧ (([48, 49, 50, 51, 52, 53, 54, 55, 56, 57, 97, 98, 99, 100, 101, 102] : Str).take (d + 1)).drop d = [dch d] := by
  have := List.all_eq_true.1 dch_tab d (by simpa using h)
  simp only [Bool.and_eq_true, decide_eq_true_eq, Bool.or_eq_true] at this
  obtain ⟨⟨⟨h1, h2⟩, h3⟩, h4⟩ := this
  exact ⟨h1, h2, fun h => h3.resolve_left (by omega), h4⟩

/-- So many digits of a number. -/
def digs (b : Nat) : Nat → Nat → Str
  | 0, _ => []
  | k + 1, x => digs b k (x / b) ++ [dch (x % b)]

theorem digs_len (b : Nat) : ∀ (k x : Nat), (digs b k x).length = k
  | 0, _ => rfl
  | k + 1, x => by simp [digs, digs_len b k]

theorem numFrom_app (b : Nat) : ∀ (s t : Str) (v : Nat), numFrom b v (s ++ t) = (numFrom b v s).bind fun w => numFrom b w t
  | [], t, v => rfl
  | c :: s, t, v => by
    simp only [List.cons_append, numFrom]
    cases digOf c with
    | none => rfl
    | some d =>
      simp only
      split
      · split
        · exact numFrom_app b s t _
        · rfl
      · rfl

theorem numFrom_zeros (b : Nat) (hb : 0 < b) : ∀ z : Nat, numFrom b 0 (List.replicate z 48) = some 0
  | 0 => rfl
  | z + 1 => by
    rw [List.replicate_succ]
    have h : digOf 48 = some 0 := by decide
    simp only [numFrom, h]
    rw [if_pos hb, if_pos (by omega), Nat.zero_mul, Nat.add_zero]
    exact numFrom_zeros b hb z

theorem numFrom_digs (b : Nat) (hb : 2 ≤ b) (hb16 : b ≤ 16) (z : Nat) : ∀ (k x : Nat), x < b ^ k → x < 4294967296 → numFrom b 0 (List.replicate z 48 ++ digs b k x) = some x
  | 0, x, h, _ => by
    have : x = 0 := by simpa using h
    subst this
    rw [digs, List.append_nil]
    exact numFrom_zeros b (by omega) z
  | k + 1, x, h, hx => by
    rw [digs, ← List.append_assoc, numFrom_app]
    have h1 : x / b < b ^ k := by rw [Nat.div_lt_iff_lt_mul (by omega)]; rw [Nat.pow_succ] at h; exact h
    have h2 : x / b ≤ x := Nat.div_le_self _ _
    rw [numFrom_digs b hb hb16 z k (x / b) h1 (by omega)]
    have hd : x % b < b := Nat.mod_lt _ (by omega)
    simp only [Option.bind_some, numFrom, (dch_facts (show x % b < 16 by omega)).1]
    have e : x / b * b + x % b = x := by rw [Nat.mul_comm]; exact Nat.div_add_mod x b
    rw [if_pos hd, e, if_pos hx]

theorem digs_all (b : Nat) (hb : 2 ≤ b) (hb16 : b ≤ 16) (p : UInt8 → Bool) (hp : ∀ d, d < b → p (dch d) = true) : ∀ k x, (digs b k x).all p = true
  | 0, _ => rfl
  | k + 1, x => by
    rw [digs, List.all_append, digs_all b hb hb16 p hp k]
    have := hp (x % b) (Nat.mod_lt _ (by omega))
    simpa using this

/-- A number alone. -/
theorem line_num (k : Int) {c : UInt8} {r : Str} (hD : isD c = true) (ha : (c :: r).all isW = true) : lineR k (c :: r) = match num (c :: r) with
    | some v => .ok [(2, k, c :: r, v, ())]
    | none => .error 21 := by
  have hW : isW c = true := by simp [isW, hD]
  obtain ⟨h1, h2⟩ := blank_facts hW
  have hL : ¬ isL c = true := by
    intro h
    unfold isL at h
    unfold isD at hD
    simp only [decide_eq_true_eq] at h hD
    omega
  rw [lineR_cons, if_neg h1, if_neg h2]
  unfold tokAt
  rw [if_neg hL, if_pos hD, wordOf_all ha]
  cases num (c :: r) with
  | none => rfl
  | some v =>
    simp only [List.length_cons]
    rw [List.drop_eq_nil_of_le (by omega), lineR_nil]

theorem tmod_nat (a b : Nat) : Int.tmod (a : Int) (b : Int) = ((a % b : Nat) : Int) := by
  rw [Int.tmod_eq_emod_of_nonneg (by omega)]; simp
theorem tdiv_nat (a b : Nat) : Int.tdiv (a : Int) (b : Int) = ((a / b : Nat) : Int) := by
  rw [Int.tdiv_eq_ediv_of_nonneg (by omega)]; simp

end Rv
