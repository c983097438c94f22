/- The document's names and labels. -/
import Derived.Test.YtlbfhddhojejfaaDoorPLabel
set_option linter.all false
namespace Rv
open Go

/-- A letter, no underscore. -/
def isA (b : UInt8) : Bool := decide (65 ≤ b.toNat ∧ b.toNat ≤ 90 ∨ 97 ≤ b.toNat ∧ b.toNat ≤ 122)

theorem r7letter_eq (b : UInt8) : rivetref07_letter.g (b.toNat : Int) = some (isA b, ()) := by
  unfold rivetref07_letter.g rivetref07_letter.f isA
  simp only [dt, df]
  (repeat' split) <;> first | (refine some_tt ?_; omega) | (refine some_ff ?_; omega) | (refine some_pq ?_; omega)

theorem r7digit_eq (b : UInt8) : rivetref07_digit.g (b.toNat : Int) = some (isD b, ()) := by
  unfold rivetref07_digit.g rivetref07_digit.f isD
  simp only [dt, df]
  (repeat' split) <;> first | (refine some_tt ?_; omega) | (refine some_ff ?_; omega) | (refine some_pq ?_; omega)

theorem isA_L (b : UInt8) : isL b = (isA b || decide (b.toNat = 95)) := by
  unfold isL isA
  rw [Bool.eq_iff_iff]
  simp only [decide_eq_true_eq, Bool.or_eq_true]
  omega

theorem r7reg_eq (s : Str) : rivetref07_Register.g s = some (regLike s, ()) := by
  unfold rivetref07_Register.g rivetref07_Register.f regLike
  simp only [dt, df]
  match s with
  | [] => rfl
  | [a] => simp
  | [a, b] =>
    have ea : bt [a, b] 0 = (a.toNat : Int) := rfl
    have eb : bt [a, b] 1 = (b.toNat : Int) := rfl
    have e82 : ((a.toNat : Int) = 82) = (a = 82) := byte_is a 82 (by decide)
    rw [if_pos (by simp), if_pos (by simp), if_pos (by simp), ea, eb]
    simp only [ne_eq, e82]
    by_cases h : a = 82
    · rw [if_neg (by simpa using h), if_pos (by simp), r7digit_eq, Option.bind_some]
      cases hb : isD b <;> simp [h, hb]
    · rw [if_pos h]; simp [h]
  | [a, b, c] =>
    have ea : bt [a, b, c] 0 = (a.toNat : Int) := rfl
    have eb : bt [a, b, c] 1 = (b.toNat : Int) := rfl
    have ec : bt [a, b, c] 2 = (c.toNat : Int) := rfl
    have e82 : ((a.toNat : Int) = 82) = (a = 82) := byte_is a 82 (by decide)
    rw [if_pos (by simp), if_pos (by simp), if_pos (by simp), ea, eb, ec]
    simp only [ne_eq, e82]
    by_cases h : a = 82
    · rw [if_neg (by simpa using h), if_pos (by simp), r7digit_eq, r7digit_eq, Option.bind_some]
      cases hb : isD b <;> simp [h, hb]
    · rw [if_pos h]; simp [h]
  | a :: b :: c :: d :: r =>
    rw [if_pos (by simp; omega), if_neg (by simp; omega)]
    simp

theorem r7name_loop (s : Str) (hs : s.length ≤ 1000000) (n : Nat) : ∀ (m k : Nat), k ≤ s.length → s.length - k < m → rivetref07_Name.l4 n m s (k : Int) = some ((s.drop k).all isW, ()) := by
  intro m
  induction m with
  | zero => intro k _ h; omega
  | succ m ih =>
    intro k hk hm
    rw [rivetref07_Name.l4]
    simp only [dt, rivetref07_Name.j5]
    by_cases h : k < s.length
    · have step := ih (k + 1) (by omega) (by omega)
      have e1 : IntKind.i64.wrap ((k : Int) + 1) = ((k + 1 : Nat) : Int) := by rw [w64 (by omega)]; omega
      rw [if_pos (by omega), if_pos (by omega), bt_nat, r7letter_eq, r7digit_eq, Option.bind_some, Option.bind_some, e1, step, drop_cons h, List.all_cons]
      have e95 : (((s.getD k 0).toNat : Int) ≠ 95) = ¬ (s.getD k 0).toNat = 95 := by apply propext; constructor <;> intro h <;> omega
      simp only [e95]
      unfold isW
      rw [isA_L]
      generalize s.getD k 0 = b
      cases hA : isA b
      · cases hD : isD b
        · rw [if_pos (by simp), if_pos (by omega), if_pos (by simp), if_pos (by omega)]
          by_cases h5 : b.toNat = 95
          · rw [if_neg (by simpa using h5)]; simp [h5]
          · rw [if_pos h5]; simp [h5]
        · rw [if_pos (by simp), if_pos (by omega), if_neg (by simp)]; simp
      · rw [if_neg (by simp)]; simp
    · have : k = s.length := by omega
      subst this
      rw [if_neg (by omega), List.drop_length]
      rfl

def nameOk (s : Str) : Bool := decide (s ≠ []) && decide (s.length ≤ 12) && isA (s.getD 0 0) && !regLike s && s.all isW

theorem r7name_eq (s : Str) (hs : s.length ≤ 1000000) : rivetref07_Name.g s = some (nameOk s, ()) := by
  unfold rivetref07_Name.g rivetref07_Name.f nameOk
  simp only [dt, df]
  cases s with
  | nil => rw [if_neg (by simp)]; simp
  | cons c r =>
    rw [if_pos (by simp; omega)]
    by_cases h12 : (c :: r).length ≤ 12
    · have e0 : bt (c :: r) 0 = (c.toNat : Int) := rfl
      have hl := r7name_loop (c :: r) hs (1000 + (c :: r).length) (1000 + (c :: r).length) 0 (by omega) (by omega)
      rw [List.drop_zero, show ((0 : Nat) : Int) = 0 from rfl] at hl
      rw [if_pos (by omega), if_pos (by simp), e0, r7letter_eq, r7reg_eq, Option.bind_some, Option.bind_some, hl]
      have hg : (c :: r).getD 0 0 = c := rfl
      rw [hg, decide_eq_true h12]
      cases isA c <;> cases regLike (c :: r) <;> simp
    · rw [if_neg (by omega), decide_eq_false h12]; simp

theorem rlabel_eq (s : Str) (hs : s.length ≤ 100000) : rivetref13_Label.g s = some (labelOk s, ()) := by
  unfold rivetref13_Label.g rivetref13_Label.f
  simp only [dt, rivetref13_Label.j3]
  cases s with
  | nil => rw [if_neg (by simp), r7name_eq [] (by simp)]; rfl
  | cons c r =>
    have e0 : bt (c :: r) 0 = (c.toNat : Int) := rfl
    have e95 : ((c.toNat : Int) = 95) = (c = 95) := byte_is c 95 (by decide)
    rw [if_pos (by simp), if_pos (by simp), e0]
    simp only [e95]
    by_cases h : c = 95
    · rw [if_pos h, if_pos (by simp; omega), if_pos (by simp at hs ⊢; omega)]
      have ed : (((c :: r).take (((c :: r).length : Int)).toNat).drop ((1 : Int)).toNat) = r := by rw [Int.toNat_natCast, List.take_length]; rfl
      rw [ed, r7name_eq _ (by simp at hs ⊢; omega), Option.bind_some]
      subst h
      unfold nameOk labelOk regLike
      have h1 : isA 97 = true := by decide
      have h2 : isW 97 = true := by decide
      have h3 : isD 95 = false := by decide
      have h4 : isW 95 = true := by decide
      simp [h1, h2, h3, h4]
    · rw [if_neg h, r7name_eq _ (by omega), Option.bind_some]
      unfold nameOk labelOk
      have hg : (c :: r).getD 0 0 = c := rfl
      rw [hg]
      have hc : (isA c && (isW c && r.all isW)) = (!isD c && (isW c && r.all isW)) := by
        have h95 : c.toNat ≠ 95 := fun e => h (UInt8.toNat_inj.1 (by simpa using e))
        unfold isW
        rw [isA_L, decide_eq_false h95]
        have hex : isA c = true → isD c = false := fun hA => by
          unfold isA at hA; unfold isD
          simp only [decide_eq_true_eq] at hA
          rw [decide_eq_false_iff_not]; omega
        cases hA : isA c
        · cases hD : isD c <;> simp
        · simp [hex hA]
      rw [List.all_cons]
      generalize regLike (c :: r) = x
      generalize (isW c && r.all isW) = y at hc ⊢
      generalize decide ((c :: r).length ≤ 12) = z
      generalize decide (c :: r ≠ []) = t
      revert hc
      cases isA c <;> cases isD c <;> cases x <;> cases y <;> cases z <;> cases t <;> simp
end Rv
