/- What a label is. -/
import Derived.Test.YtlbfhddhojejfaaDoorPFit
set_option linter.all false
namespace Rv
open Go

/-- One of the registers' names, or one that looks so. -/
def regLike (s : Str) : Bool := decide (s.getD 0 0 = 82) && (decide (s.length = 2) || decide (s.length = 3)) && (s.drop 1).all isD

def labelOk (s : Str) : Bool := decide (s ≠ []) && decide (s.length ≤ 12) && !isD (s.getD 0 0) && s.all isW && !regLike s

/-- The code's test of one byte. -/
def labT (b : Int) : Bool :=
  if bitsI .or .u8 b 32 < 97 ∨ 122 < bitsI .or .u8 b 32 ∨ b < 65 then decide (b = 95) || (!decide (b < 48) && !decide (57 < b)) else true

theorem labT_all : ((List.range 256).all fun k => labT k == isW (UInt8.ofNat k)) = true := by decide +kernel

theorem labT_eq (b : UInt8) : labT b.toNat = isW b := by
  have h := List.all_eq_true.1 labT_all b.toNat (by simp; exact b.toNat_lt)
  simpa using h

theorem propTF (p : Prop) : p = True ∨ p = False := (Classical.em p).imp eq_true eq_false

theorem label_step (s : Str) (n m : Nat) (i : Nat) (h1 : i < s.length) (X : Option (Bool × Unit)) (hX : name_Label.j9 n (name_Label.l4 n m) s (s.length : Int) (i : Int) = X) :
    name_Label.l4 n (m + 1) s (s.length : Int) (i : Int) = if labT (bt s i) = true then X else some (false, ()) := by
  have hc : (0 : Int) ≤ i ∧ (i : Int) < s.length := by omega
  have hc2 : (i : Int) < s.length := hc.2
  simp only [name_Label.l4, dt, df, hX, labT]
  by_cases a1 : bitsI .or .u8 (bt s i) 32 < 97 <;> by_cases a2 : 122 < bitsI .or .u8 (bt s i) 32 <;> by_cases a3 : bt s i < 65 <;> rcases propTF (bt s i = 95) with a4 | a4 <;> by_cases a5 : bt s i < 48 <;> by_cases a6 : 57 < bt s i <;>
    simp only [hc, hc2, a1, a2, a3, a4, a5, a6, if_true, if_false, not_true_eq_false, not_false_eq_true, ne_eq, true_or, or_true, or_false, false_or, or_self, and_self, true_and, decide_true, decide_false, Bool.true_or, Bool.false_or, Bool.not_true, Bool.not_false, Bool.and_true, Bool.and_false, Bool.false_and, Bool.true_and, Bool.or_self, Bool.or_false, Bool.or_true, Bool.false_eq_true]

theorem label_loop (s : Str) (hs : s.length ≤ 12) (n : Nat) : ∀ (m i : Nat), i ≤ s.length → s.length - i < m →
    name_Label.l4 n m s (s.length : Int) (i : Int) = if (s.drop i).all isW = true then name_Label.l4 n 1 s (s.length : Int) (s.length : Int) else some (false, ()) := by
  intro m
  induction m with
  | zero => intro i _ h; omega
  | succ m ih =>
    intro i hi hm
    by_cases h1 : i < s.length
    · have hnext : name_Label.j9 n (name_Label.l4 n m) s (s.length : Int) (i : Int) = if (s.drop (i + 1)).all isW = true then name_Label.l4 n 1 s (s.length : Int) (s.length : Int) else some (false, ()) := by
        unfold name_Label.j9
        rw [w64 (by omega), show (i : Int) + 1 = ((i + 1 : Nat) : Int) by omega]
        exact ih (i + 1) (by omega) (by omega)
      rw [label_step s n m i h1 _ hnext, bt_nat, labT_eq, drop_cons h1, List.all_cons]
      cases hw : isW (s.getD i 0)
      · rfl
      · rw [if_pos rfl, Bool.true_and]
    · have hi' : i = s.length := by omega
      subst hi'
      rw [List.drop_length, List.all_nil, if_pos rfl]
      have hlt : ¬ ((s.length : Int) < s.length) := by omega
      simp only [name_Label.l4, dt, hlt, if_false]

theorem dig_eq (b : UInt8) : L.isDig b = isD b := by simp [L.isDig, isD]

theorem dropWhile_head {p : UInt8 → Bool} : ∀ {l : Str} {a : UInt8} {r : Str}, l.dropWhile p = a :: r → p a = false
  | [], _, _, h => by simp at h
  | b :: l, a, r, h => by
    rw [List.dropWhile_cons] at h
    cases hb : p b
    · rw [hb] at h
      simp only [Bool.false_eq_true, if_false, List.cons.injEq] at h
      rw [← h.1]; exact hb
    · rw [hb] at h
      exact dropWhile_head (l := l) (by simpa using h)

theorem trim_nil (s : Str) : (L.trimDig s = []) = (s.all isD = true) := by
  have gen : ∀ l : Str, (l.dropWhile L.isDig = []) ↔ l.all isD = true := fun l => by
    induction l with
    | nil => simp
    | cons a l ih =>
      simp only [List.dropWhile_cons, List.all_cons, dig_eq]
      cases h : isD a
      · simp
      · simp [ih]
  unfold L.trimDig
  apply propext
  rw [gen]
  constructor
  · intro h
    -- the part that is left is digits only, so nothing was left
    have h0 : (s.reverse.dropWhile L.isDig) = [] := by
      cases hr : s.reverse.dropWhile L.isDig with
      | nil => rfl
      | cons a r =>
        exfalso
        rw [hr] at h
        have ha : isD a = true := List.all_eq_true.1 h a (by simp)
        rw [← dig_eq, dropWhile_head hr] at ha
        cases ha
    rw [gen] at h0
    simpa using h0
  · intro h
    have h0 : s.reverse.dropWhile L.isDig = [] := (gen _).2 (by simpa using h)
    rw [h0]; rfl

theorem label_eq (s : Str) : name_Label.g s = some (labelOk s, ()) := by
  unfold name_Label.g name_Label.f
  simp only [dt, df]
  by_cases h0 : s = []
  · subst h0; rw [if_neg (by simp)]; rfl
  · rw [if_pos h0]
    have hl0 : 0 < s.length := List.length_pos_iff.2 h0
    by_cases h12 : s.length ≤ 12
    · rw [if_pos (by omega), if_pos (by omega)]
      have hj : ¬ isD (s.getD 0 0) = true → name_Label.j3 (1000 + s.length) s = some (labelOk s, ()) := fun hd => by
        unfold name_Label.j3
        have := label_loop s h12 (1000 + s.length) (1000 + s.length) 0 (by omega) (by omega)
        rw [List.drop_zero] at this
        rw [show ((0 : Nat) : Int) = 0 from rfl] at this
        rw [this]
        by_cases hw : s.all isW = true
        · rw [if_pos hw]
          simp only [name_Label.l4, dt, df, bt_nat]
          rw [if_neg (by omega), if_pos (by omega)]
          have hbt : bt s 0 = ((s.getD 0 0).toNat : Int) := rfl
          simp only [hbt]
          have h82 : (((s.getD 0 0).toNat : Int) = 82) = (s.getD 0 0 = 82) := byte_is _ 82 (by omega)
          simp only [h82]
          have htake : (s.take (s.length : Int).toNat).drop (1 : Int).toNat = s.drop 1 := by
            rw [show (s.length : Int).toNat = s.length by omega, List.take_length]; rfl
          have htrim : s.length ≤ 3 → L.trimO ((s.take (s.length : Int).toNat).drop (1 : Int).toNat) [48, 49, 50, 51, 52, 53, 54, 55, 56, 57] = some (L.trimDig (s.drop 1), ()) := fun h => by
            rw [htake]
            unfold L.trimO
            rw [if_pos ⟨rfl, by simp; omega⟩]
          have hL : labelOk s = !regLike s := by
            unfold labelOk
            rw [decide_eq_true (show s ≠ [] from h0), decide_eq_true h12, show isD (s.getD 0 0) = false by simpa using hd, hw]
            rfl
          have hT : decide (L.trimDig (s.drop 1) = []) = (s.drop 1).all isD := by
            rw [Bool.eq_iff_iff, decide_eq_true_eq, trim_nil]
          rw [hL]
          unfold regLike
          by_cases hR : s.getD 0 0 = 82
          · rw [if_pos hR, decide_eq_true hR]
            by_cases h2 : s.length = 2
            · rw [if_neg (by omega), if_pos (by omega), htrim (by omega), Option.bind_some, decide_eq_true h2]
              dsimp only
              rw [hT]; rfl
            · rw [if_pos (by omega), decide_eq_false h2]
              by_cases h3 : s.length = 3
              · rw [if_pos (by omega), if_pos (by omega), htrim (by omega), Option.bind_some, decide_eq_true h3]
                dsimp only
                rw [hT]; rfl
              · rw [if_neg (by omega), decide_eq_false h3]; rfl
          · rw [if_neg hR, decide_eq_false hR]; rfl
        · rw [if_neg hw]
          simp [labelOk, hw]
      have hbt : bt s 0 = ((s.getD 0 0).toNat : Int) := rfl
      simp only [hbt]
      by_cases h48 : (48 : Int) ≤ (s.getD 0 0).toNat
      · rw [if_pos h48, if_pos (by omega)]
        by_cases h57 : ((s.getD 0 0).toNat : Int) ≤ 57
        · rw [if_pos h57]
          have hd : isD (s.getD 0 0) = true := by unfold isD; rw [decide_eq_true_eq]; omega
          unfold labelOk
          rw [hd, decide_eq_true (show s ≠ [] from h0), decide_eq_true h12]; rfl
        · rw [if_neg h57]
          exact hj (by unfold isD; rw [decide_eq_true_eq]; omega)
      · rw [if_neg h48]
        exact hj (by unfold isD; rw [decide_eq_true_eq]; omega)
    · rw [if_neg (by omega)]
      simp [labelOk, h12]

end Rv
