/- Words, signs and blanks of a line. -/
import Derived.Test.YtlbfhddhojejfaaDoorPScanL
import Derived.Test.YtlbfhddhojejfaaDoorPWb
set_option linter.all false
namespace Rv
open Go

abbrev TokL := Int × Int × Str × Int × Unit

def preE (ts : List TokL) : Except Int (List TokL) → Except Int (List TokL)
  | .error e => .error e
  | .ok l => .ok (ts ++ l)

theorem preE_app (a b : List TokL) (x : Except Int (List TokL)) : preE (a ++ b) x = preE a (preE b x) := by cases x <;> simp [preE]

def okR (r : Str) : Prop := r = [] ∨ ∃ b y, r = b :: y ∧ isW b = false

/-- A word alone, ahead of what is none. -/
theorem word_okR {s r : Str} (hs : s.all isW = true) (hr : okR r) : wordOf (s ++ r) = s := by
  rcases hr with rfl | ⟨b, y, rfl, hb⟩
  · rw [List.append_nil]; exact wordOf_all hs
  · unfold wordOf
    rw [takeW_app hb]
    exact wordOf_all hs

theorem line_word {s : Str} {c : UInt8} {t : Str} (hs : s = c :: t) (ha : s.all isW = true) {q v : Int} (hk : ∀ r, okR r → tokAt c (t ++ r) = .ok (0, q, s, v)) (k : Int) {r : Str} (hr : okR r) : lineR k (s ++ r) = preE [(q, k, s, v, ())] (lineR (k + s.length) r) := by
  subst hs
  have hW : isW c = true := by simp only [List.all_cons, Bool.and_eq_true] at ha; exact ha.1
  obtain ⟨h1, h2⟩ := blank_facts hW
  rw [List.cons_append, lineR_cons, if_neg h1, if_neg h2, hk r hr]
  dsimp only
  have hd : (t ++ r).drop (0 + (c :: t).length - 1) = r := by
    rw [List.length_cons, show 0 + (t.length + 1) - 1 = t.length by omega]
    exact List.drop_left' rfl
  rw [hd, show k + ((0 : Nat) : Int) + ((c :: t).length : Int) = k + ((c :: t).length : Int) by omega]
  cases lineR (k + ((c :: t).length : Int)) r <;> rfl

theorem line_sig (c : UInt8) (hc : c ∈ ([40, 41, 42, 43, 45] : Str)) (k : Int) (r : Str) : lineR k (c :: r) = preE [(3, k, [c], 0, ())] (lineR (k + 1) r) := by
  have step : isL c = false ∧ isD c = false ∧ c ≠ 46 ∧ isS c = true ∧ c ≠ 59 ∧ c ≠ 32 ∧ c ≠ 9 := by
    simp only [List.mem_cons, List.not_mem_nil, or_false] at hc
    rcases hc with rfl | rfl | rfl | rfl | rfl <;> decide
  obtain ⟨h1, h2, h3, h4, h5, h6, h7⟩ := step
  rw [lineR_cons, if_neg h5, if_neg (fun h => h.elim h6 h7)]
  unfold tokAt
  rw [if_neg (by simp [h1]), if_neg (by simp [h2]), if_neg (fun h => h3 h.1), if_pos h4]
  dsimp only
  rw [show k + ((0 : Nat) : Int) + (([c] : Str).length : Int) = k + 1 by simp, show 0 + ([c] : Str).length - 1 = 0 from rfl, List.drop_zero]
  cases lineR (k + 1) r <;> rfl

theorem line_blank (k : Int) (r : Str) : lineR k (32 :: r) = lineR (k + 1) r := by
  rw [lineR_cons, if_neg (by decide), if_pos (.inl rfl)]

end Rv
