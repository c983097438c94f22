/- What expressions come to. -/
import Derived.Test.YtchahhlcmabmaaaDoorPFind
set_option linter.all false
namespace Rv
open Go

abbrev Val := Int × Int × Unit

theorem pop_eq (l : List Val) (v : Val) (hl : l.length ≤ 4611686018427387904) : value_stack_api_Value_pop.g (l ++ [v]) = some (v.1, v.2.1, l, ()) := by
  unfold value_stack_api_Value_pop.g value_stack_api_Value_pop.f
  have e1 : IntKind.i64.wrap (((l ++ [v]).length : Int) - 1) = (l.length : Int) := by
    rw [w64 (by simp; omega)]; simp
  have e2 : (l ++ [v]).getD l.length ((0 : Int), ((0 : Int), ())) = v := by
    rw [List.getD_eq_getElem?_getD, List.getElem?_append_right (Nat.le_refl _)]; simp
  rw [e1, Int.toNat_natCast, if_pos (by simp; omega), if_pos (by simp; omega), e2, List.take_left]

/-- The values of one item, the last one on top. -/
def stepR (labels : List Sym) (st : List Val) (x : Item) : Except Int (List Val) :=
  if x.1 = 2 then match findR x.2.2.1 labels with
    | some a => .ok (st ++ [(IntKind.u32.wrap a, 1, ())])
    | none => .error 25
  else if x.1 = 3 then match st.getLast? with
    | some v => .ok (st.dropLast ++ [(IntKind.u32.wrap (0 - v.1), IntKind.i64.wrap (0 - v.2.1), ())])
    | none => .error 99
  else if x.1 = 4 ∨ x.1 = 5 ∨ x.1 = 6 then match st.getLast?, st.dropLast.getLast? with
    | some b, some a =>
      if x.1 = 4 then .ok (st.dropLast.dropLast ++ [(IntKind.u32.wrap (a.1 + b.1), IntKind.i64.wrap (a.2.1 + b.2.1), ())])
      else if x.1 = 5 then .ok (st.dropLast.dropLast ++ [(IntKind.u32.wrap (a.1 - b.1), IntKind.i64.wrap (a.2.1 - b.2.1), ())])
      else if a.2.1 = 0 ∧ b.2.1 = 0 then .ok (st.dropLast.dropLast ++ [(IntKind.u32.wrap (a.1 * b.1), 0, ())])
      else .error 27
    | _, _ => .error 99
  else .ok (st ++ [(x.2.1, 0, ())])

def runR (labels : List Sym) : List Val → List Item → Except Int (List Val)
  | st, [] => .ok st
  | st, x :: r => match stepR labels st x with
    | .ok st => runR labels st r
    | .error e => .error e

theorem runR_app (labels : List Sym) : ∀ (a b : List Item) (st : List Val), runR labels st (a ++ b) = match runR labels st a with
    | .ok st => runR labels st b
    | .error e => .error e
  | [], b, st => rfl
  | x :: a, b, st => by
    simp only [List.cons_append, runR]
    cases stepR labels st x with
    | ok st => exact runR_app labels a b st
    | error e => rfl

theorem times_neg (a b : Int) : value_times.g a b (-1) = some (IntKind.u32.wrap (0 - a), IntKind.i64.wrap (0 - b), ()) := by
  unfold value_times.g value_times.f
  have e1 : IntKind.u32.wrap (-1) = 4294967295 := by rw [IntKind.wrap_u32]; rfl
  have e2 : IntKind.u32.wrap (4294967295 * a) = IntKind.u32.wrap (0 - a) := by rw [IntKind.wrap_u32, IntKind.wrap_u32]; omega
  rw [e1, e2, show -1 * b = 0 - b by omega]

theorem sum_eq (a b c d : Int) : value_sum.g a b c d = some (IntKind.u32.wrap (a + c), IntKind.i64.wrap (b + d), ()) := rfl

theorem i64_add_neg (a b : Int) : IntKind.i64.wrap (a + IntKind.i64.wrap (0 - b)) = IntKind.i64.wrap (a - b) := by
  rw [IntKind.wrap_i64, IntKind.wrap_i64, IntKind.wrap_i64]; omega

theorem u32_add_neg (a b : Int) : IntKind.u32.wrap (a + IntKind.u32.wrap (0 - b)) = IntKind.u32.wrap (a - b) := by
  rw [IntKind.wrap_u32, IntKind.wrap_u32, IntKind.wrap_u32]; omega

end Rv
