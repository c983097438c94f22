/- ExprDeep: brackets and signs, by computation. -/
import Derived.Test.YtchahhlcmabmaaaDoorPBase
import Derived.Test.YtchahhlcmabmaaaDoorDef
set_option linter.all false
namespace Rv
open Go

/-- A seven within so many brackets; so many signs ahead; so many ones, added. -/
def brS (i : Nat) : Str := List.replicate i 40 ++ [55] ++ List.replicate i 41
def mnS (k : Nat) (s : Str) : Str := List.replicate k 45 ++ s
def onS : Nat → Str
  | 0 => [49]
  | j + 1 => onS j ++ [43, 49]

def deepB (i k : Nat) : Bool := match scan_Line.g (mnS k (brS i)) with
  | some (t, e, _) => match expr_Parse.g t 0 with
    | some (x, m, f, _) => decide (e = 0) && (if 8 < i + k then decide (f = 24) && decide (x.length = 0) else decide (f = 0) && decide (x.length = 1 + k) && decide (m = t.length))
    | none => false
  | none => false

def longB (j : Nat) : Bool := match scan_Line.g (onS j) with
  | some (t, e, _) => match expr_Parse.g t 0 with
    | some (x, m, f, _) => decide (e = 0) && (if 64 < 2 * j + 1 then decide (f = 24) && decide (x.length = 0) else decide (f = 0) && decide (x.length = 2 * j + 1) && decide (m = t.length))
    | none => false
  | none => false

theorem deep_0 : ((List.range 16).all fun k => deepB 0 k) = true := by decide +kernel
theorem deep_1 : ((List.range 16).all fun k => deepB 1 k) = true := by decide +kernel
theorem deep_2 : ((List.range 16).all fun k => deepB 2 k) = true := by decide +kernel
theorem deep_3 : ((List.range 16).all fun k => deepB 3 k) = true := by decide +kernel
theorem deep_4 : ((List.range 16).all fun k => deepB 4 k) = true := by decide +kernel
theorem deep_5 : ((List.range 16).all fun k => deepB 5 k) = true := by decide +kernel
theorem deep_6 : ((List.range 16).all fun k => deepB 6 k) = true := by decide +kernel
theorem deep_7 : ((List.range 16).all fun k => deepB 7 k) = true := by decide +kernel
theorem deep_8 : ((List.range 16).all fun k => deepB 8 k) = true := by decide +kernel
theorem deep_9 : ((List.range 16).all fun k => deepB 9 k) = true := by decide +kernel
theorem deep_10 : ((List.range 16).all fun k => deepB 10 k) = true := by decide +kernel
theorem deep_11 : ((List.range 16).all fun k => deepB 11 k) = true := by decide +kernel
theorem deep_12 : ((List.range 16).all fun k => deepB 12 k) = true := by decide +kernel
theorem deep_13 : ((List.range 16).all fun k => deepB 13 k) = true := by decide +kernel
theorem deep_14 : ((List.range 16).all fun k => deepB 14 k) = true := by decide +kernel
theorem deep_15 : ((List.range 16).all fun k => deepB 15 k) = true := by decide +kernel
theorem deep_all {i k : Nat} (hi : i < 16) (hk : k < 16) : deepB i k = true := by
  have key : ((List.range 16).all fun k => deepB i k) = true := by
    rcases (show i = 0 ∨ i = 1 ∨ i = 2 ∨ i = 3 ∨ i = 4 ∨ i = 5 ∨ i = 6 ∨ i = 7 ∨ i = 8 ∨ i = 9 ∨ i = 10 ∨ i = 11 ∨ i = 12 ∨ i = 13 ∨ i = 14 ∨ i = 15 by omega) with rfl | rfl | rfl | rfl | rfl | rfl | rfl | rfl | rfl | rfl | rfl | rfl | rfl | rfl | rfl | rfl
    · exact deep_0
    · exact deep_1
    · exact deep_2
    · exact deep_3
    · exact deep_4
    · exact deep_5
    · exact deep_6
    · exact deep_7
    · exact deep_8
    · exact deep_9
    · exact deep_10
    · exact deep_11
    · exact deep_12
    · exact deep_13
    · exact deep_14
    · exact deep_15
  exact List.all_eq_true.1 key k (by simpa using hk)

end Rv
