/- ExprDeep: rows of sums, by computation. -/
import Derived.Test.YtchahhlcmabmaaaDoorPDeepA
set_option linter.all false
namespace Rv
open Go

theorem long_0 : longB 0 = true := by decide +kernel
theorem long_1 : longB 1 = true := by decide +kernel
theorem long_2 : longB 2 = true := by decide +kernel
theorem long_3 : longB 3 = true := by decide +kernel
theorem long_4 : longB 4 = true := by decide +kernel
theorem long_5 : longB 5 = true := by decide +kernel
theorem long_6 : longB 6 = true := by decide +kernel
theorem long_7 : longB 7 = true := by decide +kernel
theorem long_8 : longB 8 = true := by decide +kernel
theorem long_9 : longB 9 = true := by decide +kernel
theorem long_10 : longB 10 = true := by decide +kernel
theorem long_11 : longB 11 = true := by decide +kernel
theorem long_12 : longB 12 = true := by decide +kernel
theorem long_13 : longB 13 = true := by decide +kernel
theorem long_14 : longB 14 = true := by decide +kernel
theorem long_15 : longB 15 = true := by decide +kernel
theorem long_16 : longB 16 = true := by decide +kernel
theorem long_17 : longB 17 = true := by decide +kernel
theorem long_18 : longB 18 = true := by decide +kernel
theorem long_19 : longB 19 = true := by decide +kernel
theorem long_20 : longB 20 = true := by decide +kernel
theorem long_21 : longB 21 = true := by decide +kernel
theorem long_22 : longB 22 = true := by decide +kernel
theorem long_23 : longB 23 = true := by decide +kernel
theorem long_24 : longB 24 = true := by decide +kernel
theorem long_25 : longB 25 = true := by decide +kernel
theorem long_26 : longB 26 = true := by decide +kernel
theorem long_27 : longB 27 = true := by decide +kernel
theorem long_28 : longB 28 = true := by decide +kernel
theorem long_29 : longB 29 = true := by decide +kernel
theorem long_30 : longB 30 = true := by decide +kernel
theorem long_31 : longB 31 = true := by decide +kernel
theorem long_32 : longB 32 = true := by decide +kernel
theorem long_33 : longB 33 = true := by decide +kernel
theorem long_34 : longB 34 = true := by decide +kernel
theorem long_35 : longB 35 = true := by decide +kernel
theorem long_36 : longB 36 = true := by decide +kernel
theorem long_37 : longB 37 = true := by decide +kernel
theorem long_38 : longB 38 = true := by decide +kernel
theorem long_39 : longB 39 = true := by decide +kernel
theorem long_40 : longB 40 = true := by decide +kernel
theorem long_41 : longB 41 = true := by decide +kernel
theorem long_42 : longB 42 = true := by decide +kernel
theorem long_43 : longB 43 = true := by decide +kernel
theorem long_44 : longB 44 = true := by decide +kernel
theorem long_45 : longB 45 = true := by decide +kernel
theorem long_46 : longB 46 = true := by decide +kernel
theorem long_47 : longB 47 = true := by decide +kernel
theorem long_48 : longB 48 = true := by decide +kernel
theorem long_49 : longB 49 = true := by decide +kernel
theorem long_50 : longB 50 = true := by decide +kernel
theorem long_51 : longB 51 = true := by decide +kernel
theorem long_52 : longB 52 = true := by decide +kernel
theorem long_53 : longB 53 = true := by decide +kernel
theorem long_54 : longB 54 = true := by decide +kernel
theorem long_55 : longB 55 = true := by decide +kernel
theorem long_56 : longB 56 = true := by decide +kernel
theorem long_57 : longB 57 = true := by decide +kernel
theorem long_58 : longB 58 = true := by decide +kernel
theorem long_59 : longB 59 = true := by decide +kernel
theorem long_60 : longB 60 = true := by decide +kernel
theorem long_61 : longB 61 = true := by decide +kernel
theorem long_62 : longB 62 = true := by decide +kernel
theorem long_63 : longB 63 = true := by decide +kernel
theorem long_all {j : Nat} (hj : j < 64) : longB j = true := by
  rcases (show j = 0 ∨ j = 1 ∨ j = 2 ∨ j = 3 ∨ j = 4 ∨ j = 5 ∨ j = 6 ∨ j = 7 ∨ j = 8 ∨ j = 9 ∨ j = 10 ∨ j = 11 ∨ j = 12 ∨ j = 13 ∨ j = 14 ∨ j = 15 ∨ j = 16 ∨ j = 17 ∨ j = 18 ∨ j = 19 ∨ j = 20 ∨ j = 21 ∨ j = 22 ∨ j = 23 ∨ j = 24 ∨ j = 25 ∨ j = 26 ∨ j = 27 ∨ j = 28 ∨ j = 29 ∨ j = 30 ∨ j = 31 ∨ j = 32 ∨ j = 33 ∨ j = 34 ∨ j = 35 ∨ j = 36 ∨ j = 37 ∨ j = 38 ∨ j = 39 ∨ j = 40 ∨ j = 41 ∨ j = 42 ∨ j = 43 ∨ j = 44 ∨ j = 45 ∨ j = 46 ∨ j = 47 ∨ j = 48 ∨ j = 49 ∨ j = 50 ∨ j = 51 ∨ j = 52 ∨ j = 53 ∨ j = 54 ∨ j = 55 ∨ j = 56 ∨ j = 57 ∨ j = 58 ∨ j = 59 ∨ j = 60 ∨ j = 61 ∨ j = 62 ∨ j = 63 by omega) with rfl | rfl | rfl | rfl | rfl | rfl | rfl | rfl | rfl | rfl | rfl | rfl | rfl | rfl | rfl | rfl | rfl | rfl | rfl | rfl | rfl | rfl | rfl | rfl | rfl | rfl | rfl | rfl | rfl | rfl | rfl | rfl | rfl | rfl | rfl | rfl | rfl | rfl | rfl | rfl | rfl | rfl | rfl | rfl | rfl | rfl | rfl | rfl | rfl | rfl | rfl | rfl | rfl | rfl | rfl | rfl | rfl | rfl | rfl | rfl | rfl | rfl | rfl | rfl
  · exact long_0
  · exact long_1
  · exact long_2
  · exact long_3
  · exact long_4
  · exact long_5
  · exact long_6
  · exact long_7
  · exact long_8
  · exact long_9
  · exact long_10
  · exact long_11
  · exact long_12
  · exact long_13
  · exact long_14
  · exact long_15
  · exact long_16
  · exact long_17
  · exact long_18
  · exact long_19
  · exact long_20
  · exact long_21
  · exact long_22
  · exact long_23
  · exact long_24
  · exact long_25
  · exact long_26
  · exact long_27
  · exact long_28
  · exact long_29
  · exact long_30
  · exact long_31
  · exact long_32
  · exact long_33
  · exact long_34
  · exact long_35
  · exact long_36
  · exact long_37
  · exact long_38
  · exact long_39
  · exact long_40
  · exact long_41
  · exact long_42
  · exact long_43
  · exact long_44
  · exact long_45
  · exact long_46
  · exact long_47
  · exact long_48
  · exact long_49
  · exact long_50
  · exact long_51
  · exact long_52
  · exact long_53
  · exact long_54
  · exact long_55
  · exact long_56
  · exact long_57
  · exact long_58
  · exact long_59
  · exact long_60
  · exact long_61
  · exact long_62
  · exact long_63

end Rv
