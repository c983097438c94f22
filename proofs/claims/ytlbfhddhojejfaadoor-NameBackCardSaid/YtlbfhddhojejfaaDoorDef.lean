/- The functions' plain texts, printed by gen.py (a program of this work's own). -/
import Derived.Test.YtlbfhddhojejfaaDoorRvA
import Derived.Test.YtlbfhddhojejfaaDoorRvL0
set_option linter.all false
namespace Rv
open Go
set_option maxRecDepth 100000
set_option linter.unusedVariables false

-- rivet/rivetlaw13.shown
namespace rivetlaw13_shown
def f (n : Nat) : Option (Bool × Unit) :=
    (L.nameOfO ([66, 76, 76, 84] : Str)).bind fun y1 =>
    (L.nameOfO ([66, 76, 84] : Str)).bind fun y2 =>
    if (decide (y1.1 = (7 : Int))) = true then 
    (if (decide (y1.2.1 = (5 : Int))) = true then 
    (if y1.2.2.1 = true then 
    (if y1.2.2.2.1 = true then 
    (if (decide (y2.1 = (7 : Int))) = true then 
    (if (decide (y2.2.1 = (5 : Int))) = true then 
    (if (!y2.2.2.1) = true then (some (y2.2.2.2.1, ()))
    else (some (false, ())))
    else (some (false, ())))
    else (some (false, ())))
    else (some (false, ())))
    else (some (false, ())))
    else (some (false, ())))
    else (some (false, ()))
def g : Option (Bool × Unit) := f (1000) 
end rivetlaw13_shown

-- rivet/rivetlaw13.few
namespace rivetlaw13_few
def f (n : Nat) (s0 : Str) : Option (Str × Unit) :=
    if 0 ≤ (mn (s0.length : Int) (20 : Int)) ∧ (mn (s0.length : Int) (20 : Int)) ≤ (s0.length : Int) then 
    (some (((s0.take (((mn (s0.length : Int) (20 : Int))).toNat)).drop 0), ())) else none
def g (s0 : Str) : Option (Str × Unit) := f (1000 + s0.length) s0
end rivetlaw13_few

-- rivet/rivetref07.Fit
namespace rivetref07_Fit
def l4 (n : Nat) : Nat → Str → Str → Str → Int → Option (Str × Unit)
  | 0, _, _, _, _ => none
  | m + 1, s0, all3, out4, i5 =>
    if (decide (i5 < (s0.length : Int))) = true then 
    (if (decide (i5 < (6 : Int))) = true then 
    (if 0 ≤ i5 ∧ i5 < (s0.length : Int) then 
    (if 0 ≤ i5 ∧ i5 < (s0.length : Int) then 
    (if 0 ≤ (IntKind.i64.wrap ((Int.tmod (IntKind.i64.wrap (bt s0 i5)) (12 : Int)) + (1 : Int))) ∧ (IntKind.i64.wrap ((Int.tmod (IntKind.i64.wrap (bt s0 i5)) (12 : Int)) + (1 : Int))) ≤ (all3.length : Int) then 
    (if 0 ≤ (Int.tmod (IntKind.i64.wrap (bt s0 i5)) (12 : Int)) ∧ (Int.tmod (IntKind.i64.wrap (bt s0 i5)) (12 : Int)) ≤ (IntKind.i64.wrap ((Int.tmod (IntKind.i64.wrap (bt s0 i5)) (12 : Int)) + (1 : Int))) then 
    (if out4.length + ((all3.take (((IntKind.i64.wrap ((Int.tmod (IntKind.i64.wrap (bt s0 i5)) (12 : Int)) + (1 : Int)))).toNat)).drop (((Int.tmod (IntKind.i64.wrap (bt s0 i5)) (12 : Int))).toNat)).length ≤ 9223372036854775807 then 
    ((rivetref07_Fit.l4 n m) s0 all3 (out4 ++ ((all3.take (((IntKind.i64.wrap ((Int.tmod (IntKind.i64.wrap (bt s0 i5)) (12 : Int)) + (1 : Int)))).toNat)).drop (((Int.tmod (IntKind.i64.wrap (bt s0 i5)) (12 : Int))).toNat))) (IntKind.i64.wrap (i5 + (1 : Int)))) else none) else none) else none) else none) else none)
    else (some (out4, ())))
    else (some (out4, ()))
def f (n : Nat) (s0 : Str) : Option (Str × Unit) :=
    rivetref07_Fit.l4 n n s0 ([97, 98, 99, 88, 89, 90, 95, 48, 49, 57, 82, 109] : Str) (bytesOf ([(IntKind.u8.wrap ((97 : Int) + (IntKind.u8.wrap (Int.tmod (s0.length : Int) (26 : Int)))))] : List Int)) (0 : Int)
def g (s0 : Str) : Option (Str × Unit) := f (1000 + s0.length) s0
end rivetref07_Fit

-- rivet/rivetref13.Fit
namespace rivetref13_Fit
def f (n : Nat) (s0 : Str) : Option (Str × Unit) :=
    (rivetref07_Fit.g s0).bind fun y1 =>
    if (decide ((Int.tmod (s0.length : Int) (3 : Int)) = (1 : Int))) = true then 
    (if 0 ≤ (mn (y1.1.length : Int) (11 : Int)) ∧ (mn (y1.1.length : Int) (11 : Int)) ≤ (y1.1.length : Int) then 
    (if ([95] : Str).length + ((y1.1.take (((mn (y1.1.length : Int) (11 : Int))).toNat)).drop 0).length ≤ 9223372036854775807 then 
    (some ((([95] : Str) ++ ((y1.1.take (((mn (y1.1.length : Int) (11 : Int))).toNat)).drop 0)), ())) else none) else none)
    else (some (y1.1, ()))
def g (s0 : Str) : Option (Str × Unit) := f (1000 + s0.length) s0
end rivetref13_Fit

-- rivet/name.Label
namespace name_Label
def j9 (n : Nat) (rl4 : Str → Int → Int → Option (Bool × Unit)) (s0 : Str) (t24 : Int) (t25 : Int) : Option (Bool × Unit) :=
    rl4 s0 t24 (IntKind.i64.wrap (t25 + (1 : Int)))
def l4 (n : Nat) : Nat → Str → Int → Int → Option (Bool × Unit)
  | 0, _, _, _ => none
  | m + 1, s0, t24, t25 =>
    if (decide (t25 < t24)) = true then 
    (if 0 ≤ t25 ∧ t25 < (s0.length : Int) then 
    (if (decide ((bitsI .or .u8 (bt s0 t25) (32 : Int)) < (97 : Int))) = false then 
    (if (decide ((122 : Int) < (bitsI .or .u8 (bt s0 t25) (32 : Int)))) = false then 
    (if 0 ≤ t25 ∧ t25 < (s0.length : Int) then 
    (if (decide ((bt s0 t25) < (65 : Int))) = true then 
    (if 0 ≤ t25 ∧ t25 < (s0.length : Int) then 
    (if (decide ((bt s0 t25) ≠ (95 : Int))) = true then 
    (if 0 ≤ t25 ∧ t25 < (s0.length : Int) then 
    (if (decide ((bt s0 t25) < (48 : Int))) = false then 
    (if 0 ≤ t25 ∧ t25 < (s0.length : Int) then 
    (if (decide ((57 : Int) < (bt s0 t25))) = true then (some (false, ()))
    else (name_Label.j9 n (name_Label.l4 n m) s0 t24 t25)) else none)
    else (some (false, ()))) else none)
    else (name_Label.j9 n (name_Label.l4 n m) s0 t24 t25)) else none)
    else (name_Label.j9 n (name_Label.l4 n m) s0 t24 t25)) else none)
    else 
    (if 0 ≤ t25 ∧ t25 < (s0.length : Int) then 
    (if (decide ((bt s0 t25) ≠ (95 : Int))) = true then 
    (if 0 ≤ t25 ∧ t25 < (s0.length : Int) then 
    (if (decide ((bt s0 t25) < (48 : Int))) = false then 
    (if 0 ≤ t25 ∧ t25 < (s0.length : Int) then 
    (if (decide ((57 : Int) < (bt s0 t25))) = true then (some (false, ()))
    else (name_Label.j9 n (name_Label.l4 n m) s0 t24 t25)) else none)
    else (some (false, ()))) else none)
    else (name_Label.j9 n (name_Label.l4 n m) s0 t24 t25)) else none))
    else 
    (if 0 ≤ t25 ∧ t25 < (s0.length : Int) then 
    (if (decide ((bt s0 t25) ≠ (95 : Int))) = true then 
    (if 0 ≤ t25 ∧ t25 < (s0.length : Int) then 
    (if (decide ((bt s0 t25) < (48 : Int))) = false then 
    (if 0 ≤ t25 ∧ t25 < (s0.length : Int) then 
    (if (decide ((57 : Int) < (bt s0 t25))) = true then (some (false, ()))
    else (name_Label.j9 n (name_Label.l4 n m) s0 t24 t25)) else none)
    else (some (false, ()))) else none)
    else (name_Label.j9 n (name_Label.l4 n m) s0 t24 t25)) else none)) else none)
    else 
    (if 0 ≤ (0 : Int) ∧ (0 : Int) < (s0.length : Int) then 
    (if (decide ((bt s0 (0 : Int)) = (82 : Int))) = true then 
    (if (decide ((s0.length : Int) = (2 : Int))) = false then 
    (if (decide ((s0.length : Int) = (3 : Int))) = true then 
    (if 0 ≤ (1 : Int) ∧ (1 : Int) ≤ (s0.length : Int) then 
    ((L.trimO ((s0.take (((s0.length : Int)).toNat)).drop (((1 : Int)).toNat)) ([48, 49, 50, 51, 52, 53, 54, 55, 56, 57] : Str)).bind fun y1 =>
    some ((!(decide (y1.1 = ([] : Str)))), ())) else none)
    else (some (true, ())))
    else 
    (if 0 ≤ (1 : Int) ∧ (1 : Int) ≤ (s0.length : Int) then 
    ((L.trimO ((s0.take (((s0.length : Int)).toNat)).drop (((1 : Int)).toNat)) ([48, 49, 50, 51, 52, 53, 54, 55, 56, 57] : Str)).bind fun y2 =>
    some ((!(decide (y2.1 = ([] : Str)))), ())) else none))
    else (some (true, ()))) else none)
def j3 (n : Nat) (s0 : Str) : Option (Bool × Unit) :=
    name_Label.l4 n n s0 (s0.length : Int) (0 : Int)
def f (n : Nat) (s0 : Str) : Option (Bool × Unit) :=
    if (decide (s0 = ([] : Str))) = false then 
    (if (decide ((12 : Int) < (s0.length : Int))) = false then 
    (if 0 ≤ (0 : Int) ∧ (0 : Int) < (s0.length : Int) then 
    (if (decide ((48 : Int) ≤ (bt s0 (0 : Int)))) = true then 
    (if 0 ≤ (0 : Int) ∧ (0 : Int) < (s0.length : Int) then 
    (if (decide ((bt s0 (0 : Int)) ≤ (57 : Int))) = true then (some (false, ()))
    else (name_Label.j3 n s0)) else none)
    else (name_Label.j3 n s0)) else none)
    else (some (false, ())))
    else (some (false, ()))
def g (s0 : Str) : Option (Bool × Unit) := f (1000 + s0.length) s0
end name_Label

-- rivet/rivetlaw13.NameLabels
namespace rivetlaw13_NameLabels
def j9 (n : Nat) (head7 : Bool) (l8 : Str) (word9 : Bool) (end10 : Str) (in12 : Str) (want14 : Bool) : Option (Bool × Unit) :=
    if head7 = true then 
    ((name_Label.g l8).bind fun y1 =>
    if y1.1 = true then 
    ((name_Label.g end10).bind fun y2 =>
    if (y2.1 == want14) = true then 
    (if word9 = false then 
    ((name_Label.g in12).bind fun y3 =>
    if (!y3.1) = true then 
    ((name_Label.g ([] : Str)).bind fun y4 =>
    if (!y4.1) = true then 
    (if ([49] : Str).length + l8.length ≤ 9223372036854775807 then 
    ((name_Label.g (([49] : Str) ++ l8)).bind fun y5 =>
    some ((!y5.1), ())) else none)
    else (some (false, ())))
    else (some (false, ())))
    else 
    ((name_Label.g ([] : Str)).bind fun y6 =>
    if (!y6.1) = true then 
    (if ([49] : Str).length + l8.length ≤ 9223372036854775807 then 
    ((name_Label.g (([49] : Str) ++ l8)).bind fun y7 =>
    some ((!y7.1), ())) else none)
    else (some (false, ()))))
    else (some (false, ())))
    else (some (false, ())))
    else (some (false, ()))
def j8 (n : Nat) (head7 : Bool) (l8 : Str) (word9 : Bool) (end10 : Str) (in12 : Str) (digit13 : Bool) : Option (Bool × Unit) :=
    if word9 = true then 
    (if (decide ((end10.length : Int) ≤ (12 : Int))) = true then 
    (if digit13 = true then 
    (if (decide (l8 = ([82] : Str))) = false then 
    (if (decide ((l8.length : Int) = (2 : Int))) = true then 
    (if 0 ≤ (0 : Int) ∧ (0 : Int) < (l8.length : Int) then 
    (if (decide ((bt l8 (0 : Int)) = (82 : Int))) = true then 
    (if 0 ≤ (1 : Int) ∧ (1 : Int) < (l8.length : Int) then 
    (if (decide ((48 : Int) ≤ (bt l8 (1 : Int)))) = true then 
    (if 0 ≤ (1 : Int) ∧ (1 : Int) < (l8.length : Int) then 
    (rivetlaw13_NameLabels.j9 n head7 l8 word9 end10 in12 (!(decide ((bt l8 (1 : Int)) ≤ (57 : Int))))) else none)
    else (rivetlaw13_NameLabels.j9 n head7 l8 word9 end10 in12 true)) else none)
    else (rivetlaw13_NameLabels.j9 n head7 l8 word9 end10 in12 true)) else none)
    else (rivetlaw13_NameLabels.j9 n head7 l8 word9 end10 in12 true))
    else 
    (rivetlaw13_NameLabels.j9 n head7 l8 word9 end10 in12 false))
    else (rivetlaw13_NameLabels.j9 n head7 l8 word9 end10 in12 true))
    else 
    (rivetlaw13_NameLabels.j9 n head7 l8 word9 end10 in12 false))
    else 
    (rivetlaw13_NameLabels.j9 n head7 l8 word9 end10 in12 false)
def j4 (n : Nat) (c1 : Int) (at2 : Int) (head7 : Bool) (l8 : Str) (word9 : Bool) : Option (Bool × Unit) :=
    if l8.length + (bytesOf ([c1] : List Int)).length ≤ 9223372036854775807 then 
    (if (IntKind.i64.wrap ((l8.length : Int) + (1 : Int))) = 0 then none else 
    (if 0 ≤ (Int.tmod (IntKind.i64.wrap at2) (IntKind.i64.wrap ((l8.length : Int) + (1 : Int)))) ∧ (Int.tmod (IntKind.i64.wrap at2) (IntKind.i64.wrap ((l8.length : Int) + (1 : Int)))) ≤ (l8.length : Int) then 
    (if ((l8.take (((Int.tmod (IntKind.i64.wrap at2) (IntKind.i64.wrap ((l8.length : Int) + (1 : Int))))).toNat)).drop 0).length + (bytesOf ([c1] : List Int)).length ≤ 9223372036854775807 then 
    (if 0 ≤ (Int.tmod (IntKind.i64.wrap at2) (IntKind.i64.wrap ((l8.length : Int) + (1 : Int)))) ∧ (Int.tmod (IntKind.i64.wrap at2) (IntKind.i64.wrap ((l8.length : Int) + (1 : Int)))) ≤ (l8.length : Int) then 
    (if (((l8.take (((Int.tmod (IntKind.i64.wrap at2) (IntKind.i64.wrap ((l8.length : Int) + (1 : Int))))).toNat)).drop 0) ++ (bytesOf ([c1] : List Int))).length + ((l8.take (((l8.length : Int)).toNat)).drop (((Int.tmod (IntKind.i64.wrap at2) (IntKind.i64.wrap ((l8.length : Int) + (1 : Int))))).toNat)).length ≤ 9223372036854775807 then 
    (if (decide ((48 : Int) ≤ c1)) = true then 
    (rivetlaw13_NameLabels.j8 n head7 l8 word9 (l8 ++ (bytesOf ([c1] : List Int))) ((((l8.take (((Int.tmod (IntKind.i64.wrap at2) (IntKind.i64.wrap ((l8.length : Int) + (1 : Int))))).toNat)).drop 0) ++ (bytesOf ([c1] : List Int))) ++ ((l8.take (((l8.length : Int)).toNat)).drop (((Int.tmod (IntKind.i64.wrap at2) (IntKind.i64.wrap ((l8.length : Int) + (1 : Int))))).toNat))) (decide (c1 ≤ (57 : Int))))
    else 
    (rivetlaw13_NameLabels.j8 n head7 l8 word9 (l8 ++ (bytesOf ([c1] : List Int))) ((((l8.take (((Int.tmod (IntKind.i64.wrap at2) (IntKind.i64.wrap ((l8.length : Int) + (1 : Int))))).toNat)).drop 0) ++ (bytesOf ([c1] : List Int))) ++ ((l8.take (((l8.length : Int)).toNat)).drop (((Int.tmod (IntKind.i64.wrap at2) (IntKind.i64.wrap ((l8.length : Int) + (1 : Int))))).toNat))) false)) else none) else none) else none) else none)) else none
def f (n : Nat) (s0 : Str) (c1 : Int) (at2 : Int) : Option (Bool × Unit) :=
    (rivetlaw13_shown.g).bind fun y1 =>
    (rivetlaw13_few.g s0).bind fun y2 =>
    (rivetref13_Fit.g y2.1).bind fun y3 =>
    if (decide ((65 : Int) ≤ c1)) = true then 
    (if (decide (c1 ≤ (90 : Int))) = false then 
    (if (decide ((97 : Int) ≤ c1)) = true then 
    (if (decide (c1 ≤ (122 : Int))) = false then 
    (if (decide (c1 = (95 : Int))) = false then 
    (if (decide ((48 : Int) ≤ c1)) = true then 
    (rivetlaw13_NameLabels.j4 n c1 at2 y1.1 y3.1 (decide (c1 ≤ (57 : Int))))
    else (rivetlaw13_NameLabels.j4 n c1 at2 y1.1 y3.1 false))
    else (rivetlaw13_NameLabels.j4 n c1 at2 y1.1 y3.1 true))
    else (rivetlaw13_NameLabels.j4 n c1 at2 y1.1 y3.1 true))
    else 
    (if (decide (c1 = (95 : Int))) = false then 
    (if (decide ((48 : Int) ≤ c1)) = true then 
    (rivetlaw13_NameLabels.j4 n c1 at2 y1.1 y3.1 (decide (c1 ≤ (57 : Int))))
    else (rivetlaw13_NameLabels.j4 n c1 at2 y1.1 y3.1 false))
    else (rivetlaw13_NameLabels.j4 n c1 at2 y1.1 y3.1 true)))
    else (rivetlaw13_NameLabels.j4 n c1 at2 y1.1 y3.1 true))
    else 
    (if (decide ((97 : Int) ≤ c1)) = true then 
    (if (decide (c1 ≤ (122 : Int))) = false then 
    (if (decide (c1 = (95 : Int))) = false then 
    (if (decide ((48 : Int) ≤ c1)) = true then 
    (rivetlaw13_NameLabels.j4 n c1 at2 y1.1 y3.1 (decide (c1 ≤ (57 : Int))))
    else (rivetlaw13_NameLabels.j4 n c1 at2 y1.1 y3.1 false))
    else (rivetlaw13_NameLabels.j4 n c1 at2 y1.1 y3.1 true))
    else (rivetlaw13_NameLabels.j4 n c1 at2 y1.1 y3.1 true))
    else 
    (if (decide (c1 = (95 : Int))) = false then 
    (if (decide ((48 : Int) ≤ c1)) = true then 
    (rivetlaw13_NameLabels.j4 n c1 at2 y1.1 y3.1 (decide (c1 ≤ (57 : Int))))
    else (rivetlaw13_NameLabels.j4 n c1 at2 y1.1 y3.1 false))
    else (rivetlaw13_NameLabels.j4 n c1 at2 y1.1 y3.1 true)))
def g (s0 : Str) (c1 : Int) (at2 : Int) : Option (Bool × Unit) := f (1000 + s0.length + c1.toNat + at2.toNat) s0 c1 at2
end rivetlaw13_NameLabels

-- rivet/rivetref03.Fit
namespace rivetref03_Fit
def j25 (n : Nat) (b0_0 : Int) (b0_1 : Int) (b0_2 : Int) (b0_3 : Int) (b0_4 : Int) (b0_5 : Int) (b0_6 : Bool) (b1_0 : Int) (b1_1 : Int) (b1_2 : Int) (b1_3 : Int) (b1_4 : Int) (b1_5 : Int) (b1_6 : Bool) : Option (Int × Int × Int × Int × Int × Int × Bool × Unit) :=
    some (b1_0, b1_1, b1_2, b1_3, b1_4, b1_5, b1_6, ())
def j10 (n : Nat) (op4 : Int) (b0_0 : Int) (b0_1 : Int) (b0_2 : Int) (b0_3 : Int) (b0_4 : Int) (b0_5 : Int) (b0_6 : Bool) (b1_0 : Int) (b1_1 : Int) (b1_2 : Int) (b1_3 : Int) (b1_4 : Int) (b1_5 : Int) (b1_6 : Bool) (b2_0 : Int) (b2_1 : Int) (b2_2 : Int) (b2_3 : Int) (b2_4 : Int) (b2_5 : Int) (b2_6 : Bool) : Option (Int × Int × Int × Int × Int × Int × Bool × Unit) :=
    if (decide (b2_0 = (1 : Int))) = true then 
    (some (b2_0, b2_1, b2_2, b2_3, (bitsI .and .i64 b0_4 (15 : Int)), b2_5, b2_6, ()))
    else 
    (if (decide (op4 = (0 : Int))) = true then 
    (if b0_6 = true then 
    (rivetref03_Fit.j25 n b1_0 b1_1 b1_2 b1_3 b1_4 b1_5 b1_6 b2_0 b2_1 b2_2 b2_3 b2_4 (bitsI .and .i64 b0_5 (65535 : Int)) true)
    else 
    (rivetref03_Fit.j25 n b1_0 b1_1 b1_2 b1_3 b1_4 b1_5 b1_6 b2_0 b2_1 b2_2 b2_3 b2_4 (IntKind.i64.wrap ((bitsI .and .i64 b0_5 (131071 : Int)) - (65536 : Int))) b2_6))
    else 
    (rivetref03_Fit.j25 n b1_0 b1_1 b1_2 b1_3 b1_4 b1_5 b1_6 b2_0 b2_1 b2_2 b2_3 b2_4 (IntKind.i64.wrap ((bitsI .and .i64 b0_5 (131071 : Int)) - (65536 : Int))) b2_6))
def j9 (n : Nat) (op4 : Int) (b0_0 : Int) (b0_1 : Int) (b0_2 : Int) (b0_3 : Int) (b0_4 : Int) (b0_5 : Int) (b0_6 : Bool) (b1_0 : Int) (b1_1 : Int) (b1_2 : Int) (b1_3 : Int) (b1_4 : Int) (b1_5 : Int) (b1_6 : Bool) (b2_0 : Int) (b2_1 : Int) (b2_2 : Int) (b2_3 : Int) (b2_4 : Int) (b2_5 : Int) (b2_6 : Bool) : Option (Int × Int × Int × Int × Int × Int × Bool × Unit) :=
    if b0_6 = true then 
    (if (decide ((8 : Int) ≤ op4)) = true then 
    (rivetref03_Fit.j10 n op4 b0_0 b0_1 b0_2 b0_3 b0_4 b0_5 b0_6 b1_0 b1_1 b1_2 b1_3 b1_4 b1_5 b1_6 b2_0 b2_1 b2_2 b2_3 b2_4 b2_5 (decide (op4 ≤ (10 : Int))))
    else 
    (rivetref03_Fit.j10 n op4 b0_0 b0_1 b0_2 b0_3 b0_4 b0_5 b0_6 b1_0 b1_1 b1_2 b1_3 b1_4 b1_5 b1_6 b2_0 b2_1 b2_2 b2_3 b2_4 b2_5 false))
    else 
    (rivetref03_Fit.j10 n op4 b0_0 b0_1 b0_2 b0_3 b0_4 b0_5 b0_6 b1_0 b1_1 b1_2 b1_3 b1_4 b1_5 b1_6 b2_0 b2_1 b2_2 b2_3 b2_4 b2_5 false)
def j7 (n : Nat) (op4 : Int) (b0_0 : Int) (b0_1 : Int) (b0_2 : Int) (b0_3 : Int) (b0_4 : Int) (b0_5 : Int) (b0_6 : Bool) (b1_0 : Int) (b1_1 : Int) (b1_2 : Int) (b1_3 : Int) (b1_4 : Int) (b1_5 : Int) (b1_6 : Bool) (b2_0 : Int) (b2_1 : Int) (b2_2 : Int) (b2_3 : Int) (b2_4 : Int) (b2_5 : Int) (b2_6 : Bool) : Option (Int × Int × Int × Int × Int × Int × Bool × Unit) :=
    if (decide (op4 ≠ (0 : Int))) = true then 
    (rivetref03_Fit.j9 n op4 b0_0 b0_1 b0_2 b0_3 b0_4 b0_5 b0_6 b1_0 b1_1 b1_2 b1_3 b1_4 b1_5 b1_6 b2_0 b2_1 b2_2 (bitsI .and .i64 b0_3 (15 : Int)) b2_4 b2_5 b2_6)
    else 
    (rivetref03_Fit.j9 n op4 b0_0 b0_1 b0_2 b0_3 b0_4 b0_5 b0_6 b1_0 b1_1 b1_2 b1_3 b1_4 b1_5 b1_6 b2_0 b2_1 b2_2 b2_3 b2_4 b2_5 b2_6)
def j19 (n : Nat) (b0_0 : Int) (b0_1 : Int) (b0_2 : Int) (b0_3 : Int) (b0_4 : Int) (b0_5 : Int) (b0_6 : Bool) (b1_0 : Int) (b1_1 : Int) (b1_2 : Int) (b1_3 : Int) (b1_4 : Int) (b1_5 : Int) (b1_6 : Bool) (b2_0 : Int) (b2_1 : Int) (b2_2 : Int) (b2_3 : Int) (b2_4 : Int) (b2_5 : Int) (b2_6 : Bool) : Option (Int × Int × Int × Int × Int × Int × Bool × Unit) :=
    rivetref03_Fit.j25 n b1_0 b1_1 b1_2 b1_3 b1_4 b1_5 b1_6 b2_0 b2_1 b2_2 (bitsI .and .i64 b0_3 (15 : Int)) b2_4 (IntKind.i64.wrap ((bitsI .and .i64 b0_5 (1048575 : Int)) - (524288 : Int))) b2_6
def f (n : Nat) (i0_0 : Int) (i0_1 : Int) (i0_2 : Int) (i0_3 : Int) (i0_4 : Int) (i0_5 : Int) (i0_6 : Bool) : Option (Int × Int × Int × Int × Int × Int × Bool × Unit) :=
    if (decide ((IntKind.i64.wrap ((1 : Int) + (Int.tmod (IntKind.i64.wrap ((Int.tmod i0_0 (7 : Int)) + (7 : Int))) (7 : Int)))) = (1 : Int))) = true then 
    (if (decide ((IntKind.i64.wrap ((1 : Int) + (Int.tmod (IntKind.i64.wrap ((Int.tmod i0_0 (7 : Int)) + (7 : Int))) (7 : Int)))) = (1 : Int))) = true then 
    (rivetref03_Fit.j7 n (Int.tmod (IntKind.i64.wrap ((Int.tmod i0_1 (12 : Int)) + (12 : Int))) (12 : Int)) i0_0 i0_1 i0_2 i0_3 i0_4 i0_5 i0_6 0 0 0 0 0 0 false (IntKind.i64.wrap ((1 : Int) + (Int.tmod (IntKind.i64.wrap ((Int.tmod i0_0 (7 : Int)) + (7 : Int))) (7 : Int)))) (Int.tmod (IntKind.i64.wrap ((Int.tmod i0_1 (12 : Int)) + (12 : Int))) (12 : Int)) (bitsI .and .i64 i0_2 (15 : Int)) 0 0 0 false)
    else 
    (if (decide ((IntKind.i64.wrap ((1 : Int) + (Int.tmod (IntKind.i64.wrap ((Int.tmod i0_0 (7 : Int)) + (7 : Int))) (7 : Int)))) = (5 : Int))) = true then 
    (rivetref03_Fit.j19 n i0_0 i0_1 i0_2 i0_3 i0_4 i0_5 i0_6 0 0 0 0 0 0 false (IntKind.i64.wrap ((1 : Int) + (Int.tmod (IntKind.i64.wrap ((Int.tmod i0_0 (7 : Int)) + (7 : Int))) (7 : Int)))) (bitsI .and .i64 i0_1 (3 : Int)) (bitsI .and .i64 i0_2 (15 : Int)) 0 0 0 false)
    else 
    (if (decide ((IntKind.i64.wrap ((1 : Int) + (Int.tmod (IntKind.i64.wrap ((Int.tmod i0_0 (7 : Int)) + (7 : Int))) (7 : Int)))) = (6 : Int))) = true then 
    (rivetref03_Fit.j25 n 0 0 0 0 0 0 false (IntKind.i64.wrap ((1 : Int) + (Int.tmod (IntKind.i64.wrap ((Int.tmod i0_0 (7 : Int)) + (7 : Int))) (7 : Int)))) (bitsI .and .i64 i0_1 (15 : Int)) 0 0 (bitsI .and .i64 i0_4 (15 : Int)) 0 i0_6)
    else 
    (if (decide ((IntKind.i64.wrap ((1 : Int) + (Int.tmod (IntKind.i64.wrap ((Int.tmod i0_0 (7 : Int)) + (7 : Int))) (7 : Int)))) = (7 : Int))) = true then 
    (rivetref03_Fit.j25 n 0 0 0 0 0 0 false (IntKind.i64.wrap ((1 : Int) + (Int.tmod (IntKind.i64.wrap ((Int.tmod i0_0 (7 : Int)) + (7 : Int))) (7 : Int)))) (bitsI .and .i64 i0_1 (15 : Int)) 0 0 0 (IntKind.i64.wrap ((bitsI .and .i64 i0_5 (16777215 : Int)) - (8388608 : Int))) i0_6)
    else 
    (rivetref03_Fit.j25 n 0 0 0 0 0 0 false (IntKind.i64.wrap ((1 : Int) + (Int.tmod (IntKind.i64.wrap ((Int.tmod i0_0 (7 : Int)) + (7 : Int))) (7 : Int)))) 0 (bitsI .and .i64 i0_2 (15 : Int)) 0 0 0 false)))))
    else 
    (if (decide ((IntKind.i64.wrap ((1 : Int) + (Int.tmod (IntKind.i64.wrap ((Int.tmod i0_0 (7 : Int)) + (7 : Int))) (7 : Int)))) = (2 : Int))) = true then 
    (rivetref03_Fit.j7 n (Int.tmod (IntKind.i64.wrap ((Int.tmod i0_1 (12 : Int)) + (12 : Int))) (12 : Int)) i0_0 i0_1 i0_2 i0_3 i0_4 i0_5 i0_6 0 0 0 0 0 0 false (IntKind.i64.wrap ((1 : Int) + (Int.tmod (IntKind.i64.wrap ((Int.tmod i0_0 (7 : Int)) + (7 : Int))) (7 : Int)))) (Int.tmod (IntKind.i64.wrap ((Int.tmod i0_1 (12 : Int)) + (12 : Int))) (12 : Int)) (bitsI .and .i64 i0_2 (15 : Int)) 0 0 0 false)
    else 
    (if (decide ((IntKind.i64.wrap ((1 : Int) + (Int.tmod (IntKind.i64.wrap ((Int.tmod i0_0 (7 : Int)) + (7 : Int))) (7 : Int)))) = (5 : Int))) = true then 
    (rivetref03_Fit.j19 n i0_0 i0_1 i0_2 i0_3 i0_4 i0_5 i0_6 0 0 0 0 0 0 false (IntKind.i64.wrap ((1 : Int) + (Int.tmod (IntKind.i64.wrap ((Int.tmod i0_0 (7 : Int)) + (7 : Int))) (7 : Int)))) (bitsI .and .i64 i0_1 (3 : Int)) (bitsI .and .i64 i0_2 (15 : Int)) 0 0 0 false)
    else 
    (if (decide ((IntKind.i64.wrap ((1 : Int) + (Int.tmod (IntKind.i64.wrap ((Int.tmod i0_0 (7 : Int)) + (7 : Int))) (7 : Int)))) = (6 : Int))) = true then 
    (rivetref03_Fit.j25 n 0 0 0 0 0 0 false (IntKind.i64.wrap ((1 : Int) + (Int.tmod (IntKind.i64.wrap ((Int.tmod i0_0 (7 : Int)) + (7 : Int))) (7 : Int)))) (bitsI .and .i64 i0_1 (15 : Int)) 0 0 (bitsI .and .i64 i0_4 (15 : Int)) 0 i0_6)
    else 
    (if (decide ((IntKind.i64.wrap ((1 : Int) + (Int.tmod (IntKind.i64.wrap ((Int.tmod i0_0 (7 : Int)) + (7 : Int))) (7 : Int)))) = (7 : Int))) = true then 
    (rivetref03_Fit.j25 n 0 0 0 0 0 0 false (IntKind.i64.wrap ((1 : Int) + (Int.tmod (IntKind.i64.wrap ((Int.tmod i0_0 (7 : Int)) + (7 : Int))) (7 : Int)))) (bitsI .and .i64 i0_1 (15 : Int)) 0 0 0 (IntKind.i64.wrap ((bitsI .and .i64 i0_5 (16777215 : Int)) - (8388608 : Int))) i0_6)
    else 
    (rivetref03_Fit.j25 n 0 0 0 0 0 0 false (IntKind.i64.wrap ((1 : Int) + (Int.tmod (IntKind.i64.wrap ((Int.tmod i0_0 (7 : Int)) + (7 : Int))) (7 : Int)))) 0 (bitsI .and .i64 i0_2 (15 : Int)) 0 0 0 false)))))
def g (i0_0 : Int) (i0_1 : Int) (i0_2 : Int) (i0_3 : Int) (i0_4 : Int) (i0_5 : Int) (i0_6 : Bool) : Option (Int × Int × Int × Int × Int × Int × Bool × Unit) := f (1000 + i0_0.toNat + i0_1.toNat + i0_2.toNat + i0_3.toNat + i0_4.toNat + i0_5.toNat) i0_0 i0_1 i0_2 i0_3 i0_4 i0_5 i0_6
end rivetref03_Fit

-- rivet/rivetlaw13.NameInstr
namespace rivetlaw13_NameInstr
def j8 (n : Nat) (head3 : Bool) (kind5 : Int) (b0_0 : Int) (b0_1 : Int) (b0_2 : Int) (b0_3 : Int) (b0_4 : Int) (b0_5 : Int) (b0_6 : Bool) : Option (Bool × Unit) :=
    (L.mnemO kind5 b0_1 b0_6).bind fun y1 =>
    (L.nameOfO y1.1).bind fun y2 =>
    if head3 = true then 
    (if (!(decide (y1.1 = ([] : Str)))) = true then 
    (if y2.2.2.2.1 = true then 
    (if (decide (y2.1 = kind5)) = true then 
    (if (decide (y2.2.1 = b0_1)) = true then 
    (if (y2.2.2.1 == b0_6) = true then 
    ((name_Label.g y1.1).bind fun y3 =>
    if y3.1 = true then (some ((decide ((y1.1.length : Int) ≤ (4 : Int))), ()))
    else (some (false, ())))
    else (some (false, ())))
    else (some (false, ())))
    else (some (false, ())))
    else (some (false, ())))
    else (some (false, ())))
    else (some (false, ()))
def j6 (n : Nat) (head3 : Bool) (kind5 : Int) (b0_0 : Int) (b0_1 : Int) (b0_2 : Int) (b0_3 : Int) (b0_4 : Int) (b0_5 : Int) (b0_6 : Bool) : Option (Bool × Unit) :=
    if (decide (kind5 = (6 : Int))) = true then 
    (rivetlaw13_NameInstr.j8 n head3 (7 : Int) b0_0 b0_1 b0_2 b0_3 b0_4 b0_5 b0_6)
    else 
    (rivetlaw13_NameInstr.j8 n head3 kind5 b0_0 b0_1 b0_2 b0_3 b0_4 b0_5 b0_6)
def f (n : Nat) (i0_0 : Int) (i0_1 : Int) (i0_2 : Int) (i0_3 : Int) (i0_4 : Int) (i0_5 : Int) (i0_6 : Bool) : Option (Bool × Unit) :=
    (rivetlaw13_shown.g).bind fun y1 =>
    (rivetref03_Fit.g i0_0 i0_1 i0_2 i0_3 i0_4 i0_5 i0_6).bind fun y2 =>
    if (decide (y2.1 = (2 : Int))) = true then 
    (rivetlaw13_NameInstr.j6 n y1.1 (1 : Int) y2.1 y2.2.1 y2.2.2.1 y2.2.2.2.1 y2.2.2.2.2.1 y2.2.2.2.2.2.1 y2.2.2.2.2.2.2.1)
    else 
    (rivetlaw13_NameInstr.j6 n y1.1 y2.1 y2.1 y2.2.1 y2.2.2.1 y2.2.2.2.1 y2.2.2.2.2.1 y2.2.2.2.2.2.1 y2.2.2.2.2.2.2.1)
def g (i0_0 : Int) (i0_1 : Int) (i0_2 : Int) (i0_3 : Int) (i0_4 : Int) (i0_5 : Int) (i0_6 : Bool) : Option (Bool × Unit) := f (1000 + i0_0.toNat + i0_1.toNat + i0_2.toNat + i0_3.toNat + i0_4.toNat + i0_5.toNat) i0_0 i0_1 i0_2 i0_3 i0_4 i0_5 i0_6
end rivetlaw13_NameInstr

-- rivet/name.RegName
namespace name_RegName
def f (n : Nat) (n0 : Int) : Option (Str × Unit) :=
    if (decide (n0 < (0 : Int))) = false then 
    (if (decide ((16 : Int) ≤ n0)) = true then (some (([] : Str), ()))
    else 
    ((L.itoaO n0).bind fun y1 =>
    if ([82] : Str).length + y1.1.length ≤ 9223372036854775807 then (some ((([82] : Str) ++ y1.1), ())) else none))
    else (some (([] : Str), ()))
def g (n0 : Int) : Option (Str × Unit) := f (1000 + n0.toNat) n0
end name_RegName

-- internal/strconv.lower
namespace internal_strconv_lower
def f (n : Nat) (c0 : Int) : Option (Int × Unit) :=
    some ((bitsI .or .u8 c0 (32 : Int)), ())
def g (c0 : Int) : Option (Int × Unit) := f (1000 + c0.toNat) c0
end internal_strconv_lower

-- internal/strconv.ParseUint
namespace internal_strconv_ParseUint
def j55 (n : Nat) (rl36 : Int → Bool → Str → Int → Int → Bool → Int → (List Int) → Int → Int → Option (Int × (Option Int) × Unit)) (base1 : Int) (base08 : Bool) (s09 : Str) (cutoff10 : Int) (maxVal11 : Int) (underscores12 : Bool) (n13 : Int) (t99 : List Int) (t100 : Int) (t101 : Int) : Option (Int × (Option Int) × Unit) :=
    rl36 base1 base08 s09 cutoff10 maxVal11 underscores12 n13 t99 t100 (IntKind.i64.wrap (t101 + (1 : Int)))
def j46 (n : Nat) (rl36 : Int → Bool → Str → Int → Int → Bool → Int → (List Int) → Int → Int → Option (Int × (Option Int) × Unit)) (base1 : Int) (base08 : Bool) (s09 : Str) (cutoff10 : Int) (maxVal11 : Int) (underscores12 : Bool) (n13 : Int) (d16 : Int) (t99 : List Int) (t100 : Int) (t101 : Int) : Option (Int × (Option Int) × Unit) :=
    if (decide ((IntKind.u8.wrap base1) ≤ d16)) = true then (some ((0 : Int), (some (2 : Int)), ()))
    else 
    (if (decide (cutoff10 ≤ n13)) = true then (some (maxVal11, (some (1 : Int)), ()))
    else 
    (if (decide ((IntKind.u64.wrap ((IntKind.u64.wrap (n13 * (IntKind.u64.wrap base1))) + (IntKind.u64.wrap d16))) < (IntKind.u64.wrap (n13 * (IntKind.u64.wrap base1))))) = false then 
    (if (decide (maxVal11 < (IntKind.u64.wrap ((IntKind.u64.wrap (n13 * (IntKind.u64.wrap base1))) + (IntKind.u64.wrap d16))))) = true then (some (maxVal11, (some (1 : Int)), ()))
    else 
    (internal_strconv_ParseUint.j55 n rl36 base1 base08 s09 cutoff10 maxVal11 underscores12 (IntKind.u64.wrap ((IntKind.u64.wrap (n13 * (IntKind.u64.wrap base1))) + (IntKind.u64.wrap d16))) t99 t100 t101))
    else (some (maxVal11, (some (1 : Int)), ()))))
def l36 (n : Nat) : Nat → Int → Bool → Str → Int → Int → Bool → Int → (List Int) → Int → Int → Option (Int × (Option Int) × Unit)
  | 0, _, _, _, _, _, _, _, _, _, _ => none
  | m + 1, base1, base08, s09, cutoff10, maxVal11, underscores12, n13, t99, t100, t101 =>
    if (decide (t101 < t100)) = true then 
    (if 0 ≤ t101 ∧ t101 < (t99.length : Int) then 
    (if (decide ((t99.getD (t101).toNat (0 : Int)) = (95 : Int))) = true then 
    (if base08 = true then 
    (internal_strconv_ParseUint.j55 n (internal_strconv_ParseUint.l36 n m) base1 base08 s09 cutoff10 maxVal11 true n13 t99 t100 t101)
    else 
    (if (decide ((48 : Int) ≤ (t99.getD (t101).toNat (0 : Int)))) = true then 
    (if (decide ((t99.getD (t101).toNat (0 : Int)) ≤ (57 : Int))) = true then 
    (internal_strconv_ParseUint.j46 n (internal_strconv_ParseUint.l36 n m) base1 base08 s09 cutoff10 maxVal11 underscores12 n13 (IntKind.u8.wrap ((t99.getD (t101).toNat (0 : Int)) - (48 : Int))) t99 t100 t101)
    else 
    ((internal_strconv_lower.g (t99.getD (t101).toNat (0 : Int))).bind fun y1 =>
    if (decide ((97 : Int) ≤ y1.1)) = true then 
    ((internal_strconv_lower.g (t99.getD (t101).toNat (0 : Int))).bind fun y2 =>
    if (decide (y2.1 ≤ (122 : Int))) = true then 
    ((internal_strconv_lower.g (t99.getD (t101).toNat (0 : Int))).bind fun y3 =>
    internal_strconv_ParseUint.j46 n (internal_strconv_ParseUint.l36 n m) base1 base08 s09 cutoff10 maxVal11 underscores12 n13 (IntKind.u8.wrap ((IntKind.u8.wrap (y3.1 - (97 : Int))) + (10 : Int))) t99 t100 t101)
    else (some ((0 : Int), (some (2 : Int)), ())))
    else (some ((0 : Int), (some (2 : Int)), ()))))
    else 
    ((internal_strconv_lower.g (t99.getD (t101).toNat (0 : Int))).bind fun y4 =>
    if (decide ((97 : Int) ≤ y4.1)) = true then 
    ((internal_strconv_lower.g (t99.getD (t101).toNat (0 : Int))).bind fun y5 =>
    if (decide (y5.1 ≤ (122 : Int))) = true then 
    ((internal_strconv_lower.g (t99.getD (t101).toNat (0 : Int))).bind fun y6 =>
    internal_strconv_ParseUint.j46 n (internal_strconv_ParseUint.l36 n m) base1 base08 s09 cutoff10 maxVal11 underscores12 n13 (IntKind.u8.wrap ((IntKind.u8.wrap (y6.1 - (97 : Int))) + (10 : Int))) t99 t100 t101)
    else (some ((0 : Int), (some (2 : Int)), ())))
    else (some ((0 : Int), (some (2 : Int)), ())))))
    else 
    (if (decide ((48 : Int) ≤ (t99.getD (t101).toNat (0 : Int)))) = true then 
    (if (decide ((t99.getD (t101).toNat (0 : Int)) ≤ (57 : Int))) = true then 
    (internal_strconv_ParseUint.j46 n (internal_strconv_ParseUint.l36 n m) base1 base08 s09 cutoff10 maxVal11 underscores12 n13 (IntKind.u8.wrap ((t99.getD (t101).toNat (0 : Int)) - (48 : Int))) t99 t100 t101)
    else 
    ((internal_strconv_lower.g (t99.getD (t101).toNat (0 : Int))).bind fun y7 =>
    if (decide ((97 : Int) ≤ y7.1)) = true then 
    ((internal_strconv_lower.g (t99.getD (t101).toNat (0 : Int))).bind fun y8 =>
    if (decide (y8.1 ≤ (122 : Int))) = true then 
    ((internal_strconv_lower.g (t99.getD (t101).toNat (0 : Int))).bind fun y9 =>
    internal_strconv_ParseUint.j46 n (internal_strconv_ParseUint.l36 n m) base1 base08 s09 cutoff10 maxVal11 underscores12 n13 (IntKind.u8.wrap ((IntKind.u8.wrap (y9.1 - (97 : Int))) + (10 : Int))) t99 t100 t101)
    else (some ((0 : Int), (some (2 : Int)), ())))
    else (some ((0 : Int), (some (2 : Int)), ()))))
    else 
    ((internal_strconv_lower.g (t99.getD (t101).toNat (0 : Int))).bind fun y10 =>
    if (decide ((97 : Int) ≤ y10.1)) = true then 
    ((internal_strconv_lower.g (t99.getD (t101).toNat (0 : Int))).bind fun y11 =>
    if (decide (y11.1 ≤ (122 : Int))) = true then 
    ((internal_strconv_lower.g (t99.getD (t101).toNat (0 : Int))).bind fun y12 =>
    internal_strconv_ParseUint.j46 n (internal_strconv_ParseUint.l36 n m) base1 base08 s09 cutoff10 maxVal11 underscores12 n13 (IntKind.u8.wrap ((IntKind.u8.wrap (y12.1 - (97 : Int))) + (10 : Int))) t99 t100 t101)
    else (some ((0 : Int), (some (2 : Int)), ())))
    else (some ((0 : Int), (some (2 : Int)), ()))))) else none)
    else 
    (if underscores12 = true then 
    ((L.underscoreO s09).bind fun y13 =>
    if (!y13.1) = true then (some ((0 : Int), (some (2 : Int)), ()))
    else (some (n13, none, ())))
    else (some (n13, none, ())))
def j32 (n : Nat) (s0 : Str) (base1 : Int) (bitSize2 : Int) (base08 : Bool) (s09 : Str) (cutoff10 : Int) : Option (Int × (Option Int) × Unit) :=
    if (IntKind.u64.wrap bitSize2) < 0 then none else 
    (internal_strconv_ParseUint.l36 n n base1 base08 s09 cutoff10 (IntKind.u64.wrap ((IntKind.u64.wrap ((1 : Int) * 2 ^ (min (IntKind.u64.wrap bitSize2).toNat IntKind.u64.bits))) - (1 : Int))) false (0 : Int) (s0.map fun b => (b.toNat : Int)) ((s0.map fun b => (b.toNat : Int)).length : Int) (0 : Int))
def j25 (n : Nat) (s0 : Str) (base1 : Int) (bitSize2 : Int) (base08 : Bool) (s09 : Str) : Option (Int × (Option Int) × Unit) :=
    if (decide (base1 = (10 : Int))) = true then 
    (internal_strconv_ParseUint.j32 n s0 base1 bitSize2 base08 s09 (1844674407370955162 : Int))
    else 
    (if (decide (base1 = (16 : Int))) = true then 
    (internal_strconv_ParseUint.j32 n s0 base1 bitSize2 base08 s09 (1152921504606846976 : Int))
    else 
    (if (IntKind.u64.wrap base1) = 0 then none else 
    (internal_strconv_ParseUint.j32 n s0 base1 bitSize2 base08 s09 (IntKind.u64.wrap ((IntKind.u64.wrap (Int.tdiv (18446744073709551615 : Int) (IntKind.u64.wrap base1))) + (1 : Int))))))
def j21 (n : Nat) (s0 : Str) (base1 : Int) (bitSize2 : Int) (base08 : Bool) (s09 : Str) : Option (Int × (Option Int) × Unit) :=
    if (decide (bitSize2 = (0 : Int))) = true then 
    (internal_strconv_ParseUint.j25 n s0 base1 (64 : Int) base08 s09)
    else 
    (if (decide (bitSize2 < (0 : Int))) = false then 
    (if (decide ((64 : Int) < bitSize2)) = true then (some ((0 : Int), (some (4 : Int)), ()))
    else 
    (internal_strconv_ParseUint.j25 n s0 base1 bitSize2 base08 s09))
    else (some ((0 : Int), (some (4 : Int)), ())))
def j17 (n : Nat) (s0 : Str) (base1 : Int) (bitSize2 : Int) (base08 : Bool) (s09 : Str) : Option (Int × (Option Int) × Unit) :=
    if 0 ≤ (2 : Int) ∧ (2 : Int) ≤ (s0.length : Int) then 
    (internal_strconv_ParseUint.j21 n ((s0.take (((s0.length : Int)).toNat)).drop (((2 : Int)).toNat)) base1 bitSize2 base08 s09) else none
def j20 (n : Nat) (s0 : Str) (base1 : Int) (bitSize2 : Int) (base08 : Bool) (s09 : Str) : Option (Int × (Option Int) × Unit) :=
    if 0 ≤ (2 : Int) ∧ (2 : Int) ≤ (s0.length : Int) then 
    (internal_strconv_ParseUint.j21 n ((s0.take (((s0.length : Int)).toNat)).drop (((2 : Int)).toNat)) base1 bitSize2 base08 s09) else none
def j11 (n : Nat) (s0 : Str) (base1 : Int) (bitSize2 : Int) (base08 : Bool) (s09 : Str) : Option (Int × (Option Int) × Unit) :=
    if 0 ≤ (1 : Int) ∧ (1 : Int) ≤ (s0.length : Int) then 
    (internal_strconv_ParseUint.j21 n ((s0.take (((s0.length : Int)).toNat)).drop (((1 : Int)).toNat)) base1 bitSize2 base08 s09) else none
def j9 (n : Nat) (s0 : Str) (base1 : Int) (bitSize2 : Int) (base08 : Bool) (s09 : Str) : Option (Int × (Option Int) × Unit) :=
    if 0 ≤ (0 : Int) ∧ (0 : Int) < (s0.length : Int) then 
    (if (decide ((bt s0 (0 : Int)) = (48 : Int))) = true then 
    (if (decide ((3 : Int) ≤ (s0.length : Int))) = true then 
    (if 0 ≤ (1 : Int) ∧ (1 : Int) < (s0.length : Int) then 
    ((internal_strconv_lower.g (bt s0 (1 : Int))).bind fun y1 =>
    if (decide (y1.1 = (98 : Int))) = true then 
    (if 0 ≤ (2 : Int) ∧ (2 : Int) ≤ (s0.length : Int) then 
    (internal_strconv_ParseUint.j21 n ((s0.take (((s0.length : Int)).toNat)).drop (((2 : Int)).toNat)) (2 : Int) bitSize2 base08 s09) else none)
    else 
    (if (decide ((3 : Int) ≤ (s0.length : Int))) = true then 
    (if 0 ≤ (1 : Int) ∧ (1 : Int) < (s0.length : Int) then 
    ((internal_strconv_lower.g (bt s0 (1 : Int))).bind fun y2 =>
    if (decide (y2.1 = (111 : Int))) = true then 
    (internal_strconv_ParseUint.j17 n s0 (8 : Int) bitSize2 base08 s09)
    else 
    (if (decide ((3 : Int) ≤ (s0.length : Int))) = true then 
    (if 0 ≤ (1 : Int) ∧ (1 : Int) < (s0.length : Int) then 
    ((internal_strconv_lower.g (bt s0 (1 : Int))).bind fun y3 =>
    if (decide (y3.1 = (120 : Int))) = true then 
    (internal_strconv_ParseUint.j20 n s0 (16 : Int) bitSize2 base08 s09)
    else 
    (internal_strconv_ParseUint.j11 n s0 (8 : Int) bitSize2 base08 s09)) else none)
    else 
    (internal_strconv_ParseUint.j11 n s0 (8 : Int) bitSize2 base08 s09))) else none)
    else 
    (if (decide ((3 : Int) ≤ (s0.length : Int))) = true then 
    (if 0 ≤ (1 : Int) ∧ (1 : Int) < (s0.length : Int) then 
    ((internal_strconv_lower.g (bt s0 (1 : Int))).bind fun y4 =>
    if (decide (y4.1 = (120 : Int))) = true then 
    (internal_strconv_ParseUint.j20 n s0 (16 : Int) bitSize2 base08 s09)
    else 
    (internal_strconv_ParseUint.j11 n s0 (8 : Int) bitSize2 base08 s09)) else none)
    else 
    (internal_strconv_ParseUint.j11 n s0 (8 : Int) bitSize2 base08 s09)))) else none)
    else 
    (if (decide ((3 : Int) ≤ (s0.length : Int))) = true then 
    (if 0 ≤ (1 : Int) ∧ (1 : Int) < (s0.length : Int) then 
    ((internal_strconv_lower.g (bt s0 (1 : Int))).bind fun y5 =>
    if (decide (y5.1 = (111 : Int))) = true then 
    (internal_strconv_ParseUint.j17 n s0 (8 : Int) bitSize2 base08 s09)
    else 
    (if (decide ((3 : Int) ≤ (s0.length : Int))) = true then 
    (if 0 ≤ (1 : Int) ∧ (1 : Int) < (s0.length : Int) then 
    ((internal_strconv_lower.g (bt s0 (1 : Int))).bind fun y6 =>
    if (decide (y6.1 = (120 : Int))) = true then 
    (internal_strconv_ParseUint.j20 n s0 (16 : Int) bitSize2 base08 s09)
    else 
    (internal_strconv_ParseUint.j11 n s0 (8 : Int) bitSize2 base08 s09)) else none)
    else 
    (internal_strconv_ParseUint.j11 n s0 (8 : Int) bitSize2 base08 s09))) else none)
    else 
    (if (decide ((3 : Int) ≤ (s0.length : Int))) = true then 
    (if 0 ≤ (1 : Int) ∧ (1 : Int) < (s0.length : Int) then 
    ((internal_strconv_lower.g (bt s0 (1 : Int))).bind fun y7 =>
    if (decide (y7.1 = (120 : Int))) = true then 
    (internal_strconv_ParseUint.j20 n s0 (16 : Int) bitSize2 base08 s09)
    else 
    (internal_strconv_ParseUint.j11 n s0 (8 : Int) bitSize2 base08 s09)) else none)
    else 
    (internal_strconv_ParseUint.j11 n s0 (8 : Int) bitSize2 base08 s09))))
    else 
    (internal_strconv_ParseUint.j21 n s0 base1 bitSize2 base08 s09)) else none
def f (n : Nat) (s0 : Str) (base1 : Int) (bitSize2 : Int) : Option (Int × (Option Int) × Unit) :=
    if (decide (s0 = ([] : Str))) = true then (some ((0 : Int), (some (2 : Int)), ()))
    else 
    (if (decide ((2 : Int) ≤ base1)) = true then 
    (if (decide (base1 ≤ (36 : Int))) = true then 
    (internal_strconv_ParseUint.j21 n s0 base1 bitSize2 (decide (base1 = (0 : Int))) s0)
    else 
    (if (decide (base1 = (0 : Int))) = true then 
    (internal_strconv_ParseUint.j9 n s0 (10 : Int) bitSize2 (decide (base1 = (0 : Int))) s0)
    else (some ((0 : Int), (some (3 : Int)), ()))))
    else 
    (if (decide (base1 = (0 : Int))) = true then 
    (internal_strconv_ParseUint.j9 n s0 (10 : Int) bitSize2 (decide (base1 = (0 : Int))) s0)
    else (some ((0 : Int), (some (3 : Int)), ()))))
def g (s0 : Str) (base1 : Int) (bitSize2 : Int) : Option (Int × (Option Int) × Unit) := f (1000 + s0.length + base1.toNat + bitSize2.toNat) s0 base1 bitSize2
end internal_strconv_ParseUint

-- internal/strconv.ParseInt
namespace internal_strconv_ParseInt
def j21 (n : Nat) (neg8 : Bool) (un9 : Int) : Option (Int × (Option Int) × Unit) :=
    if neg8 = true then 
    (some ((IntKind.i64.wrap (0 - (IntKind.i64.wrap un9))), none, ()))
    else (some ((IntKind.i64.wrap un9), none, ()))
def j19 (n : Nat) (neg8 : Bool) (un9 : Int) (cutoff10 : Int) : Option (Int × (Option Int) × Unit) :=
    if neg8 = true then 
    (if (decide (cutoff10 < un9)) = true then 
    (some ((IntKind.i64.wrap (0 - (IntKind.i64.wrap cutoff10))), (some (1 : Int)), ()))
    else (internal_strconv_ParseInt.j21 n neg8 un9))
    else (internal_strconv_ParseInt.j21 n neg8 un9)
def j16 (n : Nat) (bitSize2 : Int) (neg8 : Bool) (un9 : Int) : Option (Int × (Option Int) × Unit) :=
    if (IntKind.u64.wrap (IntKind.i64.wrap (bitSize2 - (1 : Int)))) < 0 then none else 
    (if (!neg8) = true then 
    (if (decide ((IntKind.u64.wrap ((1 : Int) * 2 ^ (min (IntKind.u64.wrap (IntKind.i64.wrap (bitSize2 - (1 : Int)))).toNat IntKind.u64.bits))) ≤ un9)) = true then 
    (some ((IntKind.i64.wrap (IntKind.u64.wrap ((IntKind.u64.wrap ((1 : Int) * 2 ^ (min (IntKind.u64.wrap (IntKind.i64.wrap (bitSize2 - (1 : Int)))).toNat IntKind.u64.bits))) - (1 : Int)))), (some (1 : Int)), ()))
    else 
    (internal_strconv_ParseInt.j19 n neg8 un9 (IntKind.u64.wrap ((1 : Int) * 2 ^ (min (IntKind.u64.wrap (IntKind.i64.wrap (bitSize2 - (1 : Int)))).toNat IntKind.u64.bits)))))
    else 
    (internal_strconv_ParseInt.j19 n neg8 un9 (IntKind.u64.wrap ((1 : Int) * 2 ^ (min (IntKind.u64.wrap (IntKind.i64.wrap (bitSize2 - (1 : Int)))).toNat IntKind.u64.bits)))))
def j14 (n : Nat) (bitSize2 : Int) (neg8 : Bool) (un9 : Int) : Option (Int × (Option Int) × Unit) :=
    if (decide (bitSize2 = (0 : Int))) = true then (internal_strconv_ParseInt.j16 n (64 : Int) neg8 un9)
    else (internal_strconv_ParseInt.j16 n bitSize2 neg8 un9)
def j10 (n : Nat) (s0 : Str) (base1 : Int) (bitSize2 : Int) (neg8 : Bool) : Option (Int × (Option Int) × Unit) :=
    (internal_strconv_ParseUint.g s0 base1 bitSize2).bind fun y1 =>
    if (!y1.2.1.isNone) = true then 
    (if (!(decide (y1.2.1 = (some (1 : Int))))) = true then (some ((0 : Int), y1.2.1, ()))
    else (internal_strconv_ParseInt.j14 n bitSize2 neg8 y1.1))
    else (internal_strconv_ParseInt.j14 n bitSize2 neg8 y1.1)
def f (n : Nat) (s0 : Str) (base1 : Int) (bitSize2 : Int) : Option (Int × (Option Int) × Unit) :=
    if (decide (s0 = ([] : Str))) = true then (some ((0 : Int), (some (2 : Int)), ()))
    else 
    (if 0 ≤ (0 : Int) ∧ (0 : Int) < (s0.length : Int) then 
    (if (decide ((bt s0 (0 : Int)) = (43 : Int))) = true then 
    (if 0 ≤ (1 : Int) ∧ (1 : Int) ≤ (s0.length : Int) then 
    (internal_strconv_ParseInt.j10 n ((s0.take (((s0.length : Int)).toNat)).drop (((1 : Int)).toNat)) base1 bitSize2 false) else none)
    else 
    (if (decide ((bt s0 (0 : Int)) = (45 : Int))) = true then 
    (if 0 ≤ (1 : Int) ∧ (1 : Int) ≤ (s0.length : Int) then 
    (internal_strconv_ParseInt.j10 n ((s0.take (((s0.length : Int)).toNat)).drop (((1 : Int)).toNat)) base1 bitSize2 true) else none)
    else (internal_strconv_ParseInt.j10 n s0 base1 bitSize2 false))) else none)
def g (s0 : Str) (base1 : Int) (bitSize2 : Int) : Option (Int × (Option Int) × Unit) := f (1000 + s0.length + base1.toNat + bitSize2.toNat) s0 base1 bitSize2
end internal_strconv_ParseInt

-- internal/strconv.Atoi
namespace internal_strconv_Atoi
def l10 (n : Nat) : Nat → Str → Int → (List Int) → Int → Int → Option (Int × (Option Int) × Unit)
  | 0, _, _, _, _, _ => none
  | m + 1, s05, n6, t47, t48, t49 =>
    if (decide (t49 < t48)) = true then 
    (if 0 ≤ t49 ∧ t49 < (t47.length : Int) then 
    (if (decide ((9 : Int) < (IntKind.u8.wrap ((t47.getD (t49).toNat (0 : Int)) - (48 : Int))))) = true then (some ((0 : Int), (some (2 : Int)), ()))
    else 
    ((internal_strconv_Atoi.l10 n m) s05 (IntKind.i64.wrap ((IntKind.i64.wrap (n6 * (10 : Int))) + (IntKind.i64.wrap (IntKind.u8.wrap ((t47.getD (t49).toNat (0 : Int)) - (48 : Int)))))) t47 t48 (IntKind.i64.wrap (t49 + (1 : Int))))) else none)
    else 
    (if 0 ≤ (0 : Int) ∧ (0 : Int) < (s05.length : Int) then 
    (if (decide ((bt s05 (0 : Int)) = (45 : Int))) = true then (some ((IntKind.i64.wrap (0 - n6)), none, ()))
    else (some (n6, none, ()))) else none)
def j8 (n : Nat) (s0 : Str) (s05 : Str) : Option (Int × (Option Int) × Unit) :=
    internal_strconv_Atoi.l10 n n s05 (0 : Int) (s0.map fun b => (b.toNat : Int)) ((s0.map fun b => (b.toNat : Int)).length : Int) (0 : Int)
def j6 (n : Nat) (s0 : Str) (s05 : Str) : Option (Int × (Option Int) × Unit) :=
    if (decide ((s0.length : Int) < (1 : Int))) = true then (some ((0 : Int), (some (2 : Int)), ()))
    else (internal_strconv_Atoi.j8 n s0 s05)
def j20 (n : Nat) (s0 : Str) : Option (Int × (Option Int) × Unit) :=
    (internal_strconv_ParseInt.g s0 (10 : Int) (0 : Int)).bind fun y1 =>
    some (y1.1, y1.2.1, ())
def f (n : Nat) (s0 : Str) : Option (Int × (Option Int) × Unit) :=
    if (decide ((0 : Int) < (s0.length : Int))) = true then 
    (if (decide ((s0.length : Int) < (19 : Int))) = true then 
    (if 0 ≤ (0 : Int) ∧ (0 : Int) < (s0.length : Int) then 
    (if (decide ((bt s0 (0 : Int)) = (45 : Int))) = false then 
    (if 0 ≤ (0 : Int) ∧ (0 : Int) < (s0.length : Int) then 
    (if (decide ((bt s0 (0 : Int)) = (43 : Int))) = true then 
    (if 0 ≤ (1 : Int) ∧ (1 : Int) ≤ (s0.length : Int) then 
    (internal_strconv_Atoi.j6 n ((s0.take (((s0.length : Int)).toNat)).drop (((1 : Int)).toNat)) s0) else none)
    else (internal_strconv_Atoi.j8 n s0 s0)) else none)
    else 
    (if 0 ≤ (1 : Int) ∧ (1 : Int) ≤ (s0.length : Int) then 
    (internal_strconv_Atoi.j6 n ((s0.take (((s0.length : Int)).toNat)).drop (((1 : Int)).toNat)) s0) else none)) else none)
    else (internal_strconv_Atoi.j20 n s0))
    else (internal_strconv_Atoi.j20 n s0)
def g (s0 : Str) : Option (Int × (Option Int) × Unit) := f (1000 + s0.length) s0
end internal_strconv_Atoi

-- strconv.Atoi
namespace strconv_Atoi
def f (n : Nat) (s0 : Str) : Option (Int × Bool × Unit) :=
    (internal_strconv_Atoi.g s0).bind fun y1 =>
    if (!y1.2.1.isNone) = true then 
    ((L.toErrorO ([65, 116, 111, 105] : Str) s0 (0 : Int) (0 : Int) y1.2.1).bind fun y2 =>
    some (y1.1, y2.1, ()))
    else (some (y1.1, true, ()))
def g (s0 : Str) : Option (Int × Bool × Unit) := f (1000 + s0.length) s0
end strconv_Atoi

-- rivet/name.Reg
namespace name_Reg
def f (n : Nat) (s0 : Str) : Option (Int × Bool × Unit) :=
    (strconv_Atoi.g (L.cutRest s0 ([82] : Str))).bind fun y2 =>
    if (!(L.cutIs s0 ([82] : Str))) = false then 
    (if (!y2.2.1) = false then 
    ((name_RegName.g y2.1).bind fun y3 =>
    if (!(decide (y3.1 = s0))) = true then (some ((0 : Int), false, ()))
    else (some (y2.1, true, ())))
    else (some ((0 : Int), false, ())))
    else (some ((0 : Int), false, ()))
def g (s0 : Str) : Option (Int × Bool × Unit) := f (1000 + s0.length) s0
end name_Reg

-- rivet/rivetlaw13.NameRegs
namespace rivetlaw13_NameRegs
def j10 (n : Nat) (head5 : Bool) (k6 : Int) (s7 : Str) (r8 : Int) (ok9 : Bool) (digit10 : Str) (more12 : Bool) (nought14 : Bool) (small16 : Bool) (two17 : Bool) : Option (Bool × Unit) :=
    if head5 = true then 
    (if ok9 = true then 
    (if (decide (r8 = k6)) = true then 
    (if (more12 == two17) = true then 
    (if (!nought14) = true then 
    (if (!small16) = true then 
    ((name_Label.g s7).bind fun y1 =>
    if (!y1.1) = true then 
    (if ([82] : Str).length + digit10.length ≤ 9223372036854775807 then 
    (if (([82] : Str) ++ digit10).length + digit10.length ≤ 9223372036854775807 then 
    ((name_Label.g ((([82] : Str) ++ digit10) ++ digit10)).bind fun y2 =>
    if (!y2.1) = true then 
    (if ([82] : Str).length + digit10.length ≤ 9223372036854775807 then 
    (if (([82] : Str) ++ digit10).length + digit10.length ≤ 9223372036854775807 then 
    (if ((([82] : Str) ++ digit10) ++ digit10).length + digit10.length ≤ 9223372036854775807 then 
    ((name_Label.g (((([82] : Str) ++ digit10) ++ digit10) ++ digit10)).bind fun y3 =>
    if y3.1 = true then 
    (if ([114] : Str).length + digit10.length ≤ 9223372036854775807 then 
    ((name_Label.g (([114] : Str) ++ digit10)).bind fun y4 =>
    if y4.1 = true then 
    ((name_RegName.g (IntKind.i64.wrap ((16 : Int) + k6))).bind fun y5 =>
    if (decide (y5.1 = ([] : Str))) = true then 
    ((name_RegName.g (IntKind.i64.wrap ((-1 : Int) - k6))).bind fun y6 =>
    some ((decide (y6.1 = ([] : Str))), ()))
    else (some (false, ())))
    else (some (false, ()))) else none)
    else (some (false, ()))) else none) else none) else none)
    else (some (false, ()))) else none) else none)
    else (some (false, ())))
    else (some (false, ())))
    else (some (false, ())))
    else (some (false, ())))
    else (some (false, ())))
    else (some (false, ())))
    else (some (false, ()))
def f (n : Nat) (n0 : Int) (d1 : Int) : Option (Bool × Unit) :=
    (rivetlaw13_shown.g).bind fun y1 =>
    (name_RegName.g (IntKind.i64.wrap (Int.tmod n0 (16 : Int)))).bind fun y2 =>
    (name_Reg.g y2.1).bind fun y3 =>
    if y2.1.length + (bytesOf ([(IntKind.u8.wrap ((48 : Int) + (Int.tmod d1 (10 : Int))))] : List Int)).length ≤ 9223372036854775807 then 
    ((name_Reg.g (y2.1 ++ (bytesOf ([(IntKind.u8.wrap ((48 : Int) + (Int.tmod d1 (10 : Int))))] : List Int)))).bind fun y4 =>
    if ([82, 48] : Str).length + (bytesOf ([(IntKind.u8.wrap ((48 : Int) + (Int.tmod d1 (10 : Int))))] : List Int)).length ≤ 9223372036854775807 then 
    ((name_Reg.g (([82, 48] : Str) ++ (bytesOf ([(IntKind.u8.wrap ((48 : Int) + (Int.tmod d1 (10 : Int))))] : List Int)))).bind fun y5 =>
    if ([114] : Str).length + (bytesOf ([(IntKind.u8.wrap ((48 : Int) + (Int.tmod d1 (10 : Int))))] : List Int)).length ≤ 9223372036854775807 then 
    ((name_Reg.g (([114] : Str) ++ (bytesOf ([(IntKind.u8.wrap ((48 : Int) + (Int.tmod d1 (10 : Int))))] : List Int)))).bind fun y6 =>
    if (decide ((IntKind.i64.wrap (Int.tmod n0 (16 : Int))) = (1 : Int))) = true then 
    (rivetlaw13_NameRegs.j10 n y1.1 (IntKind.i64.wrap (Int.tmod n0 (16 : Int))) y2.1 y3.1 y3.2.1 (bytesOf ([(IntKind.u8.wrap ((48 : Int) + (Int.tmod d1 (10 : Int))))] : List Int)) y4.2.1 y5.2.1 y6.2.1 (decide ((Int.tmod d1 (10 : Int)) < (6 : Int))))
    else 
    (rivetlaw13_NameRegs.j10 n y1.1 (IntKind.i64.wrap (Int.tmod n0 (16 : Int))) y2.1 y3.1 y3.2.1 (bytesOf ([(IntKind.u8.wrap ((48 : Int) + (Int.tmod d1 (10 : Int))))] : List Int)) y4.2.1 y5.2.1 y6.2.1 false)) else none) else none) else none
def g (n0 : Int) (d1 : Int) : Option (Bool × Unit) := f (1000 + n0.toNat + d1.toNat) n0 d1
end rivetlaw13_NameRegs

-- rivet/rivetlaw13.NameBack
namespace rivetlaw13_NameBack
def j10 (n : Nat) (head7 : Bool) (kind8 : Int) (op9 : Int) (m10 : Str) (n11 : Str) (a12 : Int) (b13 : Int) (c14 : Bool) (ok15 : Bool) (same16 : Bool) (b0_0 : Bool) (b0_1 : Bool) : Option (Bool × Unit) :=
    (name_RegName.g op9).bind fun y1 =>
    (name_Reg.g y1.1).bind fun y2 =>
    if head7 = true then 
    (if ok15 = true then 
    (if (decide (a12 = kind8)) = true then 
    (if (decide (b13 = op9)) = true then 
    (if 0 ≤ (0 : Int) ∧ (0 : Int) < (2 : Int) then 
    (if (c14 == ([b0_0, b0_1].getD ((0 : Int)).toNat false)) = true then 
    (if ((decide (m10 = n11)) == same16) = true then 
    (if (y2.2.1 == (decide (op9 < (16 : Int)))) = true then 
    (if (!y2.2.1) = false then 
    (if (decide (y2.1 = op9)) = true then 
    ((name_RegName.g (Int.tmod op9 (16 : Int))).bind fun y3 =>
    (name_Label.g y3.1).bind fun y4 =>
    some ((!y4.1), ()))
    else (some (false, ())))
    else 
    ((name_RegName.g (Int.tmod op9 (16 : Int))).bind fun y5 =>
    (name_Label.g y5.1).bind fun y6 =>
    some ((!y6.1), ())))
    else (some (false, ())))
    else (some (false, ())))
    else (some (false, ()))) else none)
    else (some (false, ())))
    else (some (false, ())))
    else (some (false, ())))
    else (some (false, ()))
def f (n : Nat) (x0_0 : Int) (x0_1 : Int) (y1_0 : Int) (y1_1 : Int) (u2_0 : Bool) (u2_1 : Bool) : Option (Bool × Unit) :=
    (rivetlaw13_shown.g).bind fun y1 =>
    if 0 ≤ (0 : Int) ∧ (0 : Int) < (2 : Int) then 
    (if 0 ≤ (1 : Int) ∧ (1 : Int) < (2 : Int) then 
    (if 0 ≤ (0 : Int) ∧ (0 : Int) < (2 : Int) then 
    ((L.mnemO (IntKind.i64.wrap (Int.tmod ([x0_0, x0_1].getD ((0 : Int)).toNat 0) (12 : Int))) (IntKind.i64.wrap (Int.tmod ([x0_0, x0_1].getD ((1 : Int)).toNat 0) (17 : Int))) ([u2_0, u2_1].getD ((0 : Int)).toNat false)).bind fun y2 =>
    if 0 ≤ (0 : Int) ∧ (0 : Int) < (2 : Int) then 
    (if 0 ≤ (1 : Int) ∧ (1 : Int) < (2 : Int) then 
    (if 0 ≤ (1 : Int) ∧ (1 : Int) < (2 : Int) then 
    ((L.mnemO (IntKind.i64.wrap (Int.tmod ([y1_0, y1_1].getD ((0 : Int)).toNat 0) (12 : Int))) (IntKind.i64.wrap (Int.tmod ([y1_0, y1_1].getD ((1 : Int)).toNat 0) (17 : Int))) ([u2_0, u2_1].getD ((1 : Int)).toNat false)).bind fun y3 =>
    (L.nameOfO y2.1).bind fun y4 =>
    if (decide (y2.1 = ([] : Str))) = true then 
    (if y1.1 = true then 
    (if (!y4.2.2.2.1) = true then 
    (if (decide (y4.1 = (0 : Int))) = true then 
    (if (decide (y4.2.1 = (0 : Int))) = true then (some ((!y4.2.2.1), ()))
    else (some (false, ())))
    else (some (false, ())))
    else (some (false, ())))
    else (some (false, ())))
    else 
    (if 0 ≤ (0 : Int) ∧ (0 : Int) < (2 : Int) then 
    (if (decide ((IntKind.i64.wrap (Int.tmod ([x0_0, x0_1].getD ((0 : Int)).toNat 0) (12 : Int))) = (IntKind.i64.wrap (Int.tmod ([y1_0, y1_1].getD ((0 : Int)).toNat 0) (12 : Int))))) = true then 
    (if 0 ≤ (1 : Int) ∧ (1 : Int) < (2 : Int) then 
    (if (decide ((IntKind.i64.wrap (Int.tmod ([x0_0, x0_1].getD ((1 : Int)).toNat 0) (17 : Int))) = (IntKind.i64.wrap (Int.tmod ([y1_0, y1_1].getD ((1 : Int)).toNat 0) (17 : Int))))) = true then 
    (if 0 ≤ (0 : Int) ∧ (0 : Int) < (2 : Int) then 
    (if 0 ≤ (1 : Int) ∧ (1 : Int) < (2 : Int) then 
    (rivetlaw13_NameBack.j10 n y1.1 (IntKind.i64.wrap (Int.tmod ([x0_0, x0_1].getD ((0 : Int)).toNat 0) (12 : Int))) (IntKind.i64.wrap (Int.tmod ([x0_0, x0_1].getD ((1 : Int)).toNat 0) (17 : Int))) y2.1 y3.1 y4.1 y4.2.1 y4.2.2.1 y4.2.2.2.1 (([u2_0, u2_1].getD ((0 : Int)).toNat false) == ([u2_0, u2_1].getD ((1 : Int)).toNat false)) u2_0 u2_1) else none) else none)
    else 
    (rivetlaw13_NameBack.j10 n y1.1 (IntKind.i64.wrap (Int.tmod ([x0_0, x0_1].getD ((0 : Int)).toNat 0) (12 : Int))) (IntKind.i64.wrap (Int.tmod ([x0_0, x0_1].getD ((1 : Int)).toNat 0) (17 : Int))) y2.1 y3.1 y4.1 y4.2.1 y4.2.2.1 y4.2.2.2.1 false u2_0 u2_1)) else none)
    else 
    (rivetlaw13_NameBack.j10 n y1.1 (IntKind.i64.wrap (Int.tmod ([x0_0, x0_1].getD ((0 : Int)).toNat 0) (12 : Int))) (IntKind.i64.wrap (Int.tmod ([x0_0, x0_1].getD ((1 : Int)).toNat 0) (17 : Int))) y2.1 y3.1 y4.1 y4.2.1 y4.2.2.1 y4.2.2.2.1 false u2_0 u2_1)) else none)) else none) else none) else none) else none) else none) else none
def g (x0_0 : Int) (x0_1 : Int) (y1_0 : Int) (y1_1 : Int) (u2_0 : Bool) (u2_1 : Bool) : Option (Bool × Unit) := f (1000 + x0_0.toNat + x0_1.toNat + y1_0.toNat + y1_1.toNat) x0_0 x0_1 y1_0 y1_1 u2_0 u2_1
end rivetlaw13_NameBack

-- rivet/rivetref13.RegName
namespace rivetref13_RegName
def f (n : Nat) (n0 : Int) : Option (Str × Unit) :=
    if (decide (n0 < (0 : Int))) = false then 
    (if (decide ((15 : Int) < n0)) = true then (some (([] : Str), ()))
    else 
    (if (decide ((9 : Int) < n0)) = true then 
    (if ([82, 49] : Str).length + (bytesOf ([(IntKind.u8.wrap ((48 : Int) + (IntKind.u8.wrap (IntKind.i64.wrap (n0 - (10 : Int))))))] : List Int)).length ≤ 9223372036854775807 then 
    (some ((([82, 49] : Str) ++ (bytesOf ([(IntKind.u8.wrap ((48 : Int) + (IntKind.u8.wrap (IntKind.i64.wrap (n0 - (10 : Int))))))] : List Int))), ())) else none)
    else 
    (if ([82] : Str).length + (bytesOf ([(IntKind.u8.wrap ((48 : Int) + (IntKind.u8.wrap n0)))] : List Int)).length ≤ 9223372036854775807 then 
    (some ((([82] : Str) ++ (bytesOf ([(IntKind.u8.wrap ((48 : Int) + (IntKind.u8.wrap n0)))] : List Int))), ())) else none)))
    else (some (([] : Str), ()))
def g (n0 : Int) : Option (Str × Unit) := f (1000 + n0.toNat) n0
end rivetref13_RegName

-- rivet/rivetref13.Reg
namespace rivetref13_Reg
def l2 (n : Nat) : Nat → Str → Int → Option (Int × Bool × Unit)
  | 0, _, _ => none
  | m + 1, s0, n4 =>
    if (decide (n4 < (16 : Int))) = true then 
    ((rivetref13_RegName.g n4).bind fun y1 =>
    if (decide (y1.1 = s0)) = true then (some (n4, true, ()))
    else 
    ((rivetref13_Reg.l2 n m) s0 (IntKind.i64.wrap (n4 + (1 : Int)))))
    else (some ((0 : Int), false, ()))
def f (n : Nat) (s0 : Str) : Option (Int × Bool × Unit) :=
    rivetref13_Reg.l2 n n s0 (0 : Int)
def g (s0 : Str) : Option (Int × Bool × Unit) := f (1000 + s0.length) s0
end rivetref13_Reg

-- rivet/rivetref13.three
namespace rivetref13_three
def f (n : Nat) (s0 : Str) (n1 : Int) : Option (Str × Unit) :=
    if 0 ≤ (IntKind.i64.wrap ((IntKind.i64.wrap ((3 : Int) * n1)) + (3 : Int))) ∧ (IntKind.i64.wrap ((IntKind.i64.wrap ((3 : Int) * n1)) + (3 : Int))) ≤ (s0.length : Int) then 
    (if 0 ≤ (IntKind.i64.wrap ((3 : Int) * n1)) ∧ (IntKind.i64.wrap ((3 : Int) * n1)) ≤ (IntKind.i64.wrap ((IntKind.i64.wrap ((3 : Int) * n1)) + (3 : Int))) then 
    (some (((s0.take (((IntKind.i64.wrap ((IntKind.i64.wrap ((3 : Int) * n1)) + (3 : Int)))).toNat)).drop (((IntKind.i64.wrap ((3 : Int) * n1))).toNat)), ())) else none) else none
def g (s0 : Str) (n1 : Int) : Option (Str × Unit) := f (1000 + s0.length + n1.toNat) s0 n1
end rivetref13_three

-- rivet/rivetref13.Mnemonic
namespace rivetref13_Mnemonic
def j6 (n : Nat) (op1 : Int) (conds7 : Str) (head8 : Str) : Option (Str × Unit) :=
    if (decide (op1 = (7 : Int))) = true then (some (head8, ()))
    else 
    (if 0 ≤ (IntKind.i64.wrap ((IntKind.i64.wrap ((2 : Int) * op1)) + (2 : Int))) ∧ (IntKind.i64.wrap ((IntKind.i64.wrap ((2 : Int) * op1)) + (2 : Int))) ≤ (conds7.length : Int) then 
    (if 0 ≤ (IntKind.i64.wrap ((2 : Int) * op1)) ∧ (IntKind.i64.wrap ((2 : Int) * op1)) ≤ (IntKind.i64.wrap ((IntKind.i64.wrap ((2 : Int) * op1)) + (2 : Int))) then 
    (if head8.length + ((conds7.take (((IntKind.i64.wrap ((IntKind.i64.wrap ((2 : Int) * op1)) + (2 : Int)))).toNat)).drop (((IntKind.i64.wrap ((2 : Int) * op1))).toNat)).length ≤ 9223372036854775807 then 
    (some ((head8 ++ ((conds7.take (((IntKind.i64.wrap ((IntKind.i64.wrap ((2 : Int) * op1)) + (2 : Int)))).toNat)).drop (((IntKind.i64.wrap ((2 : Int) * op1))).toNat))), ())) else none) else none) else none)
def j23 (n : Nat) (kind0 : Int) (op1 : Int) : Option (Str × Unit) :=
    if (decide (op1 ≠ (0 : Int))) = true then (some (([] : Str), ()))
    else 
    (if (decide (kind0 = (3 : Int))) = true then (some (([77, 79, 86, 72] : Str), ()))
    else 
    (if (decide (kind0 = (4 : Int))) = true then (some (([77, 79, 86, 70] : Str), ()))
    else 
    (if (decide (kind0 = (8 : Int))) = true then (some (([76, 68, 76] : Str), ()))
    else 
    (if (decide (kind0 = (9 : Int))) = true then (some (([119, 111, 114, 100] : Str), ()))
    else 
    (if (decide (kind0 = (10 : Int))) = true then (some (([101, 120, 112, 111, 114, 116] : Str), ()))
    else (some (([] : Str), ())))))))
def j21 (n : Nat) (kind0 : Int) (op1 : Int) : Option (Str × Unit) :=
    if (decide (kind0 = (5 : Int))) = true then 
    (if (decide ((0 : Int) ≤ op1)) = true then 
    (if (decide (op1 ≤ (3 : Int))) = true then 
    ((rivetref13_three.g ([76, 68, 87, 76, 68, 66, 83, 84, 87, 83, 84, 66] : Str) op1).bind fun y1 =>
    some (y1.1, ()))
    else (rivetref13_Mnemonic.j23 n kind0 op1))
    else (rivetref13_Mnemonic.j23 n kind0 op1))
    else (rivetref13_Mnemonic.j23 n kind0 op1)
def j17 (n : Nat) (kind0 : Int) (op1 : Int) (u2 : Bool) : Option (Str × Unit) :=
    if u2 = true then (some (([] : Str), ()))
    else 
    (if (decide (kind0 = (1 : Int))) = true then 
    (if (decide ((0 : Int) ≤ op1)) = true then 
    (if (decide (op1 ≤ (11 : Int))) = true then 
    ((rivetref13_three.g ([77, 79, 86, 76, 83, 76, 65, 83, 82, 82, 79, 82, 65, 78, 68, 65, 78, 78, 73, 79, 82, 88, 79, 82, 65, 68, 68, 83, 85, 66, 77, 85, 76, 68, 73, 86] : Str) op1).bind fun y1 =>
    some (y1.1, ()))
    else (rivetref13_Mnemonic.j21 n kind0 op1))
    else (rivetref13_Mnemonic.j21 n kind0 op1))
    else (rivetref13_Mnemonic.j21 n kind0 op1))
def j15 (n : Nat) (kind0 : Int) (op1 : Int) (u2 : Bool) : Option (Str × Unit) :=
    if (decide (kind0 = (1 : Int))) = true then 
    (if u2 = true then 
    (if (decide (op1 = (10 : Int))) = true then (some (([77, 76, 85] : Str), ()))
    else (rivetref13_Mnemonic.j17 n kind0 op1 u2))
    else (rivetref13_Mnemonic.j17 n kind0 op1 u2))
    else (rivetref13_Mnemonic.j17 n kind0 op1 u2)
def j13 (n : Nat) (kind0 : Int) (op1 : Int) (u2 : Bool) : Option (Str × Unit) :=
    if (decide (kind0 = (1 : Int))) = true then 
    (if u2 = true then 
    (if (decide (op1 = (9 : Int))) = true then (some (([83, 66, 67] : Str), ()))
    else (rivetref13_Mnemonic.j15 n kind0 op1 u2))
    else (rivetref13_Mnemonic.j15 n kind0 op1 u2))
    else (rivetref13_Mnemonic.j15 n kind0 op1 u2)
def j11 (n : Nat) (kind0 : Int) (op1 : Int) (u2 : Bool) : Option (Str × Unit) :=
    if (decide (kind0 = (1 : Int))) = true then 
    (if u2 = true then 
    (if (decide (op1 = (8 : Int))) = true then (some (([65, 68, 67] : Str), ()))
    else (rivetref13_Mnemonic.j13 n kind0 op1 u2))
    else (rivetref13_Mnemonic.j13 n kind0 op1 u2))
    else (rivetref13_Mnemonic.j13 n kind0 op1 u2)
def j9 (n : Nat) (kind0 : Int) (op1 : Int) (u2 : Bool) : Option (Str × Unit) :=
    if (decide (kind0 = (1 : Int))) = true then 
    (if u2 = true then 
    (if (decide (op1 = (0 : Int))) = true then (some (([77, 79, 86, 85] : Str), ()))
    else (rivetref13_Mnemonic.j11 n kind0 op1 u2))
    else (rivetref13_Mnemonic.j11 n kind0 op1 u2))
    else (rivetref13_Mnemonic.j11 n kind0 op1 u2)
def f (n : Nat) (kind0 : Int) (op1 : Int) (u2 : Bool) : Option (Str × Unit) :=
    if (decide (kind0 = (7 : Int))) = true then 
    (if (decide ((0 : Int) ≤ op1)) = true then 
    (if (decide (op1 ≤ (15 : Int))) = true then 
    (if u2 = true then 
    (rivetref13_Mnemonic.j6 n op1 ([77, 73, 69, 81, 67, 83, 86, 83, 76, 83, 76, 84, 76, 69, 32, 32, 80, 76, 78, 69, 67, 67, 86, 67, 72, 73, 71, 69, 71, 84, 78, 86] : Str) ([66, 76] : Str))
    else 
    (rivetref13_Mnemonic.j6 n op1 ([77, 73, 69, 81, 67, 83, 86, 83, 76, 83, 76, 84, 76, 69, 32, 32, 80, 76, 78, 69, 67, 67, 86, 67, 72, 73, 71, 69, 71, 84, 78, 86] : Str) ([66] : Str)))
    else (rivetref13_Mnemonic.j9 n kind0 op1 u2))
    else (rivetref13_Mnemonic.j9 n kind0 op1 u2))
    else (rivetref13_Mnemonic.j9 n kind0 op1 u2)
def g (kind0 : Int) (op1 : Int) (u2 : Bool) : Option (Str × Unit) := f (1000 + kind0.toNat + op1.toNat) kind0 op1 u2
end rivetref13_Mnemonic

-- rivet/rivetref13.Of
namespace rivetref13_Of
def l7 (n : Nat) (rl4 : Str → Int → Option (Int × Int × Bool × Bool × Unit)) : Nat → Str → Int → Int → Option (Int × Int × Bool × Bool × Unit)
  | 0, _, _, _ => none
  | m + 1, s0, kind6, op7 =>
    if (decide (op7 < (16 : Int))) = true then 
    ((rivetref13_Mnemonic.g kind6 op7 false).bind fun y1 =>
    if (decide (y1.1 = s0)) = true then (some (kind6, op7, false, true, ()))
    else 
    ((rivetref13_Mnemonic.g kind6 op7 true).bind fun y2 =>
    if (decide (y2.1 = s0)) = true then (some (kind6, op7, true, true, ()))
    else 
    ((rivetref13_Of.l7 n rl4 m) s0 kind6 (IntKind.i64.wrap (op7 + (1 : Int))))))
    else (rl4 s0 (IntKind.i64.wrap (kind6 + (1 : Int))))
def l4 (n : Nat) : Nat → Str → Int → Option (Int × Int × Bool × Bool × Unit)
  | 0, _, _ => none
  | m + 1, s0, kind6 =>
    if (decide (kind6 < (11 : Int))) = true then 
    (rivetref13_Of.l7 n (rivetref13_Of.l4 n m) n s0 kind6 (0 : Int))
    else (some ((0 : Int), (0 : Int), false, false, ()))
def f (n : Nat) (s0 : Str) : Option (Int × Int × Bool × Bool × Unit) :=
    if (decide (s0 = ([] : Str))) = true then (some ((0 : Int), (0 : Int), false, false, ()))
    else (rivetref13_Of.l4 n n s0 (0 : Int))
def g (s0 : Str) : Option (Int × Int × Bool × Bool × Unit) := f (1000 + s0.length) s0
end rivetref13_Of

-- rivet/rivetref07.letter
namespace rivetref07_letter
def f (n : Nat) (c0 : Int) : Option (Bool × Unit) :=
    if (decide ((65 : Int) ≤ c0)) = true then 
    (if (decide (c0 ≤ (90 : Int))) = false then 
    (if (decide ((97 : Int) ≤ c0)) = true then (some ((decide (c0 ≤ (122 : Int))), ()))
    else (some (false, ())))
    else (some (true, ())))
    else 
    (if (decide ((97 : Int) ≤ c0)) = true then (some ((decide (c0 ≤ (122 : Int))), ()))
    else (some (false, ())))
def g (c0 : Int) : Option (Bool × Unit) := f (1000 + c0.toNat) c0
end rivetref07_letter

-- rivet/rivetref07.digit
namespace rivetref07_digit
def f (n : Nat) (c0 : Int) : Option (Bool × Unit) :=
    if (decide ((48 : Int) ≤ c0)) = true then (some ((decide (c0 ≤ (57 : Int))), ()))
    else (some (false, ()))
def g (c0 : Int) : Option (Bool × Unit) := f (1000 + c0.toNat) c0
end rivetref07_digit

-- rivet/rivetref07.Register
namespace rivetref07_Register
def f (n : Nat) (s0 : Str) : Option (Bool × Unit) :=
    if (decide ((s0.length : Int) < (2 : Int))) = false then 
    (if (decide ((3 : Int) < (s0.length : Int))) = false then 
    (if 0 ≤ (0 : Int) ∧ (0 : Int) < (s0.length : Int) then 
    (if (decide ((bt s0 (0 : Int)) ≠ (82 : Int))) = true then (some (false, ()))
    else 
    (if 0 ≤ (1 : Int) ∧ (1 : Int) < (s0.length : Int) then 
    ((rivetref07_digit.g (bt s0 (1 : Int))).bind fun y1 =>
    if y1.1 = true then 
    (if (decide ((s0.length : Int) = (2 : Int))) = false then 
    (if 0 ≤ (2 : Int) ∧ (2 : Int) < (s0.length : Int) then 
    ((rivetref07_digit.g (bt s0 (2 : Int))).bind fun y2 =>
    some (y2.1, ())) else none)
    else (some (true, ())))
    else (some (false, ()))) else none)) else none)
    else (some (false, ())))
    else (some (false, ()))
def g (s0 : Str) : Option (Bool × Unit) := f (1000 + s0.length) s0
end rivetref07_Register

-- rivet/rivetref07.Name
namespace rivetref07_Name
def j5 (n : Nat) (rl4 : Str → Int → Option (Bool × Unit)) (s0 : Str) (i3 : Int) : Option (Bool × Unit) :=
    rl4 s0 (IntKind.i64.wrap (i3 + (1 : Int)))
def l4 (n : Nat) : Nat → Str → Int → Option (Bool × Unit)
  | 0, _, _ => none
  | m + 1, s0, i3 =>
    if (decide (i3 < (s0.length : Int))) = true then 
    (if 0 ≤ i3 ∧ i3 < (s0.length : Int) then 
    ((rivetref07_letter.g (bt s0 i3)).bind fun y1 =>
    if (!y1.1) = true then 
    (if 0 ≤ i3 ∧ i3 < (s0.length : Int) then 
    ((rivetref07_digit.g (bt s0 i3)).bind fun y2 =>
    if (!y2.1) = true then 
    (if 0 ≤ i3 ∧ i3 < (s0.length : Int) then 
    (if (decide ((bt s0 i3) ≠ (95 : Int))) = true then (some (false, ()))
    else (rivetref07_Name.j5 n (rivetref07_Name.l4 n m) s0 i3)) else none)
    else (rivetref07_Name.j5 n (rivetref07_Name.l4 n m) s0 i3)) else none)
    else (rivetref07_Name.j5 n (rivetref07_Name.l4 n m) s0 i3)) else none)
    else (some (true, ()))
def f (n : Nat) (s0 : Str) : Option (Bool × Unit) :=
    if (decide ((s0.length : Int) < (1 : Int))) = false then 
    (if (decide ((12 : Int) < (s0.length : Int))) = false then 
    (if 0 ≤ (0 : Int) ∧ (0 : Int) < (s0.length : Int) then 
    ((rivetref07_letter.g (bt s0 (0 : Int))).bind fun y1 =>
    if (!y1.1) = false then 
    ((rivetref07_Register.g s0).bind fun y2 =>
    if y2.1 = true then (some (false, ()))
    else (rivetref07_Name.l4 n n s0 (0 : Int)))
    else (some (false, ()))) else none)
    else (some (false, ())))
    else (some (false, ()))
def g (s0 : Str) : Option (Bool × Unit) := f (1000 + s0.length) s0
end rivetref07_Name

-- rivet/rivetref13.Label
namespace rivetref13_Label
def j3 (n : Nat) (s0 : Str) : Option (Bool × Unit) :=
    (rivetref07_Name.g s0).bind fun y1 =>
    some (y1.1, ())
def f (n : Nat) (s0 : Str) : Option (Bool × Unit) :=
    if (decide ((0 : Int) < (s0.length : Int))) = true then 
    (if 0 ≤ (0 : Int) ∧ (0 : Int) < (s0.length : Int) then 
    (if (decide ((bt s0 (0 : Int)) = (95 : Int))) = true then 
    (if 0 ≤ (1 : Int) ∧ (1 : Int) ≤ (s0.length : Int) then 
    (if ([97] : Str).length + ((s0.take (((s0.length : Int)).toNat)).drop (((1 : Int)).toNat)).length ≤ 9223372036854775807 then 
    ((rivetref07_Name.g (([97] : Str) ++ ((s0.take (((s0.length : Int)).toNat)).drop (((1 : Int)).toNat)))).bind fun y1 =>
    some (y1.1, ())) else none) else none)
    else (rivetref13_Label.j3 n s0)) else none)
    else (rivetref13_Label.j3 n s0)
def g (s0 : Str) : Option (Bool × Unit) := f (1000 + s0.length) s0
end rivetref13_Label

-- rivet/rivetlaw13.NameAll
namespace rivetlaw13_NameAll
def f (n : Nat) (s0 : Str) (kind1 : Int) (op2 : Int) : Option (Bool × Unit) :=
    (rivetlaw13_shown.g).bind fun y1 =>
    (rivetlaw13_few.g s0).bind fun y2 =>
    (name_Reg.g y2.1).bind fun y3 =>
    (rivetref13_Reg.g y2.1).bind fun y4 =>
    (L.nameOfO y2.1).bind fun y5 =>
    (rivetref13_Of.g y2.1).bind fun y6 =>
    if y1.1 = true then 
    (if (decide (y3.1 = y4.1)) = true then 
    (if (y3.2.1 == y4.2.1) = true then 
    ((name_Label.g y2.1).bind fun y7 =>
    (rivetref13_Label.g y2.1).bind fun y8 =>
    if (y7.1 == y8.1) = true then 
    (if (decide (y5.1 = y6.1)) = true then 
    (if (decide (y5.2.1 = y6.2.1)) = true then 
    (if (y5.2.2.1 == y6.2.2.1) = true then 
    (if (y5.2.2.2.1 == y6.2.2.2.1) = true then 
    ((L.mnemO kind1 op2 true).bind fun y9 =>
    (rivetref13_Mnemonic.g kind1 op2 true).bind fun y10 =>
    if (decide (y9.1 = y10.1)) = true then 
    ((L.mnemO kind1 op2 false).bind fun y11 =>
    (rivetref13_Mnemonic.g kind1 op2 false).bind fun y12 =>
    if (decide (y11.1 = y12.1)) = true then 
    ((name_RegName.g op2).bind fun y13 =>
    (rivetref13_RegName.g op2).bind fun y14 =>
    some ((decide (y13.1 = y14.1)), ()))
    else (some (false, ())))
    else (some (false, ())))
    else (some (false, ())))
    else (some (false, ())))
    else (some (false, ())))
    else (some (false, ())))
    else (some (false, ())))
    else (some (false, ())))
    else (some (false, ())))
    else (some (false, ()))
def g (s0 : Str) (kind1 : Int) (op2 : Int) : Option (Bool × Unit) := f (1000 + s0.length + kind1.toNat + op2.toNat) s0 kind1 op2
end rivetlaw13_NameAll

-- rivet/scan.letter
namespace scan_letter
def f (n : Nat) (c0 : Int) : Option (Bool × Unit) :=
    if (decide ((65 : Int) ≤ c0)) = true then 
    (if (decide (c0 ≤ (90 : Int))) = false then 
    (if (decide ((97 : Int) ≤ c0)) = true then 
    (if (decide (c0 ≤ (122 : Int))) = false then (some ((decide (c0 = (95 : Int))), ()))
    else (some (true, ())))
    else (some ((decide (c0 = (95 : Int))), ())))
    else (some (true, ())))
    else 
    (if (decide ((97 : Int) ≤ c0)) = true then 
    (if (decide (c0 ≤ (122 : Int))) = false then (some ((decide (c0 = (95 : Int))), ()))
    else (some (true, ())))
    else (some ((decide (c0 = (95 : Int))), ())))
def g (c0 : Int) : Option (Bool × Unit) := f (1000 + c0.toNat) c0
end scan_letter

-- rivet/scan.digit
namespace scan_digit
def f (n : Nat) (c0 : Int) : Option (Bool × Unit) :=
    if (decide ((48 : Int) ≤ c0)) = true then (some ((decide (c0 ≤ (57 : Int))), ()))
    else (some (false, ()))
def g (c0 : Int) : Option (Bool × Unit) := f (1000 + c0.toNat) c0
end scan_digit

-- rivet/scan.word
namespace scan_word
def j3 (n : Nat) (rl2 : Str → Int → Option (Str × Unit)) (s0 : Str) (n3 : Int) : Option (Str × Unit) :=
    rl2 s0 (IntKind.i64.wrap (n3 + (1 : Int)))
def j4 (n : Nat) (s0 : Str) (n3 : Int) : Option (Str × Unit) :=
    if 0 ≤ n3 ∧ n3 ≤ (s0.length : Int) then (some (((s0.take ((n3).toNat)).drop 0), ())) else none
def l2 (n : Nat) : Nat → Str → Int → Option (Str × Unit)
  | 0, _, _ => none
  | m + 1, s0, n3 =>
    if (decide (n3 < (s0.length : Int))) = true then 
    (if 0 ≤ n3 ∧ n3 < (s0.length : Int) then 
    ((scan_letter.g (bt s0 n3)).bind fun y1 =>
    if y1.1 = false then 
    (if 0 ≤ n3 ∧ n3 < (s0.length : Int) then 
    ((scan_digit.g (bt s0 n3)).bind fun y2 =>
    if y2.1 = true then (scan_word.j3 n (scan_word.l2 n m) s0 n3)
    else (scan_word.j4 n s0 n3)) else none)
    else (scan_word.j3 n (scan_word.l2 n m) s0 n3)) else none)
    else (scan_word.j4 n s0 n3)
def f (n : Nat) (s0 : Str) : Option (Str × Unit) :=
    scan_word.l2 n n s0 (0 : Int)
def g (s0 : Str) : Option (Str × Unit) := f (1000 + s0.length) s0
end scan_word

-- strconv.ParseUint
namespace strconv_ParseUint
def f (n : Nat) (s0 : Str) (base1 : Int) (bitSize2 : Int) : Option (Int × Bool × Unit) :=
    (internal_strconv_ParseUint.g s0 base1 bitSize2).bind fun y1 =>
    if (!y1.2.1.isNone) = true then 
    ((L.toErrorO ([80, 97, 114, 115, 101, 85, 105, 110, 116] : Str) s0 base1 bitSize2 y1.2.1).bind fun y2 =>
    some (y1.1, y2.1, ()))
    else (some (y1.1, true, ()))
def g (s0 : Str) (base1 : Int) (bitSize2 : Int) : Option (Int × Bool × Unit) := f (1000 + s0.length + base1.toNat + bitSize2.toNat) s0 base1 bitSize2
end strconv_ParseUint

-- rivet/scan.number
namespace scan_number
def j5 (n : Nat) (s0 : Str) (base4 : Int) : Option (Int × Bool × Unit) :=
    (L.containsO s0 ([95] : Str)).bind fun y1 =>
    if y1.1 = true then (some ((0 : Int), false, ()))
    else 
    ((strconv_ParseUint.g s0 base4 (32 : Int)).bind fun y2 =>
    some ((IntKind.u32.wrap y2.1), y2.2.1, ()))
def f (n : Nat) (s0 : Str) : Option (Int × Bool × Unit) :=
    if (L.cutIs s0 ([48, 120] : Str)) = true then 
    (scan_number.j5 n (L.cutRest s0 ([48, 120] : Str)) (16 : Int))
    else (scan_number.j5 n s0 (10 : Int))
def g (s0 : Str) : Option (Int × Bool × Unit) := f (1000 + s0.length) s0
end scan_number

-- rivet/scan.Line
namespace scan_Line
def j23 (n : Nat) (rg0 : Str → (List (Int × Int × Str × Int × Unit)) → Int → Option ((List (Int × Int × Str × Int × Unit)) × Int × Unit)) (s0 : Str) (out4 : List (Int × Int × Str × Int × Unit)) (at5 : Int) (b0_0 : Int) (b0_1 : Int) (b0_2 : Str) (b0_3 : Int) : Option ((List (Int × Int × Str × Int × Unit)) × Int × Unit) :=
    if (out4.length + ([(b0_0, b0_1, b0_2, b0_3, ())] : List (Int × Int × Str × Int × Unit)).length) * 40 ≤ 140737488355328 ∧ 0 < 40 ∧ 0 < 4 then 
    (rg0 s0 (out4 ++ ([(b0_0, b0_1, b0_2, b0_3, ())] : List (Int × Int × Str × Int × Unit))) (IntKind.i64.wrap (at5 + (b0_2.length : Int)))) else none
def g0 (n : Nat) : Nat → Str → (List (Int × Int × Str × Int × Unit)) → Int → Option ((List (Int × Int × Str × Int × Unit)) × Int × Unit)
  | 0, _, _, _ => none
  | m + 1, s0, out4, at5 =>
    if (decide ((s0.length : Int) ≤ at5)) = false then 
    (if 0 ≤ at5 ∧ at5 < (s0.length : Int) then 
    (if (decide ((bt s0 at5) = (59 : Int))) = true then (some (out4, (0 : Int), ()))
    else 
    (if 0 ≤ at5 ∧ at5 < (s0.length : Int) then 
    (if (decide ((bt s0 at5) = (32 : Int))) = false then 
    (if (decide ((bt s0 at5) = (9 : Int))) = true then 
    ((scan_Line.g0 n m) s0 out4 (IntKind.i64.wrap (at5 + (1 : Int))))
    else 
    ((scan_letter.g (bt s0 at5)).bind fun y1 =>
    if y1.1 = true then 
    (if 0 ≤ at5 ∧ at5 ≤ (s0.length : Int) then 
    ((scan_word.g ((s0.take (((s0.length : Int)).toNat)).drop ((at5).toNat))).bind fun y2 =>
    scan_Line.j23 n (scan_Line.g0 n m) s0 out4 at5 (1 : Int) at5 y2.1 0) else none)
    else 
    ((scan_digit.g (bt s0 at5)).bind fun y3 =>
    if y3.1 = true then 
    (if 0 ≤ at5 ∧ at5 ≤ (s0.length : Int) then 
    ((scan_word.g ((s0.take (((s0.length : Int)).toNat)).drop ((at5).toNat))).bind fun y4 =>
    (scan_number.g y4.1).bind fun y5 =>
    if (!y5.2.1) = true then (some ([], (21 : Int), ()))
    else 
    (scan_Line.j23 n (scan_Line.g0 n m) s0 out4 at5 (2 : Int) at5 y4.1 y5.1)) else none)
    else 
    (if (decide ((bt s0 at5) = (46 : Int))) = true then 
    (if (decide ((IntKind.i64.wrap (at5 + (1 : Int))) < (s0.length : Int))) = true then 
    (if 0 ≤ (IntKind.i64.wrap (at5 + (1 : Int))) ∧ (IntKind.i64.wrap (at5 + (1 : Int))) < (s0.length : Int) then 
    ((scan_letter.g (bt s0 (IntKind.i64.wrap (at5 + (1 : Int))))).bind fun y6 =>
    if y6.1 = true then 
    (if 0 ≤ (IntKind.i64.wrap (at5 + (1 : Int))) ∧ (IntKind.i64.wrap (at5 + (1 : Int))) ≤ (s0.length : Int) then 
    ((scan_word.g ((s0.take (((s0.length : Int)).toNat)).drop (((IntKind.i64.wrap (at5 + (1 : Int)))).toNat))).bind fun y7 =>
    scan_Line.j23 n (scan_Line.g0 n m) s0 out4 (IntKind.i64.wrap (at5 + (1 : Int))) (4 : Int) at5 y7.1 0) else none)
    else 
    (if (decide ((0 : Int) ≤ (L.indexByte ([44, 58, 43, 45, 42, 40, 41, 61] : Str) (bt s0 at5)))) = true then 
    (if 0 ≤ (IntKind.i64.wrap (at5 + (1 : Int))) ∧ (IntKind.i64.wrap (at5 + (1 : Int))) ≤ (s0.length : Int) then 
    (if 0 ≤ at5 ∧ at5 ≤ (IntKind.i64.wrap (at5 + (1 : Int))) then 
    (scan_Line.j23 n (scan_Line.g0 n m) s0 out4 at5 (3 : Int) at5 ((s0.take (((IntKind.i64.wrap (at5 + (1 : Int)))).toNat)).drop ((at5).toNat)) 0) else none) else none)
    else (some ([], (20 : Int), ())))) else none)
    else 
    (if (decide ((0 : Int) ≤ (L.indexByte ([44, 58, 43, 45, 42, 40, 41, 61] : Str) (bt s0 at5)))) = true then 
    (if 0 ≤ (IntKind.i64.wrap (at5 + (1 : Int))) ∧ (IntKind.i64.wrap (at5 + (1 : Int))) ≤ (s0.length : Int) then 
    (if 0 ≤ at5 ∧ at5 ≤ (IntKind.i64.wrap (at5 + (1 : Int))) then 
    (scan_Line.j23 n (scan_Line.g0 n m) s0 out4 at5 (3 : Int) at5 ((s0.take (((IntKind.i64.wrap (at5 + (1 : Int)))).toNat)).drop ((at5).toNat)) 0) else none) else none)
    else (some ([], (20 : Int), ()))))
    else 
    (if (decide ((0 : Int) ≤ (L.indexByte ([44, 58, 43, 45, 42, 40, 41, 61] : Str) (bt s0 at5)))) = true then 
    (if 0 ≤ (IntKind.i64.wrap (at5 + (1 : Int))) ∧ (IntKind.i64.wrap (at5 + (1 : Int))) ≤ (s0.length : Int) then 
    (if 0 ≤ at5 ∧ at5 ≤ (IntKind.i64.wrap (at5 + (1 : Int))) then 
    (scan_Line.j23 n (scan_Line.g0 n m) s0 out4 at5 (3 : Int) at5 ((s0.take (((IntKind.i64.wrap (at5 + (1 : Int)))).toNat)).drop ((at5).toNat)) 0) else none) else none)
    else (some ([], (20 : Int), ())))))))
    else 
    ((scan_Line.g0 n m) s0 out4 (IntKind.i64.wrap (at5 + (1 : Int))))) else none)) else none)
    else (some (out4, (0 : Int), ()))
def f (n : Nat) (s0 : Str) : Option ((List (Int × Int × Str × Int × Unit)) × Int × Unit) :=
    scan_Line.g0 n n s0 ([]) (0 : Int)
def g (s0 : Str) : Option ((List (Int × Int × Str × Int × Unit)) × Int × Unit) := f (1000 + s0.length) s0
end scan_Line

end Rv
