/- The functions' plain texts, printed by gen.py (a program of this work's own). -/
import Derived.Test.YtlbfhddhojejfaaDoorRvA
import Derived.Test.YtlbfhddhojejfaaDoorRvL0
set_option linter.all false
namespace Rv
open Go
set_option maxRecDepth 100000
set_option linter.unusedVariables false

-- rivet/scan.letter
namespace scan_letter
def f (n : Nat) (c0 : Int) : Option (Bool × Unit) :=
    if (decide ((65 : Int) ≤ c0)) = true then 
    (if (decide (c0 ≤ (90 : Int))) = false then 
    (if (decide ((97 : Int) ≤ c0)) = true then 
    (if (decide (c0 ≤ (122 : Int))) = false then (some ((decide (c0 = (95 : Int))), ()))
    else (some (true, ())))
    else (some ((decide (c0 = (95 : Int))), ())))
    else (some (true, ())))
    else 
    (if (decide ((97 : Int) ≤ c0)) = true then 
    (if (decide (c0 ≤ (122 : Int))) = false then (some ((decide (c0 = (95 : Int))), ()))
    else (some (true, ())))
    else (some ((decide (c0 = (95 : Int))), ())))
def g (c0 : Int) : Option (Bool × Unit) := f (1000 + c0.toNat) c0
end scan_letter

-- rivet/scan.digit
namespace scan_digit
def f (n : Nat) (c0 : Int) : Option (Bool × Unit) :=
    if (decide ((48 : Int) ≤ c0)) = true then (some ((decide (c0 ≤ (57 : Int))), ()))
    else (some (false, ()))
def g (c0 : Int) : Option (Bool × Unit) := f (1000 + c0.toNat) c0
end scan_digit

-- rivet/scan.word
namespace scan_word
def j3 (n : Nat) (rl2 : Str → Int → Option (Str × Unit)) (s0 : Str) (n3 : Int) : Option (Str × Unit) :=
    rl2 s0 (IntKind.i64.wrap (n3 + (1 : Int)))
def j4 (n : Nat) (s0 : Str) (n3 : Int) : Option (Str × Unit) :=
    if 0 ≤ n3 ∧ n3 ≤ (s0.length : Int) then (some (((s0.take ((n3).toNat)).drop 0), ())) else none
def l2 (n : Nat) : Nat → Str → Int → Option (Str × Unit)
  | 0, _, _ => none
  | m + 1, s0, n3 =>
    if (decide (n3 < (s0.length : Int))) = true then 
    (if 0 ≤ n3 ∧ n3 < (s0.length : Int) then 
    ((scan_letter.g (bt s0 n3)).bind fun y1 =>
    if y1.1 = false then 
    (if 0 ≤ n3 ∧ n3 < (s0.length : Int) then 
    ((scan_digit.g (bt s0 n3)).bind fun y2 =>
    if y2.1 = true then (scan_word.j3 n (scan_word.l2 n m) s0 n3)
    else (scan_word.j4 n s0 n3)) else none)
    else (scan_word.j3 n (scan_word.l2 n m) s0 n3)) else none)
    else (scan_word.j4 n s0 n3)
def f (n : Nat) (s0 : Str) : Option (Str × Unit) :=
    scan_word.l2 n n s0 (0 : Int)
def g (s0 : Str) : Option (Str × Unit) := f (1000 + s0.length) s0
end scan_word

-- internal/strconv.lower
namespace internal_strconv_lower
def f (n : Nat) (c0 : Int) : Option (Int × Unit) :=
    some ((bitsI .or .u8 c0 (32 : Int)), ())
def g (c0 : Int) : Option (Int × Unit) := f (1000 + c0.toNat) c0
end internal_strconv_lower

-- internal/strconv.ParseUint
namespace internal_strconv_ParseUint
def j55 (n : Nat) (rl36 : Int → Bool → Str → Int → Int → Bool → Int → (List Int) → Int → Int → Option (Int × (Option Int) × Unit)) (base1 : Int) (base08 : Bool) (s09 : Str) (cutoff10 : Int) (maxVal11 : Int) (underscores12 : Bool) (n13 : Int) (t99 : List Int) (t100 : Int) (t101 : Int) : Option (Int × (Option Int) × Unit) :=
    rl36 base1 base08 s09 cutoff10 maxVal11 underscores12 n13 t99 t100 (IntKind.i64.wrap (t101 + (1 : Int)))
def j46 (n : Nat) (rl36 : Int → Bool → Str → Int → Int → Bool → Int → (List Int) → Int → Int → Option (Int × (Option Int) × Unit)) (base1 : Int) (base08 : Bool) (s09 : Str) (cutoff10 : Int) (maxVal11 : Int) (underscores12 : Bool) (n13 : Int) (d16 : Int) (t99 : List Int) (t100 : Int) (t101 : Int) : Option (Int × (Option Int) × Unit) :=
    if (decide ((IntKind.u8.wrap base1) ≤ d16)) = true then (some ((0 : Int), (some (2 : Int)), ()))
    else 
    (if (decide (cutoff10 ≤ n13)) = true then (some (maxVal11, (some (1 : Int)), ()))
    else 
    (if (decide ((IntKind.u64.wrap ((IntKind.u64.wrap (n13 * (IntKind.u64.wrap base1))) + (IntKind.u64.wrap d16))) < (IntKind.u64.wrap (n13 * (IntKind.u64.wrap base1))))) = false then 
    (if (decide (maxVal11 < (IntKind.u64.wrap ((IntKind.u64.wrap (n13 * (IntKind.u64.wrap base1))) + (IntKind.u64.wrap d16))))) = true then (some (maxVal11, (some (1 : Int)), ()))
    else 
    (internal_strconv_ParseUint.j55 n rl36 base1 base08 s09 cutoff10 maxVal11 underscores12 (IntKind.u64.wrap ((IntKind.u64.wrap (n13 * (IntKind.u64.wrap base1))) + (IntKind.u64.wrap d16))) t99 t100 t101))
    else (some (maxVal11, (some (1 : Int)), ()))))
def l36 (n : Nat) : Nat → Int → Bool → Str → Int → Int → Bool → Int → (List Int) → Int → Int → Option (Int × (Option Int) × Unit)
  | 0, _, _, _, _, _, _, _, _, _, _ => none
  | m + 1, base1, base08, s09, cutoff10, maxVal11, underscores12, n13, t99, t100, t101 =>
    if (decide (t101 < t100)) = true then 
    (if 0 ≤ t101 ∧ t101 < (t99.length : Int) then 
    (if (decide ((t99.getD (t101).toNat (0 : Int)) = (95 : Int))) = true then 
    (if base08 = true then 
    (internal_strconv_ParseUint.j55 n (internal_strconv_ParseUint.l36 n m) base1 base08 s09 cutoff10 maxVal11 true n13 t99 t100 t101)
    else 
    (if (decide ((48 : Int) ≤ (t99.getD (t101).toNat (0 : Int)))) = true then 
    (if (decide ((t99.getD (t101).toNat (0 : Int)) ≤ (57 : Int))) = true then 
    (internal_strconv_ParseUint.j46 n (internal_strconv_ParseUint.l36 n m) base1 base08 s09 cutoff10 maxVal11 underscores12 n13 (IntKind.u8.wrap ((t99.getD (t101).toNat (0 : Int)) - (48 : Int))) t99 t100 t101)
    else 
    ((internal_strconv_lower.g (t99.getD (t101).toNat (0 : Int))).bind fun y1 =>
    if (decide ((97 : Int) ≤ y1.1)) = true then 
    ((internal_strconv_lower.g (t99.getD (t101).toNat (0 : Int))).bind fun y2 =>
    if (decide (y2.1 ≤ (122 : Int))) = true then 
    ((internal_strconv_lower.g (t99.getD (t101).toNat (0 : Int))).bind fun y3 =>
    internal_strconv_ParseUint.j46 n (internal_strconv_ParseUint.l36 n m) base1 base08 s09 cutoff10 maxVal11 underscores12 n13 (IntKind.u8.wrap ((IntKind.u8.wrap (y3.1 - (97 : Int))) + (10 : Int))) t99 t100 t101)
    else (some ((0 : Int), (some (2 : Int)), ())))
    else (some ((0 : Int), (some (2 : Int)), ()))))
    else 
    ((internal_strconv_lower.g (t99.getD (t101).toNat (0 : Int))).bind fun y4 =>
    if (decide ((97 : Int) ≤ y4.1)) = true then 
    ((internal_strconv_lower.g (t99.getD (t101).toNat (0 : Int))).bind fun y5 =>
    if (decide (y5.1 ≤ (122 : Int))) = true then 
    ((internal_strconv_lower.g (t99.getD (t101).toNat (0 : Int))).bind fun y6 =>
    internal_strconv_ParseUint.j46 n (internal_strconv_ParseUint.l36 n m) base1 base08 s09 cutoff10 maxVal11 underscores12 n13 (IntKind.u8.wrap ((IntKind.u8.wrap (y6.1 - (97 : Int))) + (10 : Int))) t99 t100 t101)
    else (some ((0 : Int), (some (2 : Int)), ())))
    else (some ((0 : Int), (some (2 : Int)), ())))))
    else 
    (if (decide ((48 : Int) ≤ (t99.getD (t101).toNat (0 : Int)))) = true then 
    (if (decide ((t99.getD (t101).toNat (0 : Int)) ≤ (57 : Int))) = true then 
    (internal_strconv_ParseUint.j46 n (internal_strconv_ParseUint.l36 n m) base1 base08 s09 cutoff10 maxVal11 underscores12 n13 (IntKind.u8.wrap ((t99.getD (t101).toNat (0 : Int)) - (48 : Int))) t99 t100 t101)
    else 
    ((internal_strconv_lower.g (t99.getD (t101).toNat (0 : Int))).bind fun y7 =>
    if (decide ((97 : Int) ≤ y7.1)) = true then 
    ((internal_strconv_lower.g (t99.getD (t101).toNat (0 : Int))).bind fun y8 =>
    if (decide (y8.1 ≤ (122 : Int))) = true then 
    ((internal_strconv_lower.g (t99.getD (t101).toNat (0 : Int))).bind fun y9 =>
    internal_strconv_ParseUint.j46 n (internal_strconv_ParseUint.l36 n m) base1 base08 s09 cutoff10 maxVal11 underscores12 n13 (IntKind.u8.wrap ((IntKind.u8.wrap (y9.1 - (97 : Int))) + (10 : Int))) t99 t100 t101)
    else (some ((0 : Int), (some (2 : Int)), ())))
    else (some ((0 : Int), (some (2 : Int)), ()))))
    else 
    ((internal_strconv_lower.g (t99.getD (t101).toNat (0 : Int))).bind fun y10 =>
    if (decide ((97 : Int) ≤ y10.1)) = true then 
    ((internal_strconv_lower.g (t99.getD (t101).toNat (0 : Int))).bind fun y11 =>
    if (decide (y11.1 ≤ (122 : Int))) = true then 
    ((internal_strconv_lower.g (t99.getD (t101).toNat (0 : Int))).bind fun y12 =>
    internal_strconv_ParseUint.j46 n (internal_strconv_ParseUint.l36 n m) base1 base08 s09 cutoff10 maxVal11 underscores12 n13 (IntKind.u8.wrap ((IntKind.u8.wrap (y12.1 - (97 : Int))) + (10 : Int))) t99 t100 t101)
    else (some ((0 : Int), (some (2 : Int)), ())))
    else (some ((0 : Int), (some (2 : Int)), ()))))) else none)
    else 
    (if underscores12 = true then 
    ((L.underscoreO s09).bind fun y13 =>
    if (!y13.1) = true then (some ((0 : Int), (some (2 : Int)), ()))
    else (some (n13, none, ())))
    else (some (n13, none, ())))
def j32 (n : Nat) (s0 : Str) (base1 : Int) (bitSize2 : Int) (base08 : Bool) (s09 : Str) (cutoff10 : Int) : Option (Int × (Option Int) × Unit) :=
    if (IntKind.u64.wrap bitSize2) < 0 then none else 
    (internal_strconv_ParseUint.l36 n n base1 base08 s09 cutoff10 (IntKind.u64.wrap ((IntKind.u64.wrap ((1 : Int) * 2 ^ (min (IntKind.u64.wrap bitSize2).toNat IntKind.u64.bits))) - (1 : Int))) false (0 : Int) (s0.map fun b => (b.toNat : Int)) ((s0.map fun b => (b.toNat : Int)).length : Int) (0 : Int))
def j25 (n : Nat) (s0 : Str) (base1 : Int) (bitSize2 : Int) (base08 : Bool) (s09 : Str) : Option (Int × (Option Int) × Unit) :=
    if (decide (base1 = (10 : Int))) = true then 
    (internal_strconv_ParseUint.j32 n s0 base1 bitSize2 base08 s09 (1844674407370955162 : Int))
    else 
    (if (decide (base1 = (16 : Int))) = true then 
    (internal_strconv_ParseUint.j32 n s0 base1 bitSize2 base08 s09 (1152921504606846976 : Int))
    else 
    (if (IntKind.u64.wrap base1) = 0 then none else 
    (internal_strconv_ParseUint.j32 n s0 base1 bitSize2 base08 s09 (IntKind.u64.wrap ((IntKind.u64.wrap (Int.tdiv (18446744073709551615 : Int) (IntKind.u64.wrap base1))) + (1 : Int))))))
def j21 (n : Nat) (s0 : Str) (base1 : Int) (bitSize2 : Int) (base08 : Bool) (s09 : Str) : Option (Int × (Option Int) × Unit) :=
    if (decide (bitSize2 = (0 : Int))) = true then 
    (internal_strconv_ParseUint.j25 n s0 base1 (64 : Int) base08 s09)
    else 
    (if (decide (bitSize2 < (0 : Int))) = false then 
    (if (decide ((64 : Int) < bitSize2)) = true then (some ((0 : Int), (some (4 : Int)), ()))
    else 
    (internal_strconv_ParseUint.j25 n s0 base1 bitSize2 base08 s09))
    else (some ((0 : Int), (some (4 : Int)), ())))
def j17 (n : Nat) (s0 : Str) (base1 : Int) (bitSize2 : Int) (base08 : Bool) (s09 : Str) : Option (Int × (Option Int) × Unit) :=
    if 0 ≤ (2 : Int) ∧ (2 : Int) ≤ (s0.length : Int) then 
    (internal_strconv_ParseUint.j21 n ((s0.take (((s0.length : Int)).toNat)).drop (((2 : Int)).toNat)) base1 bitSize2 base08 s09) else none
def j20 (n : Nat) (s0 : Str) (base1 : Int) (bitSize2 : Int) (base08 : Bool) (s09 : Str) : Option (Int × (Option Int) × Unit) :=
    if 0 ≤ (2 : Int) ∧ (2 : Int) ≤ (s0.length : Int) then 
    (internal_strconv_ParseUint.j21 n ((s0.take (((s0.length : Int)).toNat)).drop (((2 : Int)).toNat)) base1 bitSize2 base08 s09) else none
def j11 (n : Nat) (s0 : Str) (base1 : Int) (bitSize2 : Int) (base08 : Bool) (s09 : Str) : Option (Int × (Option Int) × Unit) :=
    if 0 ≤ (1 : Int) ∧ (1 : Int) ≤ (s0.length : Int) then 
    (internal_strconv_ParseUint.j21 n ((s0.take (((s0.length : Int)).toNat)).drop (((1 : Int)).toNat)) base1 bitSize2 base08 s09) else none
def j9 (n : Nat) (s0 : Str) (base1 : Int) (bitSize2 : Int) (base08 : Bool) (s09 : Str) : Option (Int × (Option Int) × Unit) :=
    if 0 ≤ (0 : Int) ∧ (0 : Int) < (s0.length : Int) then 
    (if (decide ((bt s0 (0 : Int)) = (48 : Int))) = true then 
    (if (decide ((3 : Int) ≤ (s0.length : Int))) = true then 
    (if 0 ≤ (1 : Int) ∧ (1 : Int) < (s0.length : Int) then 
    ((internal_strconv_lower.g (bt s0 (1 : Int))).bind fun y1 =>
    if (decide (y1.1 = (98 : Int))) = true then 
    (if 0 ≤ (2 : Int) ∧ (2 : Int) ≤ (s0.length : Int) then 
    (internal_strconv_ParseUint.j21 n ((s0.take (((s0.length : Int)).toNat)).drop (((2 : Int)).toNat)) (2 : Int) bitSize2 base08 s09) else none)
    else 
    (if (decide ((3 : Int) ≤ (s0.length : Int))) = true then 
    (if 0 ≤ (1 : Int) ∧ (1 : Int) < (s0.length : Int) then 
    ((internal_strconv_lower.g (bt s0 (1 : Int))).bind fun y2 =>
    if (decide (y2.1 = (111 : Int))) = true then 
    (internal_strconv_ParseUint.j17 n s0 (8 : Int) bitSize2 base08 s09)
    else 
    (if (decide ((3 : Int) ≤ (s0.length : Int))) = true then 
    (if 0 ≤ (1 : Int) ∧ (1 : Int) < (s0.length : Int) then 
    ((internal_strconv_lower.g (bt s0 (1 : Int))).bind fun y3 =>
    if (decide (y3.1 = (120 : Int))) = true then 
    (internal_strconv_ParseUint.j20 n s0 (16 : Int) bitSize2 base08 s09)
    else 
    (internal_strconv_ParseUint.j11 n s0 (8 : Int) bitSize2 base08 s09)) else none)
    else 
    (internal_strconv_ParseUint.j11 n s0 (8 : Int) bitSize2 base08 s09))) else none)
    else 
    (if (decide ((3 : Int) ≤ (s0.length : Int))) = true then 
    (if 0 ≤ (1 : Int) ∧ (1 : Int) < (s0.length : Int) then 
    ((internal_strconv_lower.g (bt s0 (1 : Int))).bind fun y4 =>
    if (decide (y4.1 = (120 : Int))) = true then 
    (internal_strconv_ParseUint.j20 n s0 (16 : Int) bitSize2 base08 s09)
    else 
    (internal_strconv_ParseUint.j11 n s0 (8 : Int) bitSize2 base08 s09)) else none)
    else 
    (internal_strconv_ParseUint.j11 n s0 (8 : Int) bitSize2 base08 s09)))) else none)
    else 
    (if (decide ((3 : Int) ≤ (s0.length : Int))) = true then 
    (if 0 ≤ (1 : Int) ∧ (1 : Int) < (s0.length : Int) then 
    ((internal_strconv_lower.g (bt s0 (1 : Int))).bind fun y5 =>
    if (decide (y5.1 = (111 : Int))) = true then 
    (internal_strconv_ParseUint.j17 n s0 (8 : Int) bitSize2 base08 s09)
    else 
    (if (decide ((3 : Int) ≤ (s0.length : Int))) = true then 
    (if 0 ≤ (1 : Int) ∧ (1 : Int) < (s0.length : Int) then 
    ((internal_strconv_lower.g (bt s0 (1 : Int))).bind fun y6 =>
    if (decide (y6.1 = (120 : Int))) = true then 
    (internal_strconv_ParseUint.j20 n s0 (16 : Int) bitSize2 base08 s09)
    else 
    (internal_strconv_ParseUint.j11 n s0 (8 : Int) bitSize2 base08 s09)) else none)
    else 
    (internal_strconv_ParseUint.j11 n s0 (8 : Int) bitSize2 base08 s09))) else none)
    else 
    (if (decide ((3 : Int) ≤ (s0.length : Int))) = true then 
    (if 0 ≤ (1 : Int) ∧ (1 : Int) < (s0.length : Int) then 
    ((internal_strconv_lower.g (bt s0 (1 : Int))).bind fun y7 =>
    if (decide (y7.1 = (120 : Int))) = true then 
    (internal_strconv_ParseUint.j20 n s0 (16 : Int) bitSize2 base08 s09)
    else 
    (internal_strconv_ParseUint.j11 n s0 (8 : Int) bitSize2 base08 s09)) else none)
    else 
    (internal_strconv_ParseUint.j11 n s0 (8 : Int) bitSize2 base08 s09))))
    else 
    (internal_strconv_ParseUint.j21 n s0 base1 bitSize2 base08 s09)) else none
def f (n : Nat) (s0 : Str) (base1 : Int) (bitSize2 : Int) : Option (Int × (Option Int) × Unit) :=
    if (decide (s0 = ([] : Str))) = true then (some ((0 : Int), (some (2 : Int)), ()))
    else 
    (if (decide ((2 : Int) ≤ base1)) = true then 
    (if (decide (base1 ≤ (36 : Int))) = true then 
    (internal_strconv_ParseUint.j21 n s0 base1 bitSize2 (decide (base1 = (0 : Int))) s0)
    else 
    (if (decide (base1 = (0 : Int))) = true then 
    (internal_strconv_ParseUint.j9 n s0 (10 : Int) bitSize2 (decide (base1 = (0 : Int))) s0)
    else (some ((0 : Int), (some (3 : Int)), ()))))
    else 
    (if (decide (base1 = (0 : Int))) = true then 
    (internal_strconv_ParseUint.j9 n s0 (10 : Int) bitSize2 (decide (base1 = (0 : Int))) s0)
    else (some ((0 : Int), (some (3 : Int)), ()))))
def g (s0 : Str) (base1 : Int) (bitSize2 : Int) : Option (Int × (Option Int) × Unit) := f (1000 + s0.length + base1.toNat + bitSize2.toNat) s0 base1 bitSize2
end internal_strconv_ParseUint

-- strconv.ParseUint
namespace strconv_ParseUint
def f (n : Nat) (s0 : Str) (base1 : Int) (bitSize2 : Int) : Option (Int × Bool × Unit) :=
    (internal_strconv_ParseUint.g s0 base1 bitSize2).bind fun y1 =>
    if (!y1.2.1.isNone) = true then 
    ((L.toErrorO ([80, 97, 114, 115, 101, 85, 105, 110, 116] : Str) s0 base1 bitSize2 y1.2.1).bind fun y2 =>
    some (y1.1, y2.1, ()))
    else (some (y1.1, true, ()))
def g (s0 : Str) (base1 : Int) (bitSize2 : Int) : Option (Int × Bool × Unit) := f (1000 + s0.length + base1.toNat + bitSize2.toNat) s0 base1 bitSize2
end strconv_ParseUint

-- rivet/scan.number
namespace scan_number
def j5 (n : Nat) (s0 : Str) (base4 : Int) : Option (Int × Bool × Unit) :=
    (L.containsO s0 ([95] : Str)).bind fun y1 =>
    if y1.1 = true then (some ((0 : Int), false, ()))
    else 
    ((strconv_ParseUint.g s0 base4 (32 : Int)).bind fun y2 =>
    some ((IntKind.u32.wrap y2.1), y2.2.1, ()))
def f (n : Nat) (s0 : Str) : Option (Int × Bool × Unit) :=
    if (L.cutIs s0 ([48, 120] : Str)) = true then (scan_number.j5 n (L.cutRest s0 ([48, 120] : Str)) (16 : Int))
    else (scan_number.j5 n s0 (10 : Int))
def g (s0 : Str) : Option (Int × Bool × Unit) := f (1000 + s0.length) s0
end scan_number

-- rivet/scan.Line
namespace scan_Line
def j23 (n : Nat) (rg0 : Str → (List (Int × Int × Str × Int × Unit)) → Int → Option ((List (Int × Int × Str × Int × Unit)) × Int × Unit)) (s0 : Str) (out4 : List (Int × Int × Str × Int × Unit)) (at5 : Int) (b0_0 : Int) (b0_1 : Int) (b0_2 : Str) (b0_3 : Int) : Option ((List (Int × Int × Str × Int × Unit)) × Int × Unit) :=
    if (out4.length + ([(b0_0, b0_1, b0_2, b0_3, ())] : List (Int × Int × Str × Int × Unit)).length) * 40 ≤ 140737488355328 ∧ 0 < 40 ∧ 0 < 4 then 
    (rg0 s0 (out4 ++ ([(b0_0, b0_1, b0_2, b0_3, ())] : List (Int × Int × Str × Int × Unit))) (IntKind.i64.wrap (at5 + (b0_2.length : Int)))) else none
def g0 (n : Nat) : Nat → Str → (List (Int × Int × Str × Int × Unit)) → Int → Option ((List (Int × Int × Str × Int × Unit)) × Int × Unit)
  | 0, _, _, _ => none
  | m + 1, s0, out4, at5 =>
    if (decide ((s0.length : Int) ≤ at5)) = false then 
    (if 0 ≤ at5 ∧ at5 < (s0.length : Int) then 
    (if (decide ((bt s0 at5) = (59 : Int))) = true then (some (out4, (0 : Int), ()))
    else 
    (if 0 ≤ at5 ∧ at5 < (s0.length : Int) then 
    (if (decide ((bt s0 at5) = (32 : Int))) = false then 
    (if (decide ((bt s0 at5) = (9 : Int))) = true then 
    ((scan_Line.g0 n m) s0 out4 (IntKind.i64.wrap (at5 + (1 : Int))))
    else 
    ((scan_letter.g (bt s0 at5)).bind fun y1 =>
    if y1.1 = true then 
    (if 0 ≤ at5 ∧ at5 ≤ (s0.length : Int) then 
    ((scan_word.g ((s0.take (((s0.length : Int)).toNat)).drop ((at5).toNat))).bind fun y2 =>
    scan_Line.j23 n (scan_Line.g0 n m) s0 out4 at5 (1 : Int) at5 y2.1 0) else none)
    else 
    ((scan_digit.g (bt s0 at5)).bind fun y3 =>
    if y3.1 = true then 
    (if 0 ≤ at5 ∧ at5 ≤ (s0.length : Int) then 
    ((scan_word.g ((s0.take (((s0.length : Int)).toNat)).drop ((at5).toNat))).bind fun y4 =>
    (scan_number.g y4.1).bind fun y5 =>
    if (!y5.2.1) = true then (some ([], (21 : Int), ()))
    else 
    (scan_Line.j23 n (scan_Line.g0 n m) s0 out4 at5 (2 : Int) at5 y4.1 y5.1)) else none)
    else 
    (if (decide ((bt s0 at5) = (46 : Int))) = true then 
    (if (decide ((IntKind.i64.wrap (at5 + (1 : Int))) < (s0.length : Int))) = true then 
    (if 0 ≤ (IntKind.i64.wrap (at5 + (1 : Int))) ∧ (IntKind.i64.wrap (at5 + (1 : Int))) < (s0.length : Int) then 
    ((scan_letter.g (bt s0 (IntKind.i64.wrap (at5 + (1 : Int))))).bind fun y6 =>
    if y6.1 = true then 
    (if 0 ≤ (IntKind.i64.wrap (at5 + (1 : Int))) ∧ (IntKind.i64.wrap (at5 + (1 : Int))) ≤ (s0.length : Int) then 
    ((scan_word.g ((s0.take (((s0.length : Int)).toNat)).drop (((IntKind.i64.wrap (at5 + (1 : Int)))).toNat))).bind fun y7 =>
    scan_Line.j23 n (scan_Line.g0 n m) s0 out4 (IntKind.i64.wrap (at5 + (1 : Int))) (4 : Int) at5 y7.1 0) else none)
    else 
    (if (decide ((0 : Int) ≤ (L.indexByte ([44, 58, 43, 45, 42, 40, 41, 61] : Str) (bt s0 at5)))) = true then 
    (if 0 ≤ (IntKind.i64.wrap (at5 + (1 : Int))) ∧ (IntKind.i64.wrap (at5 + (1 : Int))) ≤ (s0.length : Int) then 
    (if 0 ≤ at5 ∧ at5 ≤ (IntKind.i64.wrap (at5 + (1 : Int))) then 
    (scan_Line.j23 n (scan_Line.g0 n m) s0 out4 at5 (3 : Int) at5 ((s0.take (((IntKind.i64.wrap (at5 + (1 : Int)))).toNat)).drop ((at5).toNat)) 0) else none) else none)
    else (some ([], (20 : Int), ())))) else none)
    else 
    (if (decide ((0 : Int) ≤ (L.indexByte ([44, 58, 43, 45, 42, 40, 41, 61] : Str) (bt s0 at5)))) = true then 
    (if 0 ≤ (IntKind.i64.wrap (at5 + (1 : Int))) ∧ (IntKind.i64.wrap (at5 + (1 : Int))) ≤ (s0.length : Int) then 
    (if 0 ≤ at5 ∧ at5 ≤ (IntKind.i64.wrap (at5 + (1 : Int))) then 
    (scan_Line.j23 n (scan_Line.g0 n m) s0 out4 at5 (3 : Int) at5 ((s0.take (((IntKind.i64.wrap (at5 + (1 : Int)))).toNat)).drop ((at5).toNat)) 0) else none) else none)
    else (some ([], (20 : Int), ()))))
    else 
    (if (decide ((0 : Int) ≤ (L.indexByte ([44, 58, 43, 45, 42, 40, 41, 61] : Str) (bt s0 at5)))) = true then 
    (if 0 ≤ (IntKind.i64.wrap (at5 + (1 : Int))) ∧ (IntKind.i64.wrap (at5 + (1 : Int))) ≤ (s0.length : Int) then 
    (if 0 ≤ at5 ∧ at5 ≤ (IntKind.i64.wrap (at5 + (1 : Int))) then 
    (scan_Line.j23 n (scan_Line.g0 n m) s0 out4 at5 (3 : Int) at5 ((s0.take (((IntKind.i64.wrap (at5 + (1 : Int)))).toNat)).drop ((at5).toNat)) 0) else none) else none)
    else (some ([], (20 : Int), ())))))))
    else 
    ((scan_Line.g0 n m) s0 out4 (IntKind.i64.wrap (at5 + (1 : Int))))) else none)) else none)
    else (some (out4, (0 : Int), ()))
def f (n : Nat) (s0 : Str) : Option ((List (Int × Int × Str × Int × Unit)) × Int × Unit) :=
    scan_Line.g0 n n s0 ([]) (0 : Int)
def g (s0 : Str) : Option ((List (Int × Int × Str × Int × Unit)) × Int × Unit) := f (1000 + s0.length) s0
end scan_Line

-- rivet/rivetlaw14.shown
namespace rivetlaw14_shown
def f (n : Nat) : Option (Bool × Unit) :=
    (scan_Line.g ([97, 58, 32, 46, 119, 111, 114, 100, 32, 48, 120, 49, 70, 32, 59, 32, 98] : Str)).bind fun y1 =>
    if (decide (y1.2.1 = (0 : Int))) = true then 
    (if (decide ((y1.1.length : Int) = (4 : Int))) = true then 
    (if 0 ≤ (0 : Int) ∧ (0 : Int) < (y1.1.length : Int) then 
    (if (decide ((((y1.1.getD ((0 : Int)).toNat ((0 : Int), ((0 : Int), (([] : Str), ((0 : Int), ()))))).2).2).1 = ([97] : Str))) = true then 
    (if 0 ≤ (1 : Int) ∧ (1 : Int) < (y1.1.length : Int) then 
    (if (decide ((((y1.1.getD ((1 : Int)).toNat ((0 : Int), ((0 : Int), (([] : Str), ((0 : Int), ()))))).2).2).1 = ([58] : Str))) = true then 
    (if 0 ≤ (2 : Int) ∧ (2 : Int) < (y1.1.length : Int) then 
    (if (decide ((y1.1.getD ((2 : Int)).toNat ((0 : Int), ((0 : Int), (([] : Str), ((0 : Int), ()))))).1 = (4 : Int))) = true then 
    (if 0 ≤ (2 : Int) ∧ (2 : Int) < (y1.1.length : Int) then 
    (if (decide ((((y1.1.getD ((2 : Int)).toNat ((0 : Int), ((0 : Int), (([] : Str), ((0 : Int), ()))))).2).2).1 = ([119, 111, 114, 100] : Str))) = true then 
    (if 0 ≤ (3 : Int) ∧ (3 : Int) < (y1.1.length : Int) then 
    (some ((decide (((((y1.1.getD ((3 : Int)).toNat ((0 : Int), ((0 : Int), (([] : Str), ((0 : Int), ()))))).2).2).2).1 = (31 : Int))), ())) else none)
    else (some (false, ()))) else none)
    else (some (false, ()))) else none)
    else (some (false, ()))) else none)
    else (some (false, ()))) else none)
    else (some (false, ())))
    else (some (false, ()))
def g : Option (Bool × Unit) := f (1000) 
end rivetlaw14_shown

-- rivet/rivetlaw14.few
namespace rivetlaw14_few
def f (n : Nat) (s0 : Str) : Option (Str × Unit) :=
    if 0 ≤ (mn (s0.length : Int) (100 : Int)) ∧ (mn (s0.length : Int) (100 : Int)) ≤ (s0.length : Int) then 
    (some (((s0.take (((mn (s0.length : Int) (100 : Int))).toNat)).drop 0), ())) else none
def g (s0 : Str) : Option (Str × Unit) := f (1000 + s0.length) s0
end rivetlaw14_few

-- rivet/rivetref14.Same
namespace rivetref14_Same
def l4 (n : Nat) : Nat → (List (Int × Int × Str × Int × Unit)) → (List (Int × Int × Str × Int × Unit)) → Int → Option (Bool × Unit)
  | 0, _, _, _ => none
  | m + 1, a0, b1, i5 =>
    if (decide (i5 < (a0.length : Int))) = true then 
    (if 0 ≤ i5 ∧ i5 < (a0.length : Int) then 
    (if 0 ≤ i5 ∧ i5 < (b1.length : Int) then 
    (if (!(decide ((a0.getD (i5).toNat ((0 : Int), ((0 : Int), (([] : Str), ((0 : Int), ()))))).1 = (b1.getD (i5).toNat ((0 : Int), ((0 : Int), (([] : Str), ((0 : Int), ()))))).1) && (decide (((a0.getD (i5).toNat ((0 : Int), ((0 : Int), (([] : Str), ((0 : Int), ()))))).2).1 = ((b1.getD (i5).toNat ((0 : Int), ((0 : Int), (([] : Str), ((0 : Int), ()))))).2).1) && (decide ((((a0.getD (i5).toNat ((0 : Int), ((0 : Int), (([] : Str), ((0 : Int), ()))))).2).2).1 = (((b1.getD (i5).toNat ((0 : Int), ((0 : Int), (([] : Str), ((0 : Int), ()))))).2).2).1) && (decide (((((a0.getD (i5).toNat ((0 : Int), ((0 : Int), (([] : Str), ((0 : Int), ()))))).2).2).2).1 = ((((b1.getD (i5).toNat ((0 : Int), ((0 : Int), (([] : Str), ((0 : Int), ()))))).2).2).2).1) && true))))) = true then (some (false, ()))
    else 
    ((rivetref14_Same.l4 n m) a0 b1 (IntKind.i64.wrap (i5 + (1 : Int))))) else none) else none)
    else (some (true, ()))
def f (n : Nat) (a0 : List (Int × Int × Str × Int × Unit)) (b1 : List (Int × Int × Str × Int × Unit)) : Option (Bool × Unit) :=
    if (decide ((a0.length : Int) ≠ (b1.length : Int))) = true then (some (false, ()))
    else (rivetref14_Same.l4 n n a0 b1 (0 : Int))
def g (a0 : List (Int × Int × Str × Int × Unit)) (b1 : List (Int × Int × Str × Int × Unit)) : Option (Bool × Unit) := f (1000 + a0.length + b1.length) a0 b1
end rivetref14_Same

-- rivet/rivetlaw14.ScanBlanks
namespace rivetlaw14_ScanBlanks
def j13 (n : Nat) (c2 : Int) (head7 : Bool) (w8 : Str) (l11 : List (Int × Int × Str × Int × Unit)) (e12 : Int) (m13 : List (Int × Int × Str × Int × Unit)) (f14 : Int) (o15 : List (Int × Int × Str × Int × Unit)) (g16 : Int) (odd18 : Bool) : Option (Bool × Unit) :=
    if (bytesOf ([c2] : List Int)).length + ([32] : Str).length ≤ 9223372036854775807 then 
    (if ((bytesOf ([c2] : List Int)) ++ ([32] : Str)).length + w8.length ≤ 9223372036854775807 then 
    ((scan_Line.g (((bytesOf ([c2] : List Int)) ++ ([32] : Str)) ++ w8)).bind fun y1 =>
    if ([59, 32] : Str).length + (bytesOf ([c2] : List Int)).length ≤ 9223372036854775807 then 
    (if (([59, 32] : Str) ++ (bytesOf ([c2] : List Int))).length + w8.length ≤ 9223372036854775807 then 
    ((scan_Line.g ((([59, 32] : Str) ++ (bytesOf ([c2] : List Int))) ++ w8)).bind fun y2 =>
    if head7 = true then 
    (if (decide (e12 = f14)) = true then 
    (if (decide (e12 = g16)) = true then 
    ((rivetref14_Same.g l11 m13).bind fun y3 =>
    if y3.1 = true then 
    ((rivetref14_Same.g l11 o15).bind fun y4 =>
    if y4.1 = true then 
    (if (!odd18) = false then 
    (if (decide (y1.2.1 = (20 : Int))) = true then (some ((decide (y2.2.1 = (0 : Int))), ()))
    else (some (false, ())))
    else (some ((decide (y2.2.1 = (0 : Int))), ())))
    else (some (false, ())))
    else (some (false, ())))
    else (some (false, ())))
    else (some (false, ())))
    else (some (false, ()))) else none) else none) else none) else none
def l9 (n : Nat) : Nat → Int → Bool → Str → Int → (List (Int × Int × Str × Int × Unit)) → Int → (List (Int × Int × Str × Int × Unit)) → Int → (List (Int × Int × Str × Int × Unit)) → Int → Int → Option (Bool × Unit)
  | 0, _, _, _, _, _, _, _, _, _, _, _ => none
  | m + 1, c2, head7, w8, k9, l11, e12, m13, f14, o15, g16, i17 =>
    if (decide (i17 < (m13.length : Int))) = true then 
    (if 0 ≤ i17 ∧ i17 < (m13.length : Int) then 
    (if 0 ≤ i17 ∧ i17 < (m13.length : Int) then 
    ((rivetlaw14_ScanBlanks.l9 n m) c2 head7 w8 k9 l11 e12 (m13.set (i17).toNat ((m13.getD (i17).toNat ((0 : Int), ((0 : Int), (([] : Str), ((0 : Int), ()))))).1, (IntKind.i64.wrap (((m13.getD (i17).toNat ((0 : Int), ((0 : Int), (([] : Str), ((0 : Int), ()))))).2).1 - k9)), (((m13.getD (i17).toNat ((0 : Int), ((0 : Int), (([] : Str), ((0 : Int), ()))))).2).2).1, ((((m13.getD (i17).toNat ((0 : Int), ((0 : Int), (([] : Str), ((0 : Int), ()))))).2).2).2).1, ())) f14 o15 g16 (IntKind.i64.wrap (i17 + (1 : Int)))) else none) else none)
    else 
    (if (decide (c2 < (9 : Int))) = false then 
    (if (decide ((9 : Int) < c2)) = true then 
    (if (decide (c2 < (32 : Int))) = false then 
    (if (decide ((126 : Int) < c2)) = false then 
    (if (decide (c2 = (33 : Int))) = false then 
    (if (decide (c2 = (47 : Int))) = false then 
    (if (decide (c2 = (60 : Int))) = false then 
    (if (decide (c2 = (91 : Int))) = false then 
    (rivetlaw14_ScanBlanks.j13 n c2 head7 w8 l11 e12 m13 f14 o15 g16 (decide (c2 = (39 : Int))))
    else 
    (rivetlaw14_ScanBlanks.j13 n c2 head7 w8 l11 e12 m13 f14 o15 g16 true))
    else 
    (rivetlaw14_ScanBlanks.j13 n c2 head7 w8 l11 e12 m13 f14 o15 g16 true))
    else 
    (rivetlaw14_ScanBlanks.j13 n c2 head7 w8 l11 e12 m13 f14 o15 g16 true))
    else 
    (rivetlaw14_ScanBlanks.j13 n c2 head7 w8 l11 e12 m13 f14 o15 g16 true))
    else 
    (rivetlaw14_ScanBlanks.j13 n c2 head7 w8 l11 e12 m13 f14 o15 g16 true))
    else 
    (rivetlaw14_ScanBlanks.j13 n c2 head7 w8 l11 e12 m13 f14 o15 g16 true))
    else 
    (if (decide ((126 : Int) < c2)) = false then 
    (if (decide (c2 = (33 : Int))) = false then 
    (if (decide (c2 = (47 : Int))) = false then 
    (if (decide (c2 = (60 : Int))) = false then 
    (if (decide (c2 = (91 : Int))) = false then 
    (rivetlaw14_ScanBlanks.j13 n c2 head7 w8 l11 e12 m13 f14 o15 g16 (decide (c2 = (39 : Int))))
    else 
    (rivetlaw14_ScanBlanks.j13 n c2 head7 w8 l11 e12 m13 f14 o15 g16 true))
    else 
    (rivetlaw14_ScanBlanks.j13 n c2 head7 w8 l11 e12 m13 f14 o15 g16 true))
    else 
    (rivetlaw14_ScanBlanks.j13 n c2 head7 w8 l11 e12 m13 f14 o15 g16 true))
    else 
    (rivetlaw14_ScanBlanks.j13 n c2 head7 w8 l11 e12 m13 f14 o15 g16 true))
    else 
    (rivetlaw14_ScanBlanks.j13 n c2 head7 w8 l11 e12 m13 f14 o15 g16 true)))
    else 
    (rivetlaw14_ScanBlanks.j13 n c2 head7 w8 l11 e12 m13 f14 o15 g16 true))
def f (n : Nat) (s0 : Str) (n1 : Int) (c2 : Int) : Option (Bool × Unit) :=
    rivetlaw14_shown.g.bind fun y1 =>
    (rivetlaw14_few.g s0).bind fun y2 =>
    if 0 ≤ (IntKind.i64.wrap (Int.tmod n1 (16 : Int))) ∧ (IntKind.i64.wrap (Int.tmod n1 (16 : Int))) ≤ (([32, 32, 32, 32, 32, 32, 32, 32, 32, 32, 32, 32, 32, 32, 32, 32] : Str).length : Int) then 
    ((scan_Line.g y2.1).bind fun y3 =>
    if ((([32, 32, 32, 32, 32, 32, 32, 32, 32, 32, 32, 32, 32, 32, 32, 32] : Str).take (((IntKind.i64.wrap (Int.tmod n1 (16 : Int)))).toNat)).drop 0).length + y2.1.length ≤ 9223372036854775807 then 
    ((scan_Line.g (((([32, 32, 32, 32, 32, 32, 32, 32, 32, 32, 32, 32, 32, 32, 32, 32] : Str).take (((IntKind.i64.wrap (Int.tmod n1 (16 : Int)))).toNat)).drop 0) ++ y2.1)).bind fun y4 =>
    if y2.1.length + ([9] : Str).length ≤ 9223372036854775807 then 
    (if (y2.1 ++ ([9] : Str)).length + ((([32, 32, 32, 32, 32, 32, 32, 32, 32, 32, 32, 32, 32, 32, 32, 32] : Str).take (((IntKind.i64.wrap (Int.tmod n1 (16 : Int)))).toNat)).drop 0).length ≤ 9223372036854775807 then 
    ((scan_Line.g ((y2.1 ++ ([9] : Str)) ++ ((([32, 32, 32, 32, 32, 32, 32, 32, 32, 32, 32, 32, 32, 32, 32, 32] : Str).take (((IntKind.i64.wrap (Int.tmod n1 (16 : Int)))).toNat)).drop 0))).bind fun y5 =>
    rivetlaw14_ScanBlanks.l9 n n c2 y1.1 y2.1 (IntKind.i64.wrap (Int.tmod n1 (16 : Int))) y3.1 y3.2.1 y4.1 y4.2.1 y5.1 y5.2.1 (0 : Int)) else none) else none) else none) else none
def g (s0 : Str) (n1 : Int) (c2 : Int) : Option (Bool × Unit) := f (1000 + s0.length + n1.toNat + c2.toNat) s0 n1 c2
end rivetlaw14_ScanBlanks

-- rivet/rivetlaw14.ScanParts
namespace rivetlaw14_ScanParts
def j5 (n : Nat) (rl4 : Str → Str → Bool → Str → Int → Option (Bool × Unit)) (a0 : Str) (b1 : Str) (head5 : Bool) (x6 : Str) (i7 : Int) : Option (Bool × Unit) :=
    rl4 a0 b1 head5 x6 (IntKind.i64.wrap (i7 + (1 : Int)))
def l18 (n : Nat) : Nat → Bool → Str → (List (Int × Int × Str × Int × Unit)) → (List (Int × Int × Str × Int × Unit)) → (List (Int × Int × Str × Int × Unit)) → Int → Int → Option (Bool × Unit)
  | 0, _, _, _, _, _, _, _ => none
  | m + 1, head5, x6, l9, m11, o13, g14, i15 =>
    if (decide (i15 < (m11.length : Int))) = true then 
    (if 0 ≤ i15 ∧ i15 < (m11.length : Int) then 
    (if 0 ≤ i15 ∧ i15 < (m11.length : Int) then 
    ((rivetlaw14_ScanParts.l18 n m) head5 x6 l9 (m11.set (i15).toNat ((m11.getD (i15).toNat ((0 : Int), ((0 : Int), (([] : Str), ((0 : Int), ()))))).1, (IntKind.i64.wrap ((IntKind.i64.wrap (((m11.getD (i15).toNat ((0 : Int), ((0 : Int), (([] : Str), ((0 : Int), ()))))).2).1 + (x6.length : Int))) + (1 : Int))), (((m11.getD (i15).toNat ((0 : Int), ((0 : Int), (([] : Str), ((0 : Int), ()))))).2).2).1, ((((m11.getD (i15).toNat ((0 : Int), ((0 : Int), (([] : Str), ((0 : Int), ()))))).2).2).2).1, ())) o13 g14 (IntKind.i64.wrap (i15 + (1 : Int)))) else none) else none)
    else 
    (if head5 = true then 
    (if (decide (g14 = (0 : Int))) = true then 
    (if (([] : List (Int × Int × Str × Int × Unit)).length + l9.length) * 40 ≤ 140737488355328 ∧ 0 < 40 ∧ 0 < 4 then 
    (if ((([] : List (Int × Int × Str × Int × Unit)) ++ l9).length + m11.length) * 40 ≤ 140737488355328 ∧ 0 < 40 ∧ 0 < 4 then 
    ((rivetref14_Same.g o13 ((([] : List (Int × Int × Str × Int × Unit)) ++ l9) ++ m11)).bind fun y1 =>
    some (y1.1, ())) else none) else none)
    else (some (false, ())))
    else (some (false, ())))
def l4 (n : Nat) : Nat → Str → Str → Bool → Str → Int → Option (Bool × Unit)
  | 0, _, _, _, _, _ => none
  | m + 1, a0, b1, head5, x6, i7 =>
    (rivetlaw14_few.g a0).bind fun y1 =>
    if (decide (i7 < (y1.1.length : Int))) = true then 
    (if 0 ≤ i7 ∧ i7 < (a0.length : Int) then 
    (if (decide ((bt a0 i7) = (59 : Int))) = true then 
    (if x6.length + ([32] : Str).length ≤ 9223372036854775807 then 
    (rivetlaw14_ScanParts.j5 n (rivetlaw14_ScanParts.l4 n m) a0 b1 head5 (x6 ++ ([32] : Str)) i7) else none)
    else 
    (if 0 ≤ (IntKind.i64.wrap (i7 + (1 : Int))) ∧ (IntKind.i64.wrap (i7 + (1 : Int))) ≤ (a0.length : Int) then 
    (if 0 ≤ i7 ∧ i7 ≤ (IntKind.i64.wrap (i7 + (1 : Int))) then 
    (if x6.length + ((a0.take (((IntKind.i64.wrap (i7 + (1 : Int)))).toNat)).drop ((i7).toNat)).length ≤ 9223372036854775807 then 
    (rivetlaw14_ScanParts.j5 n (rivetlaw14_ScanParts.l4 n m) a0 b1 head5 (x6 ++ ((a0.take (((IntKind.i64.wrap (i7 + (1 : Int)))).toNat)).drop ((i7).toNat))) i7) else none) else none) else none)) else none)
    else 
    ((rivetlaw14_few.g b1).bind fun y2 =>
    (scan_Line.g x6).bind fun y3 =>
    (scan_Line.g y2.1).bind fun y4 =>
    if x6.length + ([32] : Str).length ≤ 9223372036854775807 then 
    (if (x6 ++ ([32] : Str)).length + y2.1.length ≤ 9223372036854775807 then 
    ((scan_Line.g ((x6 ++ ([32] : Str)) ++ y2.1)).bind fun y5 =>
    if (decide (y3.2.1 ≠ (0 : Int))) = true then 
    (if head5 = true then 
    (if (decide (y5.2.1 = y3.2.1)) = true then (some ((decide ((y5.1.length : Int) = (0 : Int))), ()))
    else (some (false, ())))
    else (some (false, ())))
    else 
    (if (decide (y4.2.1 ≠ (0 : Int))) = true then 
    (if head5 = true then 
    (if (decide (y5.2.1 = y4.2.1)) = true then (some ((decide ((y5.1.length : Int) = (0 : Int))), ()))
    else (some (false, ())))
    else (some (false, ())))
    else 
    (rivetlaw14_ScanParts.l18 n n head5 x6 y3.1 y4.1 y5.1 y5.2.1 (0 : Int)))) else none) else none)
def f (n : Nat) (a0 : Str) (b1 : Str) : Option (Bool × Unit) :=
    rivetlaw14_shown.g.bind fun y1 =>
    rivetlaw14_ScanParts.l4 n n a0 b1 y1.1 ([] : Str) (0 : Int)
def g (a0 : Str) (b1 : Str) : Option (Bool × Unit) := f (1000 + a0.length + b1.length) a0 b1
end rivetlaw14_ScanParts

-- rivet/rivetref07.Fit
namespace rivetref07_Fit
def l4 (n : Nat) : Nat → Str → Str → Str → Int → Option (Str × Unit)
  | 0, _, _, _, _ => none
  | m + 1, s0, all3, out4, i5 =>
    if (decide (i5 < (s0.length : Int))) = true then 
    (if (decide (i5 < (6 : Int))) = true then 
    (if 0 ≤ i5 ∧ i5 < (s0.length : Int) then 
    (if 0 ≤ i5 ∧ i5 < (s0.length : Int) then 
    (if 0 ≤ (IntKind.i64.wrap ((Int.tmod (IntKind.i64.wrap (bt s0 i5)) (12 : Int)) + (1 : Int))) ∧ (IntKind.i64.wrap ((Int.tmod (IntKind.i64.wrap (bt s0 i5)) (12 : Int)) + (1 : Int))) ≤ (all3.length : Int) then 
    (if 0 ≤ (Int.tmod (IntKind.i64.wrap (bt s0 i5)) (12 : Int)) ∧ (Int.tmod (IntKind.i64.wrap (bt s0 i5)) (12 : Int)) ≤ (IntKind.i64.wrap ((Int.tmod (IntKind.i64.wrap (bt s0 i5)) (12 : Int)) + (1 : Int))) then 
    (if out4.length + ((all3.take (((IntKind.i64.wrap ((Int.tmod (IntKind.i64.wrap (bt s0 i5)) (12 : Int)) + (1 : Int)))).toNat)).drop (((Int.tmod (IntKind.i64.wrap (bt s0 i5)) (12 : Int))).toNat)).length ≤ 9223372036854775807 then 
    ((rivetref07_Fit.l4 n m) s0 all3 (out4 ++ ((all3.take (((IntKind.i64.wrap ((Int.tmod (IntKind.i64.wrap (bt s0 i5)) (12 : Int)) + (1 : Int)))).toNat)).drop (((Int.tmod (IntKind.i64.wrap (bt s0 i5)) (12 : Int))).toNat))) (IntKind.i64.wrap (i5 + (1 : Int)))) else none) else none) else none) else none) else none)
    else (some (out4, ())))
    else (some (out4, ()))
def f (n : Nat) (s0 : Str) : Option (Str × Unit) :=
    rivetref07_Fit.l4 n n s0 ([97, 98, 99, 88, 89, 90, 95, 48, 49, 57, 82, 109] : Str) (bytesOf ([(IntKind.u8.wrap ((97 : Int) + (IntKind.u8.wrap (Int.tmod (s0.length : Int) (26 : Int)))))] : List Int)) (0 : Int)
def g (s0 : Str) : Option (Str × Unit) := f (1000 + s0.length) s0
end rivetref07_Fit

-- rivet/rivetref13.Fit
namespace rivetref13_Fit
def f (n : Nat) (s0 : Str) : Option (Str × Unit) :=
    (rivetref07_Fit.g s0).bind fun y1 =>
    if (decide ((Int.tmod (s0.length : Int) (3 : Int)) = (1 : Int))) = true then 
    (if 0 ≤ (mn (y1.1.length : Int) (11 : Int)) ∧ (mn (y1.1.length : Int) (11 : Int)) ≤ (y1.1.length : Int) then 
    (if ([95] : Str).length + ((y1.1.take (((mn (y1.1.length : Int) (11 : Int))).toNat)).drop 0).length ≤ 9223372036854775807 then 
    (some ((([95] : Str) ++ ((y1.1.take (((mn (y1.1.length : Int) (11 : Int))).toNat)).drop 0)), ())) else none) else none)
    else (some (y1.1, ()))
def g (s0 : Str) : Option (Str × Unit) := f (1000 + s0.length) s0
end rivetref13_Fit

-- rivet/rivetlaw14.ScanNumbers
namespace rivetlaw14_ScanNumbers
def l8 (n : Nat) : Nat → Int → Int → Str → Bool → Str → Str → Int → Int → Str → Int → Option (Bool × Unit)
  | 0, _, _, _, _, _, _, _, _, _, _ => none
  | m + 1, n0, noughts1, s2, head7, dec8, hex9, x10, y11, digits12, i13 =>
    if (decide (i13 < (10 : Int))) = true then 
    (if 0 ≤ (IntKind.u32.wrap ((Int.tmod x10 (10 : Int)) + (1 : Int))) ∧ (IntKind.u32.wrap ((Int.tmod x10 (10 : Int)) + (1 : Int))) ≤ (digits12.length : Int) then 
    (if 0 ≤ (Int.tmod x10 (10 : Int)) ∧ (Int.tmod x10 (10 : Int)) ≤ (IntKind.u32.wrap ((Int.tmod x10 (10 : Int)) + (1 : Int))) then 
    (if ((digits12.take (((IntKind.u32.wrap ((Int.tmod x10 (10 : Int)) + (1 : Int)))).toNat)).drop (((Int.tmod x10 (10 : Int))).toNat)).length + dec8.length ≤ 9223372036854775807 then 
    (if 0 ≤ (IntKind.u32.wrap ((Int.tmod y11 (16 : Int)) + (1 : Int))) ∧ (IntKind.u32.wrap ((Int.tmod y11 (16 : Int)) + (1 : Int))) ≤ (digits12.length : Int) then 
    (if 0 ≤ (Int.tmod y11 (16 : Int)) ∧ (Int.tmod y11 (16 : Int)) ≤ (IntKind.u32.wrap ((Int.tmod y11 (16 : Int)) + (1 : Int))) then 
    (if ((digits12.take (((IntKind.u32.wrap ((Int.tmod y11 (16 : Int)) + (1 : Int)))).toNat)).drop (((Int.tmod y11 (16 : Int))).toNat)).length + hex9.length ≤ 9223372036854775807 then 
    ((rivetlaw14_ScanNumbers.l8 n m) n0 noughts1 s2 head7 (((digits12.take (((IntKind.u32.wrap ((Int.tmod x10 (10 : Int)) + (1 : Int)))).toNat)).drop (((Int.tmod x10 (10 : Int))).toNat)) ++ dec8) (((digits12.take (((IntKind.u32.wrap ((Int.tmod y11 (16 : Int)) + (1 : Int)))).toNat)).drop (((Int.tmod y11 (16 : Int))).toNat)) ++ hex9) (IntKind.u32.wrap (Int.tdiv x10 (10 : Int))) (IntKind.u32.wrap (Int.tdiv y11 (16 : Int))) digits12 (IntKind.i64.wrap (i13 + (1 : Int)))) else none) else none) else none) else none) else none) else none)
    else 
    (if 0 ≤ (Int.tmod noughts1 (16 : Int)) ∧ (Int.tmod noughts1 (16 : Int)) ≤ (([48, 48, 48, 48, 48, 48, 48, 48, 48, 48, 48, 48, 48, 48, 48] : Str).length : Int) then 
    (if ([48, 120] : Str).length + ((([48, 48, 48, 48, 48, 48, 48, 48, 48, 48, 48, 48, 48, 48, 48] : Str).take (((Int.tmod noughts1 (16 : Int))).toNat)).drop 0).length ≤ 9223372036854775807 then 
    (if (([48, 120] : Str) ++ ((([48, 48, 48, 48, 48, 48, 48, 48, 48, 48, 48, 48, 48, 48, 48] : Str).take (((Int.tmod noughts1 (16 : Int))).toNat)).drop 0)).length + hex9.length ≤ 9223372036854775807 then 
    (if ((([48, 120] : Str) ++ ((([48, 48, 48, 48, 48, 48, 48, 48, 48, 48, 48, 48, 48, 48, 48] : Str).take (((Int.tmod noughts1 (16 : Int))).toNat)).drop 0)) ++ hex9).length + ([32] : Str).length ≤ 9223372036854775807 then 
    (if (((([48, 120] : Str) ++ ((([48, 48, 48, 48, 48, 48, 48, 48, 48, 48, 48, 48, 48, 48, 48] : Str).take (((Int.tmod noughts1 (16 : Int))).toNat)).drop 0)) ++ hex9) ++ ([32] : Str)).length + ((([48, 48, 48, 48, 48, 48, 48, 48, 48, 48, 48, 48, 48, 48, 48] : Str).take (((Int.tmod noughts1 (16 : Int))).toNat)).drop 0).length ≤ 9223372036854775807 then 
    (if ((((([48, 120] : Str) ++ ((([48, 48, 48, 48, 48, 48, 48, 48, 48, 48, 48, 48, 48, 48, 48] : Str).take (((Int.tmod noughts1 (16 : Int))).toNat)).drop 0)) ++ hex9) ++ ([32] : Str)) ++ ((([48, 48, 48, 48, 48, 48, 48, 48, 48, 48, 48, 48, 48, 48, 48] : Str).take (((Int.tmod noughts1 (16 : Int))).toNat)).drop 0)).length + dec8.length ≤ 9223372036854775807 then 
    ((scan_Line.g (((((([48, 120] : Str) ++ ((([48, 48, 48, 48, 48, 48, 48, 48, 48, 48, 48, 48, 48, 48, 48] : Str).take (((Int.tmod noughts1 (16 : Int))).toNat)).drop 0)) ++ hex9) ++ ([32] : Str)) ++ ((([48, 48, 48, 48, 48, 48, 48, 48, 48, 48, 48, 48, 48, 48, 48] : Str).take (((Int.tmod noughts1 (16 : Int))).toNat)).drop 0)) ++ dec8)).bind fun y1 =>
    if 0 ≤ (2 : Int) ∧ (2 : Int) ≤ (hex9.length : Int) then 
    (if ([49] : Str).length + ((hex9.take (((hex9.length : Int)).toNat)).drop (((2 : Int)).toNat)).length ≤ 9223372036854775807 then 
    (if (([49] : Str) ++ ((hex9.take (((hex9.length : Int)).toNat)).drop (((2 : Int)).toNat))).length + ([103] : Str).length ≤ 9223372036854775807 then 
    ((scan_Line.g ((([49] : Str) ++ ((hex9.take (((hex9.length : Int)).toNat)).drop (((2 : Int)).toNat))) ++ ([103] : Str))).bind fun y2 =>
    (scan_Line.g ([52, 50, 57, 52, 57, 54, 55, 50, 57, 54] : Str)).bind fun y3 =>
    (scan_Line.g ([48, 120] : Str)).bind fun y4 =>
    (rivetlaw14_few.g s2).bind fun y5 =>
    (rivetref13_Fit.g y5.1).bind fun y6 =>
    if y6.1.length + ([32, 46] : Str).length ≤ 9223372036854775807 then 
    (if (y6.1 ++ ([32, 46] : Str)).length + y6.1.length ≤ 9223372036854775807 then 
    ((scan_Line.g ((y6.1 ++ ([32, 46] : Str)) ++ y6.1)).bind fun y7 =>
    if (!head7) = false then 
    (if (decide (y1.2.1 ≠ (0 : Int))) = false then 
    (if (decide (y7.2.1 ≠ (0 : Int))) = false then 
    (if (decide ((y1.1.length : Int) ≠ (2 : Int))) = false then 
    (if (decide ((y7.1.length : Int) ≠ (2 : Int))) = true then (some (false, ()))
    else 
    (if 0 ≤ (0 : Int) ∧ (0 : Int) < (y1.1.length : Int) then 
    (if (decide (((((y1.1.getD ((0 : Int)).toNat ((0 : Int), ((0 : Int), (([] : Str), ((0 : Int), ()))))).2).2).2).1 = n0)) = true then 
    (if 0 ≤ (1 : Int) ∧ (1 : Int) < (y1.1.length : Int) then 
    (if (decide (((((y1.1.getD ((1 : Int)).toNat ((0 : Int), ((0 : Int), (([] : Str), ((0 : Int), ()))))).2).2).2).1 = n0)) = true then 
    (if 0 ≤ (0 : Int) ∧ (0 : Int) < (y1.1.length : Int) then 
    (if (decide ((y1.1.getD ((0 : Int)).toNat ((0 : Int), ((0 : Int), (([] : Str), ((0 : Int), ()))))).1 = (2 : Int))) = true then 
    (if (decide (y2.2.1 = (21 : Int))) = true then 
    (if (decide (y3.2.1 = (21 : Int))) = true then 
    (if (decide (y4.2.1 = (21 : Int))) = true then 
    (if 0 ≤ (0 : Int) ∧ (0 : Int) < (y7.1.length : Int) then 
    (if (decide ((y7.1.getD ((0 : Int)).toNat ((0 : Int), ((0 : Int), (([] : Str), ((0 : Int), ()))))).1 = (1 : Int)) && (decide (((y7.1.getD ((0 : Int)).toNat ((0 : Int), ((0 : Int), (([] : Str), ((0 : Int), ()))))).2).1 = 0) && (decide ((((y7.1.getD ((0 : Int)).toNat ((0 : Int), ((0 : Int), (([] : Str), ((0 : Int), ()))))).2).2).1 = y6.1) && (decide (((((y7.1.getD ((0 : Int)).toNat ((0 : Int), ((0 : Int), (([] : Str), ((0 : Int), ()))))).2).2).2).1 = 0) && true)))) = true then 
    (if 0 ≤ (1 : Int) ∧ (1 : Int) < (y7.1.length : Int) then 
    (some ((decide ((y7.1.getD ((1 : Int)).toNat ((0 : Int), ((0 : Int), (([] : Str), ((0 : Int), ()))))).1 = (4 : Int)) && (decide (((y7.1.getD ((1 : Int)).toNat ((0 : Int), ((0 : Int), (([] : Str), ((0 : Int), ()))))).2).1 = (IntKind.i64.wrap ((y6.1.length : Int) + (1 : Int)))) && (decide ((((y7.1.getD ((1 : Int)).toNat ((0 : Int), ((0 : Int), (([] : Str), ((0 : Int), ()))))).2).2).1 = y6.1) && (decide (((((y7.1.getD ((1 : Int)).toNat ((0 : Int), ((0 : Int), (([] : Str), ((0 : Int), ()))))).2).2).2).1 = 0) && true)))), ())) else none)
    else (some (false, ()))) else none)
    else (some (false, ())))
    else (some (false, ())))
    else (some (false, ())))
    else (some (false, ()))) else none)
    else (some (false, ()))) else none)
    else (some (false, ()))) else none))
    else (some (false, ())))
    else (some (false, ())))
    else (some (false, ())))
    else (some (false, ()))) else none) else none) else none) else none) else none) else none) else none) else none) else none) else none) else none)
def f (n : Nat) (n0 : Int) (noughts1 : Int) (s2 : Str) : Option (Bool × Unit) :=
    rivetlaw14_shown.g.bind fun y1 =>
    rivetlaw14_ScanNumbers.l8 n n n0 noughts1 s2 y1.1 ([] : Str) ([] : Str) n0 n0 ([48, 49, 50, 51, 52, 53, 54, 55, 56, 57, 97, 98, 99, 100, 101, 102] : Str) (0 : Int)
def g (n0 : Int) (noughts1 : Int) (s2 : Str) : Option (Bool × Unit) := f (1000 + n0.toNat + noughts1.toNat + s2.length) n0 noughts1 s2
end rivetlaw14_ScanNumbers

end Rv
