/- The functions' plain texts, printed by gen.py (a program of this work's own). -/
import Derived.Test.YtlbfhddhojejfaaDoorRvA
import Derived.Test.YtlbfhddhojejfaaDoorRvL0
set_option linter.all false
namespace Rv
open Go
set_option maxRecDepth 100000
set_option linter.unusedVariables false

-- rivet/scan.letter
namespace scan_letter
def f (n : Nat) (c0 : Int) : Option (Bool × Unit) :=
    if (decide ((65 : Int) ≤ c0)) = true then 
    (if (decide (c0 ≤ (90 : Int))) = false then 
    (if (decide ((97 : Int) ≤ c0)) = true then 
    (if (decide (c0 ≤ (122 : Int))) = false then (some ((decide (c0 = (95 : Int))), ()))
    else (some (true, ())))
    else (some ((decide (c0 = (95 : Int))), ())))
    else (some (true, ())))
    else 
    (if (decide ((97 : Int) ≤ c0)) = true then 
    (if (decide (c0 ≤ (122 : Int))) = false then (some ((decide (c0 = (95 : Int))), ()))
    else (some (true, ())))
    else (some ((decide (c0 = (95 : Int))), ())))
def g (c0 : Int) : Option (Bool × Unit) := f (1000 + c0.toNat) c0
end scan_letter

-- rivet/scan.digit
namespace scan_digit
def f (n : Nat) (c0 : Int) : Option (Bool × Unit) :=
    if (decide ((48 : Int) ≤ c0)) = true then (some ((decide (c0 ≤ (57 : Int))), ()))
    else (some (false, ()))
def g (c0 : Int) : Option (Bool × Unit) := f (1000 + c0.toNat) c0
end scan_digit

-- rivet/scan.word
namespace scan_word
def j3 (n : Nat) (rl2 : Str → Int → Option (Str × Unit)) (s0 : Str) (n3 : Int) : Option (Str × Unit) :=
    rl2 s0 (IntKind.i64.wrap (n3 + (1 : Int)))
def j4 (n : Nat) (s0 : Str) (n3 : Int) : Option (Str × Unit) :=
    if 0 ≤ n3 ∧ n3 ≤ (s0.length : Int) then (some (((s0.take ((n3).toNat)).drop 0), ())) else none
def l2 (n : Nat) : Nat → Str → Int → Option (Str × Unit)
  | 0, _, _ => none
  | m + 1, s0, n3 =>
    if (decide (n3 < (s0.length : Int))) = true then 
    (if 0 ≤ n3 ∧ n3 < (s0.length : Int) then 
    ((scan_letter.g (bt s0 n3)).bind fun y1 =>
    if y1.1 = false then 
    (if 0 ≤ n3 ∧ n3 < (s0.length : Int) then 
    ((scan_digit.g (bt s0 n3)).bind fun y2 =>
    if y2.1 = true then (scan_word.j3 n (scan_word.l2 n m) s0 n3)
    else (scan_word.j4 n s0 n3)) else none)
    else (scan_word.j3 n (scan_word.l2 n m) s0 n3)) else none)
    else (scan_word.j4 n s0 n3)
def f (n : Nat) (s0 : Str) : Option (Str × Unit) :=
    scan_word.l2 n n s0 (0 : Int)
def g (s0 : Str) : Option (Str × Unit) := f (1000 + s0.length) s0
end scan_word

-- internal/strconv.lower
namespace internal_strconv_lower
def f (n : Nat) (c0 : Int) : Option (Int × Unit) :=
    some ((bitsI .or .u8 c0 (32 : Int)), ())
def g (c0 : Int) : Option (Int × Unit) := f (1000 + c0.toNat) c0
end internal_strconv_lower

-- internal/strconv.ParseUint
namespace internal_strconv_ParseUint
def j55 (n : Nat) (rl36 : Int → Bool → Str → Int → Int → Bool → Int → (List Int) → Int → Int → Option (Int × (Option Int) × Unit)) (base1 : Int) (base08 : Bool) (s09 : Str) (cutoff10 : Int) (maxVal11 : Int) (underscores12 : Bool) (n13 : Int) (t99 : List Int) (t100 : Int) (t101 : Int) : Option (Int × (Option Int) × Unit) :=
    rl36 base1 base08 s09 cutoff10 maxVal11 underscores12 n13 t99 t100 (IntKind.i64.wrap (t101 + (1 : Int)))
def j46 (n : Nat) (rl36 : Int → Bool → Str → Int → Int → Bool → Int → (List Int) → Int → Int → Option (Int × (Option Int) × Unit)) (base1 : Int) (base08 : Bool) (s09 : Str) (cutoff10 : Int) (maxVal11 : Int) (underscores12 : Bool) (n13 : Int) (d16 : Int) (t99 : List Int) (t100 : Int) (t101 : Int) : Option (Int × (Option Int) × Unit) :=
    if (decide ((IntKind.u8.wrap base1) ≤ d16)) = true then (some ((0 : Int), (some (2 : Int)), ()))
    else 
    (if (decide (cutoff10 ≤ n13)) = true then (some (maxVal11, (some (1 : Int)), ()))
    else 
    (if (decide ((IntKind.u64.wrap ((IntKind.u64.wrap (n13 * (IntKind.u64.wrap base1))) + (IntKind.u64.wrap d16))) < (IntKind.u64.wrap (n13 * (IntKind.u64.wrap base1))))) = false then 
    (if (decide (maxVal11 < (IntKind.u64.wrap ((IntKind.u64.wrap (n13 * (IntKind.u64.wrap base1))) + (IntKind.u64.wrap d16))))) = true then (some (maxVal11, (some (1 : Int)), ()))
    else 
    (internal_strconv_ParseUint.j55 n rl36 base1 base08 s09 cutoff10 maxVal11 underscores12 (IntKind.u64.wrap ((IntKind.u64.wrap (n13 * (IntKind.u64.wrap base1))) + (IntKind.u64.wrap d16))) t99 t100 t101))
    else (some (maxVal11, (some (1 : Int)), ()))))
def l36 (n : Nat) : Nat → Int → Bool → Str → Int → Int → Bool → Int → (List Int) → Int → Int → Option (Int × (Option Int) × Unit)
  | 0, _, _, _, _, _, _, _, _, _, _ => none
  | m + 1, base1, base08, s09, cutoff10, maxVal11, underscores12, n13, t99, t100, t101 =>
    if (decide (t101 < t100)) = true then 
    (if 0 ≤ t101 ∧ t101 < (t99.length : Int) then 
    (if (decide ((t99.getD (t101).toNat (0 : Int)) = (95 : Int))) = true then 
    (if base08 = true then 
    (internal_strconv_ParseUint.j55 n (internal_strconv_ParseUint.l36 n m) base1 base08 s09 cutoff10 maxVal11 true n13 t99 t100 t101)
    else 
    (if (decide ((48 : Int) ≤ (t99.getD (t101).toNat (0 : Int)))) = true then 
    (if (decide ((t99.getD (t101).toNat (0 : Int)) ≤ (57 : Int))) = true then 
    (internal_strconv_ParseUint.j46 n (internal_strconv_ParseUint.l36 n m) base1 base08 s09 cutoff10 maxVal11 underscores12 n13 (IntKind.u8.wrap ((t99.getD (t101).toNat (0 : Int)) - (48 : Int))) t99 t100 t101)
    else 
    ((internal_strconv_lower.g (t99.getD (t101).toNat (0 : Int))).bind fun y1 =>
    if (decide ((97 : Int) ≤ y1.1)) = true then 
    ((internal_strconv_lower.g (t99.getD (t101).toNat (0 : Int))).bind fun y2 =>
    if (decide (y2.1 ≤ (122 : Int))) = true then 
    ((internal_strconv_lower.g (t99.getD (t101).toNat (0 : Int))).bind fun y3 =>
    internal_strconv_ParseUint.j46 n (internal_strconv_ParseUint.l36 n m) base1 base08 s09 cutoff10 maxVal11 underscores12 n13 (IntKind.u8.wrap ((IntKind.u8.wrap (y3.1 - (97 : Int))) + (10 : Int))) t99 t100 t101)
    else (some ((0 : Int), (some (2 : Int)), ())))
    else (some ((0 : Int), (some (2 : Int)), ()))))
    else 
    ((internal_strconv_lower.g (t99.getD (t101).toNat (0 : Int))).bind fun y4 =>
    if (decide ((97 : Int) ≤ y4.1)) = true then 
    ((internal_strconv_lower.g (t99.getD (t101).toNat (0 : Int))).bind fun y5 =>
    if (decide (y5.1 ≤ (122 : Int))) = true then 
    ((internal_strconv_lower.g (t99.getD (t101).toNat (0 : Int))).bind fun y6 =>
    internal_strconv_ParseUint.j46 n (internal_strconv_ParseUint.l36 n m) base1 base08 s09 cutoff10 maxVal11 underscores12 n13 (IntKind.u8.wrap ((IntKind.u8.wrap (y6.1 - (97 : Int))) + (10 : Int))) t99 t100 t101)
    else (some ((0 : Int), (some (2 : Int)), ())))
    else (some ((0 : Int), (some (2 : Int)), ())))))
    else 
    (if (decide ((48 : Int) ≤ (t99.getD (t101).toNat (0 : Int)))) = true then 
    (if (decide ((t99.getD (t101).toNat (0 : Int)) ≤ (57 : Int))) = true then 
    (internal_strconv_ParseUint.j46 n (internal_strconv_ParseUint.l36 n m) base1 base08 s09 cutoff10 maxVal11 underscores12 n13 (IntKind.u8.wrap ((t99.getD (t101).toNat (0 : Int)) - (48 : Int))) t99 t100 t101)
    else 
    ((internal_strconv_lower.g (t99.getD (t101).toNat (0 : Int))).bind fun y7 =>
    if (decide ((97 : Int) ≤ y7.1)) = true then 
    ((internal_strconv_lower.g (t99.getD (t101).toNat (0 : Int))).bind fun y8 =>
    if (decide (y8.1 ≤ (122 : Int))) = true then 
    ((internal_strconv_lower.g (t99.getD (t101).toNat (0 : Int))).bind fun y9 =>
    internal_strconv_ParseUint.j46 n (internal_strconv_ParseUint.l36 n m) base1 base08 s09 cutoff10 maxVal11 underscores12 n13 (IntKind.u8.wrap ((IntKind.u8.wrap (y9.1 - (97 : Int))) + (10 : Int))) t99 t100 t101)
    else (some ((0 : Int), (some (2 : Int)), ())))
    else (some ((0 : Int), (some (2 : Int)), ()))))
    else 
    ((internal_strconv_lower.g (t99.getD (t101).toNat (0 : Int))).bind fun y10 =>
    if (decide ((97 : Int) ≤ y10.1)) = true then 
    ((internal_strconv_lower.g (t99.getD (t101).toNat (0 : Int))).bind fun y11 =>
    if (decide (y11.1 ≤ (122 : Int))) = true then 
    ((internal_strconv_lower.g (t99.getD (t101).toNat (0 : Int))).bind fun y12 =>
    internal_strconv_ParseUint.j46 n (internal_strconv_ParseUint.l36 n m) base1 base08 s09 cutoff10 maxVal11 underscores12 n13 (IntKind.u8.wrap ((IntKind.u8.wrap (y12.1 - (97 : Int))) + (10 : Int))) t99 t100 t101)
    else (some ((0 : Int), (some (2 : Int)), ())))
    else (some ((0 : Int), (some (2 : Int)), ()))))) else none)
    else 
    (if underscores12 = true then 
    ((L.underscoreO s09).bind fun y13 =>
    if (!y13.1) = true then (some ((0 : Int), (some (2 : Int)), ()))
    else (some (n13, none, ())))
    else (some (n13, none, ())))
def j32 (n : Nat) (s0 : Str) (base1 : Int) (bitSize2 : Int) (base08 : Bool) (s09 : Str) (cutoff10 : Int) : Option (Int × (Option Int) × Unit) :=
    if (IntKind.u64.wrap bitSize2) < 0 then none else 
    (internal_strconv_ParseUint.l36 n n base1 base08 s09 cutoff10 (IntKind.u64.wrap ((IntKind.u64.wrap ((1 : Int) * 2 ^ (min (IntKind.u64.wrap bitSize2).toNat IntKind.u64.bits))) - (1 : Int))) false (0 : Int) (s0.map fun b => (b.toNat : Int)) ((s0.map fun b => (b.toNat : Int)).length : Int) (0 : Int))
def j25 (n : Nat) (s0 : Str) (base1 : Int) (bitSize2 : Int) (base08 : Bool) (s09 : Str) : Option (Int × (Option Int) × Unit) :=
    if (decide (base1 = (10 : Int))) = true then 
    (internal_strconv_ParseUint.j32 n s0 base1 bitSize2 base08 s09 (1844674407370955162 : Int))
    else 
    (if (decide (base1 = (16 : Int))) = true then 
    (internal_strconv_ParseUint.j32 n s0 base1 bitSize2 base08 s09 (1152921504606846976 : Int))
    else 
    (if (IntKind.u64.wrap base1) = 0 then none else 
    (internal_strconv_ParseUint.j32 n s0 base1 bitSize2 base08 s09 (IntKind.u64.wrap ((IntKind.u64.wrap (Int.tdiv (18446744073709551615 : Int) (IntKind.u64.wrap base1))) + (1 : Int))))))
def j21 (n : Nat) (s0 : Str) (base1 : Int) (bitSize2 : Int) (base08 : Bool) (s09 : Str) : Option (Int × (Option Int) × Unit) :=
    if (decide (bitSize2 = (0 : Int))) = true then 
    (internal_strconv_ParseUint.j25 n s0 base1 (64 : Int) base08 s09)
    else 
    (if (decide (bitSize2 < (0 : Int))) = false then 
    (if (decide ((64 : Int) < bitSize2)) = true then (some ((0 : Int), (some (4 : Int)), ()))
    else 
    (internal_strconv_ParseUint.j25 n s0 base1 bitSize2 base08 s09))
    else (some ((0 : Int), (some (4 : Int)), ())))
def j17 (n : Nat) (s0 : Str) (base1 : Int) (bitSize2 : Int) (base08 : Bool) (s09 : Str) : Option (Int × (Option Int) × Unit) :=
    if 0 ≤ (2 : Int) ∧ (2 : Int) ≤ (s0.length : Int) then 
    (internal_strconv_ParseUint.j21 n ((s0.take (((s0.length : Int)).toNat)).drop (((2 : Int)).toNat)) base1 bitSize2 base08 s09) else none
def j20 (n : Nat) (s0 : Str) (base1 : Int) (bitSize2 : Int) (base08 : Bool) (s09 : Str) : Option (Int × (Option Int) × Unit) :=
    if 0 ≤ (2 : Int) ∧ (2 : Int) ≤ (s0.length : Int) then 
    (internal_strconv_ParseUint.j21 n ((s0.take (((s0.length : Int)).toNat)).drop (((2 : Int)).toNat)) base1 bitSize2 base08 s09) else none
def j11 (n : Nat) (s0 : Str) (base1 : Int) (bitSize2 : Int) (base08 : Bool) (s09 : Str) : Option (Int × (Option Int) × Unit) :=
    if 0 ≤ (1 : Int) ∧ (1 : Int) ≤ (s0.length : Int) then 
    (internal_strconv_ParseUint.j21 n ((s0.take (((s0.length : Int)).toNat)).drop (((1 : Int)).toNat)) base1 bitSize2 base08 s09) else none
def j9 (n : Nat) (s0 : Str) (base1 : Int) (bitSize2 : Int) (base08 : Bool) (s09 : Str) : Option (Int × (Option Int) × Unit) :=
    if 0 ≤ (0 : Int) ∧ (0 : Int) < (s0.length : Int) then 
    (if (decide ((bt s0 (0 : Int)) = (48 : Int))) = true then 
    (if (decide ((3 : Int) ≤ (s0.length : Int))) = true then 
    (if 0 ≤ (1 : Int) ∧ (1 : Int) < (s0.length : Int) then 
    ((internal_strconv_lower.g (bt s0 (1 : Int))).bind fun y1 =>
    if (decide (y1.1 = (98 : Int))) = true then 
    (if 0 ≤ (2 : Int) ∧ (2 : Int) ≤ (s0.length : Int) then 
    (internal_strconv_ParseUint.j21 n ((s0.take (((s0.length : Int)).toNat)).drop (((2 : Int)).toNat)) (2 : Int) bitSize2 base08 s09) else none)
    else 
    (if (decide ((3 : Int) ≤ (s0.length : Int))) = true then 
    (if 0 ≤ (1 : Int) ∧ (1 : Int) < (s0.length : Int) then 
    ((internal_strconv_lower.g (bt s0 (1 : Int))).bind fun y2 =>
    if (decide (y2.1 = (111 : Int))) = true then 
    (internal_strconv_ParseUint.j17 n s0 (8 : Int) bitSize2 base08 s09)
    else 
    (if (decide ((3 : Int) ≤ (s0.length : Int))) = true then 
    (if 0 ≤ (1 : Int) ∧ (1 : Int) < (s0.length : Int) then 
    ((internal_strconv_lower.g (bt s0 (1 : Int))).bind fun y3 =>
    if (decide (y3.1 = (120 : Int))) = true then 
    (internal_strconv_ParseUint.j20 n s0 (16 : Int) bitSize2 base08 s09)
    else 
    (internal_strconv_ParseUint.j11 n s0 (8 : Int) bitSize2 base08 s09)) else none)
    else 
    (internal_strconv_ParseUint.j11 n s0 (8 : Int) bitSize2 base08 s09))) else none)
    else 
    (if (decide ((3 : Int) ≤ (s0.length : Int))) = true then 
    (if 0 ≤ (1 : Int) ∧ (1 : Int) < (s0.length : Int) then 
    ((internal_strconv_lower.g (bt s0 (1 : Int))).bind fun y4 =>
    if (decide (y4.1 = (120 : Int))) = true then 
    (internal_strconv_ParseUint.j20 n s0 (16 : Int) bitSize2 base08 s09)
    else 
    (internal_strconv_ParseUint.j11 n s0 (8 : Int) bitSize2 base08 s09)) else none)
    else 
    (internal_strconv_ParseUint.j11 n s0 (8 : Int) bitSize2 base08 s09)))) else none)
    else 
    (if (decide ((3 : Int) ≤ (s0.length : Int))) = true then 
    (if 0 ≤ (1 : Int) ∧ (1 : Int) < (s0.length : Int) then 
    ((internal_strconv_lower.g (bt s0 (1 : Int))).bind fun y5 =>
    if (decide (y5.1 = (111 : Int))) = true then 
    (internal_strconv_ParseUint.j17 n s0 (8 : Int) bitSize2 base08 s09)
    else 
    (if (decide ((3 : Int) ≤ (s0.length : Int))) = true then 
    (if 0 ≤ (1 : Int) ∧ (1 : Int) < (s0.length : Int) then 
    ((internal_strconv_lower.g (bt s0 (1 : Int))).bind fun y6 =>
    if (decide (y6.1 = (120 : Int))) = true then 
    (internal_strconv_ParseUint.j20 n s0 (16 : Int) bitSize2 base08 s09)
    else 
    (internal_strconv_ParseUint.j11 n s0 (8 : Int) bitSize2 base08 s09)) else none)
    else 
    (internal_strconv_ParseUint.j11 n s0 (8 : Int) bitSize2 base08 s09))) else none)
    else 
    (if (decide ((3 : Int) ≤ (s0.length : Int))) = true then 
    (if 0 ≤ (1 : Int) ∧ (1 : Int) < (s0.length : Int) then 
    ((internal_strconv_lower.g (bt s0 (1 : Int))).bind fun y7 =>
    if (decide (y7.1 = (120 : Int))) = true then 
    (internal_strconv_ParseUint.j20 n s0 (16 : Int) bitSize2 base08 s09)
    else 
    (internal_strconv_ParseUint.j11 n s0 (8 : Int) bitSize2 base08 s09)) else none)
    else 
    (internal_strconv_ParseUint.j11 n s0 (8 : Int) bitSize2 base08 s09))))
    else 
    (internal_strconv_ParseUint.j21 n s0 base1 bitSize2 base08 s09)) else none
def f (n : Nat) (s0 : Str) (base1 : Int) (bitSize2 : Int) : Option (Int × (Option Int) × Unit) :=
    if (decide (s0 = ([] : Str))) = true then (some ((0 : Int), (some (2 : Int)), ()))
    else 
    (if (decide ((2 : Int) ≤ base1)) = true then 
    (if (decide (base1 ≤ (36 : Int))) = true then 
    (internal_strconv_ParseUint.j21 n s0 base1 bitSize2 (decide (base1 = (0 : Int))) s0)
    else 
    (if (decide (base1 = (0 : Int))) = true then 
    (internal_strconv_ParseUint.j9 n s0 (10 : Int) bitSize2 (decide (base1 = (0 : Int))) s0)
    else (some ((0 : Int), (some (3 : Int)), ()))))
    else 
    (if (decide (base1 = (0 : Int))) = true then 
    (internal_strconv_ParseUint.j9 n s0 (10 : Int) bitSize2 (decide (base1 = (0 : Int))) s0)
    else (some ((0 : Int), (some (3 : Int)), ()))))
def g (s0 : Str) (base1 : Int) (bitSize2 : Int) : Option (Int × (Option Int) × Unit) := f (1000 + s0.length + base1.toNat + bitSize2.toNat) s0 base1 bitSize2
end internal_strconv_ParseUint

-- strconv.ParseUint
namespace strconv_ParseUint
def f (n : Nat) (s0 : Str) (base1 : Int) (bitSize2 : Int) : Option (Int × Bool × Unit) :=
    (internal_strconv_ParseUint.g s0 base1 bitSize2).bind fun y1 =>
    if (!y1.2.1.isNone) = true then 
    ((L.toErrorO ([80, 97, 114, 115, 101, 85, 105, 110, 116] : Str) s0 base1 bitSize2 y1.2.1).bind fun y2 =>
    some (y1.1, y2.1, ()))
    else (some (y1.1, true, ()))
def g (s0 : Str) (base1 : Int) (bitSize2 : Int) : Option (Int × Bool × Unit) := f (1000 + s0.length + base1.toNat + bitSize2.toNat) s0 base1 bitSize2
end strconv_ParseUint

-- rivet/scan.number
namespace scan_number
def j5 (n : Nat) (s0 : Str) (base4 : Int) : Option (Int × Bool × Unit) :=
    (L.containsO s0 ([95] : Str)).bind fun y1 =>
    if y1.1 = true then (some ((0 : Int), false, ()))
    else 
    ((strconv_ParseUint.g s0 base4 (32 : Int)).bind fun y2 =>
    some ((IntKind.u32.wrap y2.1), y2.2.1, ()))
def f (n : Nat) (s0 : Str) : Option (Int × Bool × Unit) :=
    if (L.cutIs s0 ([48, 120] : Str)) = true then 
    (scan_number.j5 n (L.cutRest s0 ([48, 120] : Str)) (16 : Int))
    else (scan_number.j5 n s0 (10 : Int))
def g (s0 : Str) : Option (Int × Bool × Unit) := f (1000 + s0.length) s0
end scan_number

-- rivet/scan.Line
namespace scan_Line
def j23 (n : Nat) (rg0 : Str → (List (Int × Int × Str × Int × Unit)) → Int → Option ((List (Int × Int × Str × Int × Unit)) × Int × Unit)) (s0 : Str) (out4 : List (Int × Int × Str × Int × Unit)) (at5 : Int) (b0_0 : Int) (b0_1 : Int) (b0_2 : Str) (b0_3 : Int) : Option ((List (Int × Int × Str × Int × Unit)) × Int × Unit) :=
    if (out4.length + ([(b0_0, b0_1, b0_2, b0_3, ())] : List (Int × Int × Str × Int × Unit)).length) * 40 ≤ 140737488355328 ∧ 0 < 40 ∧ 0 < 4 then 
    (rg0 s0 (out4 ++ ([(b0_0, b0_1, b0_2, b0_3, ())] : List (Int × Int × Str × Int × Unit))) (IntKind.i64.wrap (at5 + (b0_2.length : Int)))) else none
def g0 (n : Nat) : Nat → Str → (List (Int × Int × Str × Int × Unit)) → Int → Option ((List (Int × Int × Str × Int × Unit)) × Int × Unit)
  | 0, _, _, _ => none
  | m + 1, s0, out4, at5 =>
    if (decide ((s0.length : Int) ≤ at5)) = false then 
    (if 0 ≤ at5 ∧ at5 < (s0.length : Int) then 
    (if (decide ((bt s0 at5) = (59 : Int))) = true then (some (out4, (0 : Int), ()))
    else 
    (if 0 ≤ at5 ∧ at5 < (s0.length : Int) then 
    (if (decide ((bt s0 at5) = (32 : Int))) = false then 
    (if (decide ((bt s0 at5) = (9 : Int))) = true then 
    ((scan_Line.g0 n m) s0 out4 (IntKind.i64.wrap (at5 + (1 : Int))))
    else 
    ((scan_letter.g (bt s0 at5)).bind fun y1 =>
    if y1.1 = true then 
    (if 0 ≤ at5 ∧ at5 ≤ (s0.length : Int) then 
    ((scan_word.g ((s0.take (((s0.length : Int)).toNat)).drop ((at5).toNat))).bind fun y2 =>
    scan_Line.j23 n (scan_Line.g0 n m) s0 out4 at5 (1 : Int) at5 y2.1 0) else none)
    else 
    ((scan_digit.g (bt s0 at5)).bind fun y3 =>
    if y3.1 = true then 
    (if 0 ≤ at5 ∧ at5 ≤ (s0.length : Int) then 
    ((scan_word.g ((s0.take (((s0.length : Int)).toNat)).drop ((at5).toNat))).bind fun y4 =>
    (scan_number.g y4.1).bind fun y5 =>
    if (!y5.2.1) = true then (some ([], (21 : Int), ()))
    else 
    (scan_Line.j23 n (scan_Line.g0 n m) s0 out4 at5 (2 : Int) at5 y4.1 y5.1)) else none)
    else 
    (if (decide ((bt s0 at5) = (46 : Int))) = true then 
    (if (decide ((IntKind.i64.wrap (at5 + (1 : Int))) < (s0.length : Int))) = true then 
    (if 0 ≤ (IntKind.i64.wrap (at5 + (1 : Int))) ∧ (IntKind.i64.wrap (at5 + (1 : Int))) < (s0.length : Int) then 
    ((scan_letter.g (bt s0 (IntKind.i64.wrap (at5 + (1 : Int))))).bind fun y6 =>
    if y6.1 = true then 
    (if 0 ≤ (IntKind.i64.wrap (at5 + (1 : Int))) ∧ (IntKind.i64.wrap (at5 + (1 : Int))) ≤ (s0.length : Int) then 
    ((scan_word.g ((s0.take (((s0.length : Int)).toNat)).drop (((IntKind.i64.wrap (at5 + (1 : Int)))).toNat))).bind fun y7 =>
    scan_Line.j23 n (scan_Line.g0 n m) s0 out4 (IntKind.i64.wrap (at5 + (1 : Int))) (4 : Int) at5 y7.1 0) else none)
    else 
    (if (decide ((0 : Int) ≤ (L.indexByte ([44, 58, 43, 45, 42, 40, 41, 61] : Str) (bt s0 at5)))) = true then 
    (if 0 ≤ (IntKind.i64.wrap (at5 + (1 : Int))) ∧ (IntKind.i64.wrap (at5 + (1 : Int))) ≤ (s0.length : Int) then 
    (if 0 ≤ at5 ∧ at5 ≤ (IntKind.i64.wrap (at5 + (1 : Int))) then 
    (scan_Line.j23 n (scan_Line.g0 n m) s0 out4 at5 (3 : Int) at5 ((s0.take (((IntKind.i64.wrap (at5 + (1 : Int)))).toNat)).drop ((at5).toNat)) 0) else none) else none)
    else (some ([], (20 : Int), ())))) else none)
    else 
    (if (decide ((0 : Int) ≤ (L.indexByte ([44, 58, 43, 45, 42, 40, 41, 61] : Str) (bt s0 at5)))) = true then 
    (if 0 ≤ (IntKind.i64.wrap (at5 + (1 : Int))) ∧ (IntKind.i64.wrap (at5 + (1 : Int))) ≤ (s0.length : Int) then 
    (if 0 ≤ at5 ∧ at5 ≤ (IntKind.i64.wrap (at5 + (1 : Int))) then 
    (scan_Line.j23 n (scan_Line.g0 n m) s0 out4 at5 (3 : Int) at5 ((s0.take (((IntKind.i64.wrap (at5 + (1 : Int)))).toNat)).drop ((at5).toNat)) 0) else none) else none)
    else (some ([], (20 : Int), ()))))
    else 
    (if (decide ((0 : Int) ≤ (L.indexByte ([44, 58, 43, 45, 42, 40, 41, 61] : Str) (bt s0 at5)))) = true then 
    (if 0 ≤ (IntKind.i64.wrap (at5 + (1 : Int))) ∧ (IntKind.i64.wrap (at5 + (1 : Int))) ≤ (s0.length : Int) then 
    (if 0 ≤ at5 ∧ at5 ≤ (IntKind.i64.wrap (at5 + (1 : Int))) then 
    (scan_Line.j23 n (scan_Line.g0 n m) s0 out4 at5 (3 : Int) at5 ((s0.take (((IntKind.i64.wrap (at5 + (1 : Int)))).toNat)).drop ((at5).toNat)) 0) else none) else none)
    else (some ([], (20 : Int), ())))))))
    else 
    ((scan_Line.g0 n m) s0 out4 (IntKind.i64.wrap (at5 + (1 : Int))))) else none)) else none)
    else (some (out4, (0 : Int), ()))
def f (n : Nat) (s0 : Str) : Option ((List (Int × Int × Str × Int × Unit)) × Int × Unit) :=
    scan_Line.g0 n n s0 ([]) (0 : Int)
def g (s0 : Str) : Option ((List (Int × Int × Str × Int × Unit)) × Int × Unit) := f (1000 + s0.length) s0
end scan_Line

-- rivet/rivetlaw14.shown
namespace rivetlaw14_shown
def f (n : Nat) : Option (Bool × Unit) :=
    (scan_Line.g ([97, 58, 32, 46, 119, 111, 114, 100, 32, 48, 120, 49, 70, 32, 59, 32, 98] : Str)).bind fun y1 =>
    if (decide (y1.2.1 = (0 : Int))) = true then 
    (if (decide ((y1.1.length : Int) = (4 : Int))) = true then 
    (if 0 ≤ (0 : Int) ∧ (0 : Int) < (y1.1.length : Int) then 
    (if (decide ((((y1.1.getD ((0 : Int)).toNat ((0 : Int), ((0 : Int), (([] : Str), ((0 : Int), ()))))).2).2).1 = ([97] : Str))) = true then 
    (if 0 ≤ (1 : Int) ∧ (1 : Int) < (y1.1.length : Int) then 
    (if (decide ((((y1.1.getD ((1 : Int)).toNat ((0 : Int), ((0 : Int), (([] : Str), ((0 : Int), ()))))).2).2).1 = ([58] : Str))) = true then 
    (if 0 ≤ (2 : Int) ∧ (2 : Int) < (y1.1.length : Int) then 
    (if (decide ((y1.1.getD ((2 : Int)).toNat ((0 : Int), ((0 : Int), (([] : Str), ((0 : Int), ()))))).1 = (4 : Int))) = true then 
    (if 0 ≤ (2 : Int) ∧ (2 : Int) < (y1.1.length : Int) then 
    (if (decide ((((y1.1.getD ((2 : Int)).toNat ((0 : Int), ((0 : Int), (([] : Str), ((0 : Int), ()))))).2).2).1 = ([119, 111, 114, 100] : Str))) = true then 
    (if 0 ≤ (3 : Int) ∧ (3 : Int) < (y1.1.length : Int) then 
    (some ((decide (((((y1.1.getD ((3 : Int)).toNat ((0 : Int), ((0 : Int), (([] : Str), ((0 : Int), ()))))).2).2).2).1 = (31 : Int))), ())) else none)
    else (some (false, ()))) else none)
    else (some (false, ()))) else none)
    else (some (false, ()))) else none)
    else (some (false, ()))) else none)
    else (some (false, ())))
    else (some (false, ()))
def g : Option (Bool × Unit) := f (1000) 
end rivetlaw14_shown

-- rivet/rivetlaw14.few
namespace rivetlaw14_few
def f (n : Nat) (s0 : Str) : Option (Str × Unit) :=
    if 0 ≤ (mn (s0.length : Int) (100 : Int)) ∧ (mn (s0.length : Int) (100 : Int)) ≤ (s0.length : Int) then 
    (some (((s0.take (((mn (s0.length : Int) (100 : Int))).toNat)).drop 0), ())) else none
def g (s0 : Str) : Option (Str × Unit) := f (1000 + s0.length) s0
end rivetlaw14_few

-- rivet/rivetref14.letter
namespace rivetref14_letter
def f (n : Nat) (c0 : Int) : Option (Bool × Unit) :=
    if (decide ((65 : Int) ≤ c0)) = true then 
    (if (decide (c0 ≤ (90 : Int))) = false then 
    (if (decide ((97 : Int) ≤ c0)) = true then 
    (if (decide (c0 ≤ (122 : Int))) = false then (some ((decide (c0 = (95 : Int))), ()))
    else (some (true, ())))
    else (some ((decide (c0 = (95 : Int))), ())))
    else (some (true, ())))
    else 
    (if (decide ((97 : Int) ≤ c0)) = true then 
    (if (decide (c0 ≤ (122 : Int))) = false then (some ((decide (c0 = (95 : Int))), ()))
    else (some (true, ())))
    else (some ((decide (c0 = (95 : Int))), ())))
def g (c0 : Int) : Option (Bool × Unit) := f (1000 + c0.toNat) c0
end rivetref14_letter

-- rivet/rivetref14.digit
namespace rivetref14_digit
def f (n : Nat) (c0 : Int) : Option (Bool × Unit) :=
    if (decide ((48 : Int) ≤ c0)) = true then (some ((decide (c0 ≤ (57 : Int))), ()))
    else (some (false, ()))
def g (c0 : Int) : Option (Bool × Unit) := f (1000 + c0.toNat) c0
end rivetref14_digit

-- rivet/rivetref14.word
namespace rivetref14_word
def j3 (n : Nat) (rl2 : Str → Int → Option (Int × Unit)) (s0 : Str) (n3 : Int) : Option (Int × Unit) :=
    rl2 s0 (IntKind.i64.wrap (n3 + (1 : Int)))
def l2 (n : Nat) : Nat → Str → Int → Option (Int × Unit)
  | 0, _, _ => none
  | m + 1, s0, n3 =>
    if (decide (n3 < (s0.length : Int))) = true then 
    (if 0 ≤ n3 ∧ n3 < (s0.length : Int) then 
    ((rivetref14_letter.g (bt s0 n3)).bind fun y1 =>
    if y1.1 = false then 
    (if 0 ≤ n3 ∧ n3 < (s0.length : Int) then 
    ((rivetref14_digit.g (bt s0 n3)).bind fun y2 =>
    if y2.1 = true then (rivetref14_word.j3 n (rivetref14_word.l2 n m) s0 n3)
    else (some (n3, ()))) else none)
    else (rivetref14_word.j3 n (rivetref14_word.l2 n m) s0 n3)) else none)
    else (some (n3, ()))
def f (n : Nat) (s0 : Str) : Option (Int × Unit) :=
    rivetref14_word.l2 n n s0 (0 : Int)
def g (s0 : Str) : Option (Int × Unit) := f (1000 + s0.length) s0
end rivetref14_word

-- rivet/rivetref14.sixteen
namespace rivetref14_sixteen
def f (n : Nat) (c0 : Int) : Option (Int × Bool × Unit) :=
    (rivetref14_digit.g c0).bind fun y1 =>
    if y1.1 = true then 
    (some ((IntKind.i64.wrap (IntKind.u8.wrap (c0 - (48 : Int)))), true, ()))
    else 
    (if (decide ((65 : Int) ≤ c0)) = true then 
    (if (decide (c0 ≤ (70 : Int))) = true then 
    (some ((IntKind.i64.wrap ((IntKind.i64.wrap (IntKind.u8.wrap (c0 - (65 : Int)))) + (10 : Int))), true, ()))
    else 
    (if (decide ((97 : Int) ≤ c0)) = true then 
    (if (decide (c0 ≤ (102 : Int))) = true then 
    (some ((IntKind.i64.wrap ((IntKind.i64.wrap (IntKind.u8.wrap (c0 - (97 : Int)))) + (10 : Int))), true, ()))
    else (some ((0 : Int), false, ())))
    else (some ((0 : Int), false, ()))))
    else 
    (if (decide ((97 : Int) ≤ c0)) = true then 
    (if (decide (c0 ≤ (102 : Int))) = true then 
    (some ((IntKind.i64.wrap ((IntKind.i64.wrap (IntKind.u8.wrap (c0 - (97 : Int)))) + (10 : Int))), true, ()))
    else (some ((0 : Int), false, ())))
    else (some ((0 : Int), false, ()))))
def g (c0 : Int) : Option (Int × Bool × Unit) := f (1000 + c0.toNat) c0
end rivetref14_sixteen

-- rivet/rivetref14.number
namespace rivetref14_number
def l8 (n : Nat) : Nat → Str → Int → Int → Int → Option (Int × Bool × Unit)
  | 0, _, _, _, _ => none
  | m + 1, s0, base4, n6, i7 =>
    if (decide (i7 < (s0.length : Int))) = true then 
    (if 0 ≤ i7 ∧ i7 < (s0.length : Int) then 
    ((rivetref14_sixteen.g (bt s0 i7)).bind fun y1 =>
    if (!y1.2.1) = false then 
    (if (decide (base4 ≤ y1.1)) = true then (some ((0 : Int), false, ()))
    else 
    (if (decide ((4294967296 : Int) ≤ (IntKind.i64.wrap ((IntKind.i64.wrap (n6 * base4)) + y1.1)))) = true then (some ((0 : Int), false, ()))
    else 
    ((rivetref14_number.l8 n m) s0 base4 (IntKind.i64.wrap ((IntKind.i64.wrap (n6 * base4)) + y1.1)) (IntKind.i64.wrap (i7 + (1 : Int))))))
    else (some ((0 : Int), false, ()))) else none)
    else (some ((IntKind.u32.wrap n6), true, ()))
def j6 (n : Nat) (s0 : Str) (base4 : Int) (from5 : Int) : Option (Int × Bool × Unit) :=
    rivetref14_number.l8 n n s0 base4 (0 : Int) from5
def f (n : Nat) (s0 : Str) : Option (Int × Bool × Unit) :=
    if (decide ((2 : Int) < (s0.length : Int))) = true then 
    (if 0 ≤ (0 : Int) ∧ (0 : Int) < (s0.length : Int) then 
    (if (decide ((bt s0 (0 : Int)) = (48 : Int))) = true then 
    (if 0 ≤ (1 : Int) ∧ (1 : Int) < (s0.length : Int) then 
    (if (decide ((bt s0 (1 : Int)) = (120 : Int))) = true then (rivetref14_number.j6 n s0 (16 : Int) (2 : Int))
    else (rivetref14_number.j6 n s0 (10 : Int) (0 : Int))) else none)
    else (rivetref14_number.j6 n s0 (10 : Int) (0 : Int))) else none)
    else (rivetref14_number.j6 n s0 (10 : Int) (0 : Int))
def g (s0 : Str) : Option (Int × Bool × Unit) := f (1000 + s0.length) s0
end rivetref14_number

-- rivet/rivetref14.sign
namespace rivetref14_sign
def l3 (n : Nat) : Nat → Int → Str → Int → Option (Bool × Unit)
  | 0, _, _, _ => none
  | m + 1, c0, all3, i4 =>
    if (decide (i4 < (all3.length : Int))) = true then 
    (if 0 ≤ i4 ∧ i4 < (all3.length : Int) then 
    (if (decide ((bt all3 i4) = c0)) = true then (some (true, ()))
    else 
    ((rivetref14_sign.l3 n m) c0 all3 (IntKind.i64.wrap (i4 + (1 : Int))))) else none)
    else (some (false, ()))
def f (n : Nat) (c0 : Int) : Option (Bool × Unit) :=
    rivetref14_sign.l3 n n c0 ([44, 58, 43, 45, 42, 40, 41, 61] : Str) (0 : Int)
def g (c0 : Int) : Option (Bool × Unit) := f (1000 + c0.toNat) c0
end rivetref14_sign

-- rivet/rivetref14.Line
namespace rivetref14_Line
def j26 (n : Nat) (rl3 : Str → (List (Int × Int × Str × Int × Unit)) → Int → Option ((List (Int × Int × Str × Int × Unit)) × Int × Unit)) (s0 : Str) (out4 : List (Int × Int × Str × Int × Unit)) (at5 : Int) (b0_0 : Int) (b0_1 : Int) (b0_2 : Str) (b0_3 : Int) : Option ((List (Int × Int × Str × Int × Unit)) × Int × Unit) :=
    if (out4.length + ([(b0_0, b0_1, b0_2, b0_3, ())] : List (Int × Int × Str × Int × Unit)).length) * 40 ≤ 140737488355328 ∧ 0 < 40 ∧ 0 < 4 then 
    (rl3 s0 (out4 ++ ([(b0_0, b0_1, b0_2, b0_3, ())] : List (Int × Int × Str × Int × Unit))) (IntKind.i64.wrap (at5 + (b0_2.length : Int)))) else none
def j25 (n : Nat) (rl3 : Str → (List (Int × Int × Str × Int × Unit)) → Int → Option ((List (Int × Int × Str × Int × Unit)) × Int × Unit)) (s0 : Str) (out4 : List (Int × Int × Str × Int × Unit)) (at5 : Int) (b0_0 : Int) (b0_1 : Int) (b0_2 : Str) (b0_3 : Int) : Option ((List (Int × Int × Str × Int × Unit)) × Int × Unit) :=
    if 0 ≤ (IntKind.i64.wrap (at5 + (1 : Int))) ∧ (IntKind.i64.wrap (at5 + (1 : Int))) ≤ (s0.length : Int) then 
    (if 0 ≤ at5 ∧ at5 ≤ (IntKind.i64.wrap (at5 + (1 : Int))) then 
    (rivetref14_Line.j26 n rl3 s0 out4 at5 b0_0 b0_1 ((s0.take (((IntKind.i64.wrap (at5 + (1 : Int)))).toNat)).drop ((at5).toNat)) b0_3) else none) else none
def l3 (n : Nat) : Nat → Str → (List (Int × Int × Str × Int × Unit)) → Int → Option ((List (Int × Int × Str × Int × Unit)) × Int × Unit)
  | 0, _, _, _ => none
  | m + 1, s0, out4, at5 =>
    if (decide (at5 < (s0.length : Int))) = true then 
    (if 0 ≤ at5 ∧ at5 < (s0.length : Int) then 
    (if (decide ((bt s0 at5) ≠ (59 : Int))) = true then 
    (if 0 ≤ at5 ∧ at5 < (s0.length : Int) then 
    (if (decide ((bt s0 at5) = (32 : Int))) = false then 
    (if (decide ((bt s0 at5) = (9 : Int))) = true then 
    ((rivetref14_Line.l3 n m) s0 out4 (IntKind.i64.wrap (at5 + (1 : Int))))
    else 
    ((rivetref14_letter.g (bt s0 at5)).bind fun y1 =>
    if y1.1 = true then 
    (if 0 ≤ at5 ∧ at5 ≤ (s0.length : Int) then 
    ((rivetref14_word.g ((s0.take (((s0.length : Int)).toNat)).drop ((at5).toNat))).bind fun y2 =>
    if 0 ≤ (IntKind.i64.wrap (at5 + y2.1)) ∧ (IntKind.i64.wrap (at5 + y2.1)) ≤ (s0.length : Int) then 
    (if 0 ≤ at5 ∧ at5 ≤ (IntKind.i64.wrap (at5 + y2.1)) then 
    (rivetref14_Line.j26 n (rivetref14_Line.l3 n m) s0 out4 at5 (1 : Int) at5 ((s0.take (((IntKind.i64.wrap (at5 + y2.1))).toNat)).drop ((at5).toNat)) 0) else none) else none) else none)
    else 
    ((rivetref14_digit.g (bt s0 at5)).bind fun y3 =>
    if y3.1 = true then 
    (if 0 ≤ at5 ∧ at5 ≤ (s0.length : Int) then 
    ((rivetref14_word.g ((s0.take (((s0.length : Int)).toNat)).drop ((at5).toNat))).bind fun y4 =>
    if 0 ≤ (IntKind.i64.wrap (at5 + y4.1)) ∧ (IntKind.i64.wrap (at5 + y4.1)) ≤ (s0.length : Int) then 
    (if 0 ≤ at5 ∧ at5 ≤ (IntKind.i64.wrap (at5 + y4.1)) then 
    ((rivetref14_number.g ((s0.take (((IntKind.i64.wrap (at5 + y4.1))).toNat)).drop ((at5).toNat))).bind fun y5 =>
    if (!y5.2.1) = true then (some ([], (21 : Int), ()))
    else 
    (rivetref14_Line.j26 n (rivetref14_Line.l3 n m) s0 out4 at5 (2 : Int) at5 ((s0.take (((IntKind.i64.wrap (at5 + y4.1))).toNat)).drop ((at5).toNat)) y5.1)) else none) else none) else none)
    else 
    (if (decide ((bt s0 at5) = (46 : Int))) = true then 
    (if (decide ((IntKind.i64.wrap (at5 + (1 : Int))) < (s0.length : Int))) = true then 
    (if 0 ≤ (IntKind.i64.wrap (at5 + (1 : Int))) ∧ (IntKind.i64.wrap (at5 + (1 : Int))) < (s0.length : Int) then 
    ((rivetref14_letter.g (bt s0 (IntKind.i64.wrap (at5 + (1 : Int))))).bind fun y6 =>
    if y6.1 = true then 
    (if 0 ≤ (IntKind.i64.wrap (at5 + (1 : Int))) ∧ (IntKind.i64.wrap (at5 + (1 : Int))) ≤ (s0.length : Int) then 
    ((rivetref14_word.g ((s0.take (((s0.length : Int)).toNat)).drop (((IntKind.i64.wrap (at5 + (1 : Int)))).toNat))).bind fun y7 =>
    if 0 ≤ (IntKind.i64.wrap ((IntKind.i64.wrap (at5 + (1 : Int))) + y7.1)) ∧ (IntKind.i64.wrap ((IntKind.i64.wrap (at5 + (1 : Int))) + y7.1)) ≤ (s0.length : Int) then 
    (if 0 ≤ (IntKind.i64.wrap (at5 + (1 : Int))) ∧ (IntKind.i64.wrap (at5 + (1 : Int))) ≤ (IntKind.i64.wrap ((IntKind.i64.wrap (at5 + (1 : Int))) + y7.1)) then 
    (rivetref14_Line.j26 n (rivetref14_Line.l3 n m) s0 out4 (IntKind.i64.wrap (at5 + (1 : Int))) (4 : Int) at5 ((s0.take (((IntKind.i64.wrap ((IntKind.i64.wrap (at5 + (1 : Int))) + y7.1))).toNat)).drop (((IntKind.i64.wrap (at5 + (1 : Int)))).toNat)) 0) else none) else none) else none)
    else 
    ((rivetref14_sign.g (bt s0 at5)).bind fun y8 =>
    if y8.1 = true then 
    (rivetref14_Line.j25 n (rivetref14_Line.l3 n m) s0 out4 at5 (3 : Int) at5 ([] : Str) 0)
    else (some ([], (20 : Int), ())))) else none)
    else 
    ((rivetref14_sign.g (bt s0 at5)).bind fun y9 =>
    if y9.1 = true then 
    (rivetref14_Line.j25 n (rivetref14_Line.l3 n m) s0 out4 at5 (3 : Int) at5 ([] : Str) 0)
    else (some ([], (20 : Int), ()))))
    else 
    ((rivetref14_sign.g (bt s0 at5)).bind fun y10 =>
    if y10.1 = true then 
    (rivetref14_Line.j25 n (rivetref14_Line.l3 n m) s0 out4 at5 (3 : Int) at5 ([] : Str) 0)
    else (some ([], (20 : Int), ())))))))
    else 
    ((rivetref14_Line.l3 n m) s0 out4 (IntKind.i64.wrap (at5 + (1 : Int))))) else none)
    else (some (out4, (0 : Int), ()))) else none)
    else (some (out4, (0 : Int), ()))
def f (n : Nat) (s0 : Str) : Option ((List (Int × Int × Str × Int × Unit)) × Int × Unit) :=
    rivetref14_Line.l3 n n s0 ([] : List (Int × Int × Str × Int × Unit)) (0 : Int)
def g (s0 : Str) : Option ((List (Int × Int × Str × Int × Unit)) × Int × Unit) := f (1000 + s0.length) s0
end rivetref14_Line

-- rivet/rivetref14.Same
namespace rivetref14_Same
def l4 (n : Nat) : Nat → (List (Int × Int × Str × Int × Unit)) → (List (Int × Int × Str × Int × Unit)) → Int → Option (Bool × Unit)
  | 0, _, _, _ => none
  | m + 1, a0, b1, i5 =>
    if (decide (i5 < (a0.length : Int))) = true then 
    (if 0 ≤ i5 ∧ i5 < (a0.length : Int) then 
    (if 0 ≤ i5 ∧ i5 < (b1.length : Int) then 
    (if (!(decide ((a0.getD (i5).toNat ((0 : Int), ((0 : Int), (([] : Str), ((0 : Int), ()))))).1 = (b1.getD (i5).toNat ((0 : Int), ((0 : Int), (([] : Str), ((0 : Int), ()))))).1) && (decide (((a0.getD (i5).toNat ((0 : Int), ((0 : Int), (([] : Str), ((0 : Int), ()))))).2).1 = ((b1.getD (i5).toNat ((0 : Int), ((0 : Int), (([] : Str), ((0 : Int), ()))))).2).1) && (decide ((((a0.getD (i5).toNat ((0 : Int), ((0 : Int), (([] : Str), ((0 : Int), ()))))).2).2).1 = (((b1.getD (i5).toNat ((0 : Int), ((0 : Int), (([] : Str), ((0 : Int), ()))))).2).2).1) && (decide (((((a0.getD (i5).toNat ((0 : Int), ((0 : Int), (([] : Str), ((0 : Int), ()))))).2).2).2).1 = ((((b1.getD (i5).toNat ((0 : Int), ((0 : Int), (([] : Str), ((0 : Int), ()))))).2).2).2).1) && true))))) = true then (some (false, ()))
    else 
    ((rivetref14_Same.l4 n m) a0 b1 (IntKind.i64.wrap (i5 + (1 : Int))))) else none) else none)
    else (some (true, ()))
def f (n : Nat) (a0 : List (Int × Int × Str × Int × Unit)) (b1 : List (Int × Int × Str × Int × Unit)) : Option (Bool × Unit) :=
    if (decide ((a0.length : Int) ≠ (b1.length : Int))) = true then (some (false, ()))
    else (rivetref14_Same.l4 n n a0 b1 (0 : Int))
def g (a0 : List (Int × Int × Str × Int × Unit)) (b1 : List (Int × Int × Str × Int × Unit)) : Option (Bool × Unit) := f (1000 + a0.length + b1.length) a0 b1
end rivetref14_Same

-- rivet/rivetlaw14.short
namespace rivetlaw14_short
def l3 (n : Nat) : Nat → (List (Int × Int × Str × Int × Unit)) → (List (Int × Int × Str × Int × Unit)) → Int → Option ((List (Int × Int × Str × Int × Unit)) × Unit)
  | 0, _, _, _ => none
  | m + 1, l0, out3, i4 =>
    if (decide (i4 < (l0.length : Int))) = true then 
    (if (decide (i4 < (30 : Int))) = true then 
    (if 0 ≤ i4 ∧ i4 < (l0.length : Int) then 
    (if 0 ≤ (mn (((((l0.getD (i4).toNat ((0 : Int), ((0 : Int), (([] : Str), ((0 : Int), ()))))).2).2).1).length : Int) (20 : Int)) ∧ (mn (((((l0.getD (i4).toNat ((0 : Int), ((0 : Int), (([] : Str), ((0 : Int), ()))))).2).2).1).length : Int) (20 : Int)) ≤ (((((l0.getD (i4).toNat ((0 : Int), ((0 : Int), (([] : Str), ((0 : Int), ()))))).2).2).1).length : Int) then 
    (if (out3.length + ([((l0.getD (i4).toNat ((0 : Int), ((0 : Int), (([] : Str), ((0 : Int), ()))))).1, ((l0.getD (i4).toNat ((0 : Int), ((0 : Int), (([] : Str), ((0 : Int), ()))))).2).1, ((((((l0.getD (i4).toNat ((0 : Int), ((0 : Int), (([] : Str), ((0 : Int), ()))))).2).2).1).take (((mn (((((l0.getD (i4).toNat ((0 : Int), ((0 : Int), (([] : Str), ((0 : Int), ()))))).2).2).1).length : Int) (20 : Int))).toNat)).drop 0), ((((l0.getD (i4).toNat ((0 : Int), ((0 : Int), (([] : Str), ((0 : Int), ()))))).2).2).2).1, ())] : List (Int × Int × Str × Int × Unit)).length) * 40 ≤ 140737488355328 ∧ 0 < 40 ∧ 0 < 4 then 
    ((rivetlaw14_short.l3 n m) l0 (out3 ++ ([((l0.getD (i4).toNat ((0 : Int), ((0 : Int), (([] : Str), ((0 : Int), ()))))).1, ((l0.getD (i4).toNat ((0 : Int), ((0 : Int), (([] : Str), ((0 : Int), ()))))).2).1, ((((((l0.getD (i4).toNat ((0 : Int), ((0 : Int), (([] : Str), ((0 : Int), ()))))).2).2).1).take (((mn (((((l0.getD (i4).toNat ((0 : Int), ((0 : Int), (([] : Str), ((0 : Int), ()))))).2).2).1).length : Int) (20 : Int))).toNat)).drop 0), ((((l0.getD (i4).toNat ((0 : Int), ((0 : Int), (([] : Str), ((0 : Int), ()))))).2).2).2).1, ())] : List (Int × Int × Str × Int × Unit))) (IntKind.i64.wrap (i4 + (1 : Int)))) else none) else none) else none)
    else (some (out3, ())))
    else (some (out3, ()))
def f (n : Nat) (l0 : List (Int × Int × Str × Int × Unit)) : Option ((List (Int × Int × Str × Int × Unit)) × Unit) :=
    rivetlaw14_short.l3 n n l0 ([] : List (Int × Int × Str × Int × Unit)) (0 : Int)
def g (l0 : List (Int × Int × Str × Int × Unit)) : Option ((List (Int × Int × Str × Int × Unit)) × Unit) := f (1000 + l0.length) l0
end rivetlaw14_short

-- rivet/rivetref14.Join
namespace rivetref14_Join
def j7 (n : Nat) (rl3 : (List (Int × Int × Str × Int × Unit)) → Str → Int → Option (Str × Unit)) (l0 : List (Int × Int × Str × Int × Unit)) (out3 : Str) (i4 : Int) : Option (Str × Unit) :=
    if 0 ≤ i4 ∧ i4 < (l0.length : Int) then 
    (if out3.length + ((((l0.getD (i4).toNat ((0 : Int), ((0 : Int), (([] : Str), ((0 : Int), ()))))).2).2).1).length ≤ 9223372036854775807 then 
    (if (out3 ++ (((l0.getD (i4).toNat ((0 : Int), ((0 : Int), (([] : Str), ((0 : Int), ()))))).2).2).1).length + ([32] : Str).length ≤ 9223372036854775807 then 
    (rl3 l0 ((out3 ++ (((l0.getD (i4).toNat ((0 : Int), ((0 : Int), (([] : Str), ((0 : Int), ()))))).2).2).1) ++ ([32] : Str)) (IntKind.i64.wrap (i4 + (1 : Int)))) else none) else none) else none
def l3 (n : Nat) : Nat → (List (Int × Int × Str × Int × Unit)) → Str → Int → Option (Str × Unit)
  | 0, _, _, _ => none
  | m + 1, l0, out3, i4 =>
    if (decide (i4 < (l0.length : Int))) = true then 
    (if 0 ≤ i4 ∧ i4 < (l0.length : Int) then 
    (if (decide ((l0.getD (i4).toNat ((0 : Int), ((0 : Int), (([] : Str), ((0 : Int), ()))))).1 = (4 : Int))) = true then 
    (if out3.length + ([46] : Str).length ≤ 9223372036854775807 then 
    (rivetref14_Join.j7 n (rivetref14_Join.l3 n m) l0 (out3 ++ ([46] : Str)) i4) else none)
    else 
    (rivetref14_Join.j7 n (rivetref14_Join.l3 n m) l0 out3 i4)) else none)
    else (some (out3, ()))
def f (n : Nat) (l0 : List (Int × Int × Str × Int × Unit)) : Option (Str × Unit) :=
    rivetref14_Join.l3 n n l0 ([] : Str) (0 : Int)
def g (l0 : List (Int × Int × Str × Int × Unit)) : Option (Str × Unit) := f (1000 + l0.length) l0
end rivetref14_Join

-- rivet/rivetlaw14.ScanAll
namespace rivetlaw14_ScanAll
def f (n : Nat) (s0 : Str) (l1 : List (Int × Int × Str × Int × Unit)) : Option (Bool × Unit) :=
    (rivetlaw14_shown.g).bind fun y1 =>
    (rivetlaw14_few.g s0).bind fun y2 =>
    (scan_Line.g y2.1).bind fun y3 =>
    (rivetlaw14_few.g s0).bind fun y4 =>
    (rivetref14_Line.g y4.1).bind fun y5 =>
    if y1.1 = true then 
    ((rivetref14_Same.g y3.1 y5.1).bind fun y6 =>
    if y6.1 = true then 
    (if (decide (y3.2.1 = y5.2.1)) = true then 
    ((rivetlaw14_short.g l1).bind fun y7 =>
    (L.joinO y7.1).bind fun y8 =>
    (rivetlaw14_short.g l1).bind fun y9 =>
    (rivetref14_Join.g y9.1).bind fun y10 =>
    some ((decide (y8.1 = y10.1)), ()))
    else (some (false, ())))
    else (some (false, ())))
    else (some (false, ()))
def g (s0 : Str) (l1 : List (Int × Int × Str × Int × Unit)) : Option (Bool × Unit) := f (1000 + s0.length + l1.length) s0 l1
end rivetlaw14_ScanAll

-- rivet/rivetlaw14.ScanBack
namespace rivetlaw14_ScanBack
def j19 (n : Nat) (rl12 : (List (Int × Int × Str × Int × Unit)) → (List (Int × Int × Str × Int × Unit)) → (List (Int × Int × Str × Int × Unit)) → Int → Int → Option (Bool × Unit)) (l6 : List (Int × Int × Str × Int × Unit)) (m9 : List (Int × Int × Str × Int × Unit)) (k11 : List (Int × Int × Str × Int × Unit)) (at13 : Int) (i14 : Int) (b0_0 : Int) (b0_1 : Int) (b0_2 : Str) (b0_3 : Int) : Option (Bool × Unit) :=
    if 0 ≤ i14 ∧ i14 < (m9.length : Int) then 
    (if (!(decide ((m9.getD (i14).toNat ((0 : Int), ((0 : Int), (([] : Str), ((0 : Int), ()))))).1 = b0_0) && (decide (((m9.getD (i14).toNat ((0 : Int), ((0 : Int), (([] : Str), ((0 : Int), ()))))).2).1 = b0_1) && (decide ((((m9.getD (i14).toNat ((0 : Int), ((0 : Int), (([] : Str), ((0 : Int), ()))))).2).2).1 = b0_2) && (decide (((((m9.getD (i14).toNat ((0 : Int), ((0 : Int), (([] : Str), ((0 : Int), ()))))).2).2).2).1 = b0_3) && true))))) = false then 
    (if 0 ≤ i14 ∧ i14 < (k11.length : Int) then 
    (if (!(decide ((k11.getD (i14).toNat ((0 : Int), ((0 : Int), (([] : Str), ((0 : Int), ()))))).1 = b0_0) && (decide (((k11.getD (i14).toNat ((0 : Int), ((0 : Int), (([] : Str), ((0 : Int), ()))))).2).1 = b0_1) && (decide ((((k11.getD (i14).toNat ((0 : Int), ((0 : Int), (([] : Str), ((0 : Int), ()))))).2).2).1 = b0_2) && (decide (((((k11.getD (i14).toNat ((0 : Int), ((0 : Int), (([] : Str), ((0 : Int), ()))))).2).2).2).1 = b0_3) && true))))) = true then (some (false, ()))
    else (rl12 l6 m9 k11 at13 (IntKind.i64.wrap (i14 + (1 : Int))))) else none)
    else (some (false, ()))) else none
def l12 (n : Nat) : Nat → (List (Int × Int × Str × Int × Unit)) → (List (Int × Int × Str × Int × Unit)) → (List (Int × Int × Str × Int × Unit)) → Int → Int → Option (Bool × Unit)
  | 0, _, _, _, _, _ => none
  | m + 1, l6, m9, k11, at13, i14 =>
    if (decide (i14 < (l6.length : Int))) = true then 
    (if 0 ≤ i14 ∧ i14 < (l6.length : Int) then 
    (if (decide ((l6.getD (i14).toNat ((0 : Int), ((0 : Int), (([] : Str), ((0 : Int), ()))))).1 = (4 : Int))) = true then 
    (rivetlaw14_ScanBack.j19 n (rivetlaw14_ScanBack.l12 n m) l6 m9 k11 (IntKind.i64.wrap ((IntKind.i64.wrap ((IntKind.i64.wrap (at13 + (((((l6.getD (i14).toNat ((0 : Int), ((0 : Int), (([] : Str), ((0 : Int), ()))))).2).2).1).length : Int))) + (1 : Int))) + (1 : Int))) i14 ((l6.getD (i14).toNat ((0 : Int), ((0 : Int), (([] : Str), ((0 : Int), ()))))).1) at13 ((((l6.getD (i14).toNat ((0 : Int), ((0 : Int), (([] : Str), ((0 : Int), ()))))).2).2).1) (((((l6.getD (i14).toNat ((0 : Int), ((0 : Int), (([] : Str), ((0 : Int), ()))))).2).2).2).1))
    else 
    (rivetlaw14_ScanBack.j19 n (rivetlaw14_ScanBack.l12 n m) l6 m9 k11 (IntKind.i64.wrap ((IntKind.i64.wrap (at13 + (((((l6.getD (i14).toNat ((0 : Int), ((0 : Int), (([] : Str), ((0 : Int), ()))))).2).2).1).length : Int))) + (1 : Int))) i14 ((l6.getD (i14).toNat ((0 : Int), ((0 : Int), (([] : Str), ((0 : Int), ()))))).1) at13 ((((l6.getD (i14).toNat ((0 : Int), ((0 : Int), (([] : Str), ((0 : Int), ()))))).2).2).1) (((((l6.getD (i14).toNat ((0 : Int), ((0 : Int), (([] : Str), ((0 : Int), ()))))).2).2).2).1))) else none)
    else (some (true, ()))
def f (n : Nat) (s0 : Str) (behind1 : Str) : Option (Bool × Unit) :=
    (rivetlaw14_shown.g).bind fun y1 =>
    (rivetlaw14_few.g s0).bind fun y2 =>
    (scan_Line.g y2.1).bind fun y3 =>
    (L.joinO y3.1).bind fun y4 =>
    (scan_Line.g y4.1).bind fun y5 =>
    if y4.1.length + ([59] : Str).length ≤ 9223372036854775807 then 
    ((rivetlaw14_few.g behind1).bind fun y6 =>
    if (y4.1 ++ ([59] : Str)).length + y6.1.length ≤ 9223372036854775807 then 
    ((scan_Line.g ((y4.1 ++ ([59] : Str)) ++ y6.1)).bind fun y7 =>
    if (decide (y3.2.1 ≠ (0 : Int))) = true then 
    (if y1.1 = true then 
    (if (decide ((y3.1.length : Int) = (0 : Int))) = true then 
    (if (decide (y3.2.1 = (20 : Int))) = false then (some ((decide (y3.2.1 = (21 : Int))), ()))
    else (some (true, ())))
    else (some (false, ())))
    else (some (false, ())))
    else 
    (if (!y1.1) = false then 
    (if (decide (y5.2.1 ≠ (0 : Int))) = false then 
    (if (decide (y7.2.1 ≠ (0 : Int))) = false then 
    (if (decide ((y5.1.length : Int) ≠ (y3.1.length : Int))) = false then 
    (if (decide ((y7.1.length : Int) ≠ (y3.1.length : Int))) = true then (some (false, ()))
    else 
    (rivetlaw14_ScanBack.l12 n n y3.1 y5.1 y7.1 (0 : Int) (0 : Int)))
    else (some (false, ())))
    else (some (false, ())))
    else (some (false, ())))
    else (some (false, ())))) else none) else none
def g (s0 : Str) (behind1 : Str) : Option (Bool × Unit) := f (1000 + s0.length + behind1.length) s0 behind1
end rivetlaw14_ScanBack

end Rv
