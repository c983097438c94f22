/- The functions' plain texts, printed by gen.py (a program of this work's own). -/
import Derived.Test.YtchahhlcmabmaaaGreatDoorRvA
import Derived.Test.YtchahhlcmabmaaaGreatDoorRvL0
set_option linter.all false
namespace Rv
open Go
set_option maxRecDepth 100000
set_option linter.unusedVariables false

-- rivet/scan.letter
namespace scan_letter
def f (n : Nat) (c0 : Int) : Option (Bool × Unit) :=
    if (decide ((65 : Int) ≤ c0)) = true then 
    (if (decide (c0 ≤ (90 : Int))) = false then 
    (if (decide ((97 : Int) ≤ c0)) = true then 
    (if (decide (c0 ≤ (122 : Int))) = false then (some ((decide (c0 = (95 : Int))), ()))
    else (some (true, ())))
    else (some ((decide (c0 = (95 : Int))), ())))
    else (some (true, ())))
    else 
    (if (decide ((97 : Int) ≤ c0)) = true then 
    (if (decide (c0 ≤ (122 : Int))) = false then (some ((decide (c0 = (95 : Int))), ()))
    else (some (true, ())))
    else (some ((decide (c0 = (95 : Int))), ())))
def g (c0 : Int) : Option (Bool × Unit) := f (1000 + c0.toNat) c0
end scan_letter

-- rivet/scan.digit
namespace scan_digit
def f (n : Nat) (c0 : Int) : Option (Bool × Unit) :=
    if (decide ((48 : Int) ≤ c0)) = true then (some ((decide (c0 ≤ (57 : Int))), ()))
    else (some (false, ()))
def g (c0 : Int) : Option (Bool × Unit) := f (1000 + c0.toNat) c0
end scan_digit

-- rivet/scan.word
namespace scan_word
def j3 (n : Nat) (rl2 : Str → Int → Option (Str × Unit)) (s0 : Str) (n3 : Int) : Option (Str × Unit) :=
    rl2 s0 (IntKind.i64.wrap (n3 + (1 : Int)))
def j4 (n : Nat) (s0 : Str) (n3 : Int) : Option (Str × Unit) :=
    if 0 ≤ n3 ∧ n3 ≤ (s0.length : Int) then (some (((s0.take ((n3).toNat)).drop 0), ())) else none
def l2 (n : Nat) : Nat → Str → Int → Option (Str × Unit)
  | 0, _, _ => none
  | m + 1, s0, n3 =>
    if (decide (n3 < (s0.length : Int))) = true then 
    (if 0 ≤ n3 ∧ n3 < (s0.length : Int) then 
    ((scan_letter.g (bt s0 n3)).bind fun y1 =>
    if y1.1 = false then 
    (if 0 ≤ n3 ∧ n3 < (s0.length : Int) then 
    ((scan_digit.g (bt s0 n3)).bind fun y2 =>
    if y2.1 = true then (scan_word.j3 n (scan_word.l2 n m) s0 n3)
    else (scan_word.j4 n s0 n3)) else none)
    else (scan_word.j3 n (scan_word.l2 n m) s0 n3)) else none)
    else (scan_word.j4 n s0 n3)
def f (n : Nat) (s0 : Str) : Option (Str × Unit) :=
    scan_word.l2 n n s0 (0 : Int)
def g (s0 : Str) : Option (Str × Unit) := f (1000 + s0.length) s0
end scan_word

-- internal/strconv.lower
namespace internal_strconv_lower
def f (n : Nat) (c0 : Int) : Option (Int × Unit) :=
    some ((bitsI .or .u8 c0 (32 : Int)), ())
def g (c0 : Int) : Option (Int × Unit) := f (1000 + c0.toNat) c0
end internal_strconv_lower

-- internal/strconv.ParseUint
namespace internal_strconv_ParseUint
def j55 (n : Nat) (rl36 : Int → Bool → Str → Int → Int → Bool → Int → (List Int) → Int → Int → Option (Int × (Option Int) × Unit)) (base1 : Int) (base08 : Bool) (s09 : Str) (cutoff10 : Int) (maxVal11 : Int) (underscores12 : Bool) (n13 : Int) (t99 : List Int) (t100 : Int) (t101 : Int) : Option (Int × (Option Int) × Unit) :=
    rl36 base1 base08 s09 cutoff10 maxVal11 underscores12 n13 t99 t100 (IntKind.i64.wrap (t101 + (1 : Int)))
def j46 (n : Nat) (rl36 : Int → Bool → Str → Int → Int → Bool → Int → (List Int) → Int → Int → Option (Int × (Option Int) × Unit)) (base1 : Int) (base08 : Bool) (s09 : Str) (cutoff10 : Int) (maxVal11 : Int) (underscores12 : Bool) (n13 : Int) (d16 : Int) (t99 : List Int) (t100 : Int) (t101 : Int) : Option (Int × (Option Int) × Unit) :=
    if (decide ((IntKind.u8.wrap base1) ≤ d16)) = true then (some ((0 : Int), (some (2 : Int)), ()))
    else 
    (if (decide (cutoff10 ≤ n13)) = true then (some (maxVal11, (some (1 : Int)), ()))
    else 
    (if (decide ((IntKind.u64.wrap ((IntKind.u64.wrap (n13 * (IntKind.u64.wrap base1))) + (IntKind.u64.wrap d16))) < (IntKind.u64.wrap (n13 * (IntKind.u64.wrap base1))))) = false then 
    (if (decide (maxVal11 < (IntKind.u64.wrap ((IntKind.u64.wrap (n13 * (IntKind.u64.wrap base1))) + (IntKind.u64.wrap d16))))) = true then (some (maxVal11, (some (1 : Int)), ()))
    else 
    (internal_strconv_ParseUint.j55 n rl36 base1 base08 s09 cutoff10 maxVal11 underscores12 (IntKind.u64.wrap ((IntKind.u64.wrap (n13 * (IntKind.u64.wrap base1))) + (IntKind.u64.wrap d16))) t99 t100 t101))
    else (some (maxVal11, (some (1 : Int)), ()))))
def l36 (n : Nat) : Nat → Int → Bool → Str → Int → Int → Bool → Int → (List Int) → Int → Int → Option (Int × (Option Int) × Unit)
  | 0, _, _, _, _, _, _, _, _, _, _ => none
  | m + 1, base1, base08, s09, cutoff10, maxVal11, underscores12, n13, t99, t100, t101 =>
    if (decide (t101 < t100)) = true then 
    (if 0 ≤ t101 ∧ t101 < (t99.length : Int) then 
    (if (decide ((t99.getD (t101).toNat (0 : Int)) = (95 : Int))) = true then 
    (if base08 = true then 
    (internal_strconv_ParseUint.j55 n (internal_strconv_ParseUint.l36 n m) base1 base08 s09 cutoff10 maxVal11 true n13 t99 t100 t101)
    else 
    (if (decide ((48 : Int) ≤ (t99.getD (t101).toNat (0 : Int)))) = true then 
    (if (decide ((t99.getD (t101).toNat (0 : Int)) ≤ (57 : Int))) = true then 
    (internal_strconv_ParseUint.j46 n (internal_strconv_ParseUint.l36 n m) base1 base08 s09 cutoff10 maxVal11 underscores12 n13 (IntKind.u8.wrap ((t99.getD (t101).toNat (0 : Int)) - (48 : Int))) t99 t100 t101)
    else 
    ((internal_strconv_lower.g (t99.getD (t101).toNat (0 : Int))).bind fun y1 =>
    if (decide ((97 : Int) ≤ y1.1)) = true then 
    ((internal_strconv_lower.g (t99.getD (t101).toNat (0 : Int))).bind fun y2 =>
    if (decide (y2.1 ≤ (122 : Int))) = true then 
    ((internal_strconv_lower.g (t99.getD (t101).toNat (0 : Int))).bind fun y3 =>
    internal_strconv_ParseUint.j46 n (internal_strconv_ParseUint.l36 n m) base1 base08 s09 cutoff10 maxVal11 underscores12 n13 (IntKind.u8.wrap ((IntKind.u8.wrap (y3.1 - (97 : Int))) + (10 : Int))) t99 t100 t101)
    else (some ((0 : Int), (some (2 : Int)), ())))
    else (some ((0 : Int), (some (2 : Int)), ()))))
    else 
    ((internal_strconv_lower.g (t99.getD (t101).toNat (0 : Int))).bind fun y4 =>
    if (decide ((97 : Int) ≤ y4.1)) = true then 
    ((internal_strconv_lower.g (t99.getD (t101).toNat (0 : Int))).bind fun y5 =>
    if (decide (y5.1 ≤ (122 : Int))) = true then 
    ((internal_strconv_lower.g (t99.getD (t101).toNat (0 : Int))).bind fun y6 =>
    internal_strconv_ParseUint.j46 n (internal_strconv_ParseUint.l36 n m) base1 base08 s09 cutoff10 maxVal11 underscores12 n13 (IntKind.u8.wrap ((IntKind.u8.wrap (y6.1 - (97 : Int))) + (10 : Int))) t99 t100 t101)
    else (some ((0 : Int), (some (2 : Int)), ())))
    else (some ((0 : Int), (some (2 : Int)), ())))))
    else 
    (if (decide ((48 : Int) ≤ (t99.getD (t101).toNat (0 : Int)))) = true then 
    (if (decide ((t99.getD (t101).toNat (0 : Int)) ≤ (57 : Int))) = true then 
    (internal_strconv_ParseUint.j46 n (internal_strconv_ParseUint.l36 n m) base1 base08 s09 cutoff10 maxVal11 underscores12 n13 (IntKind.u8.wrap ((t99.getD (t101).toNat (0 : Int)) - (48 : Int))) t99 t100 t101)
    else 
    ((internal_strconv_lower.g (t99.getD (t101).toNat (0 : Int))).bind fun y7 =>
    if (decide ((97 : Int) ≤ y7.1)) = true then 
    ((internal_strconv_lower.g (t99.getD (t101).toNat (0 : Int))).bind fun y8 =>
    if (decide (y8.1 ≤ (122 : Int))) = true then 
    ((internal_strconv_lower.g (t99.getD (t101).toNat (0 : Int))).bind fun y9 =>
    internal_strconv_ParseUint.j46 n (internal_strconv_ParseUint.l36 n m) base1 base08 s09 cutoff10 maxVal11 underscores12 n13 (IntKind.u8.wrap ((IntKind.u8.wrap (y9.1 - (97 : Int))) + (10 : Int))) t99 t100 t101)
    else (some ((0 : Int), (some (2 : Int)), ())))
    else (some ((0 : Int), (some (2 : Int)), ()))))
    else 
    ((internal_strconv_lower.g (t99.getD (t101).toNat (0 : Int))).bind fun y10 =>
    if (decide ((97 : Int) ≤ y10.1)) = true then 
    ((internal_strconv_lower.g (t99.getD (t101).toNat (0 : Int))).bind fun y11 =>
    if (decide (y11.1 ≤ (122 : Int))) = true then 
    ((internal_strconv_lower.g (t99.getD (t101).toNat (0 : Int))).bind fun y12 =>
    internal_strconv_ParseUint.j46 n (internal_strconv_ParseUint.l36 n m) base1 base08 s09 cutoff10 maxVal11 underscores12 n13 (IntKind.u8.wrap ((IntKind.u8.wrap (y12.1 - (97 : Int))) + (10 : Int))) t99 t100 t101)
    else (some ((0 : Int), (some (2 : Int)), ())))
    else (some ((0 : Int), (some (2 : Int)), ()))))) else none)
    else 
    (if underscores12 = true then 
    ((L.underscoreO s09).bind fun y13 =>
    if (!y13.1) = true then (some ((0 : Int), (some (2 : Int)), ()))
    else (some (n13, none, ())))
    else (some (n13, none, ())))
def j32 (n : Nat) (s0 : Str) (base1 : Int) (bitSize2 : Int) (base08 : Bool) (s09 : Str) (cutoff10 : Int) : Option (Int × (Option Int) × Unit) :=
    if (IntKind.u64.wrap bitSize2) < 0 then none else 
    (internal_strconv_ParseUint.l36 n n base1 base08 s09 cutoff10 (IntKind.u64.wrap ((IntKind.u64.wrap ((1 : Int) * 2 ^ (min (IntKind.u64.wrap bitSize2).toNat IntKind.u64.bits))) - (1 : Int))) false (0 : Int) (s0.map fun b => (b.toNat : Int)) ((s0.map fun b => (b.toNat : Int)).length : Int) (0 : Int))
def j25 (n : Nat) (s0 : Str) (base1 : Int) (bitSize2 : Int) (base08 : Bool) (s09 : Str) : Option (Int × (Option Int) × Unit) :=
    if (decide (base1 = (10 : Int))) = true then 
    (internal_strconv_ParseUint.j32 n s0 base1 bitSize2 base08 s09 (1844674407370955162 : Int))
    else 
    (if (decide (base1 = (16 : Int))) = true then 
    (internal_strconv_ParseUint.j32 n s0 base1 bitSize2 base08 s09 (1152921504606846976 : Int))
    else 
    (if (IntKind.u64.wrap base1) = 0 then none else 
    (internal_strconv_ParseUint.j32 n s0 base1 bitSize2 base08 s09 (IntKind.u64.wrap ((IntKind.u64.wrap (Int.tdiv (18446744073709551615 : Int) (IntKind.u64.wrap base1))) + (1 : Int))))))
def j21 (n : Nat) (s0 : Str) (base1 : Int) (bitSize2 : Int) (base08 : Bool) (s09 : Str) : Option (Int × (Option Int) × Unit) :=
    if (decide (bitSize2 = (0 : Int))) = true then 
    (internal_strconv_ParseUint.j25 n s0 base1 (64 : Int) base08 s09)
    else 
    (if (decide (bitSize2 < (0 : Int))) = false then 
    (if (decide ((64 : Int) < bitSize2)) = true then (some ((0 : Int), (some (4 : Int)), ()))
    else 
    (internal_strconv_ParseUint.j25 n s0 base1 bitSize2 base08 s09))
    else (some ((0 : Int), (some (4 : Int)), ())))
def j17 (n : Nat) (s0 : Str) (base1 : Int) (bitSize2 : Int) (base08 : Bool) (s09 : Str) : Option (Int × (Option Int) × Unit) :=
    if 0 ≤ (2 : Int) ∧ (2 : Int) ≤ (s0.length : Int) then 
    (internal_strconv_ParseUint.j21 n ((s0.take (((s0.length : Int)).toNat)).drop (((2 : Int)).toNat)) base1 bitSize2 base08 s09) else none
def j20 (n : Nat) (s0 : Str) (base1 : Int) (bitSize2 : Int) (base08 : Bool) (s09 : Str) : Option (Int × (Option Int) × Unit) :=
    if 0 ≤ (2 : Int) ∧ (2 : Int) ≤ (s0.length : Int) then 
    (internal_strconv_ParseUint.j21 n ((s0.take (((s0.length : Int)).toNat)).drop (((2 : Int)).toNat)) base1 bitSize2 base08 s09) else none
def j11 (n : Nat) (s0 : Str) (base1 : Int) (bitSize2 : Int) (base08 : Bool) (s09 : Str) : Option (Int × (Option Int) × Unit) :=
    if 0 ≤ (1 : Int) ∧ (1 : Int) ≤ (s0.length : Int) then 
    (internal_strconv_ParseUint.j21 n ((s0.take (((s0.length : Int)).toNat)).drop (((1 : Int)).toNat)) base1 bitSize2 base08 s09) else none
def j9 (n : Nat) (s0 : Str) (base1 : Int) (bitSize2 : Int) (base08 : Bool) (s09 : Str) : Option (Int × (Option Int) × Unit) :=
    if 0 ≤ (0 : Int) ∧ (0 : Int) < (s0.length : Int) then 
    (if (decide ((bt s0 (0 : Int)) = (48 : Int))) = true then 
    (if (decide ((3 : Int) ≤ (s0.length : Int))) = true then 
    (if 0 ≤ (1 : Int) ∧ (1 : Int) < (s0.length : Int) then 
    ((internal_strconv_lower.g (bt s0 (1 : Int))).bind fun y1 =>
    if (decide (y1.1 = (98 : Int))) = true then 
    (if 0 ≤ (2 : Int) ∧ (2 : Int) ≤ (s0.length : Int) then 
    (internal_strconv_ParseUint.j21 n ((s0.take (((s0.length : Int)).toNat)).drop (((2 : Int)).toNat)) (2 : Int) bitSize2 base08 s09) else none)
    else 
    (if (decide ((3 : Int) ≤ (s0.length : Int))) = true then 
    (if 0 ≤ (1 : Int) ∧ (1 : Int) < (s0.length : Int) then 
    ((internal_strconv_lower.g (bt s0 (1 : Int))).bind fun y2 =>
    if (decide (y2.1 = (111 : Int))) = true then 
    (internal_strconv_ParseUint.j17 n s0 (8 : Int) bitSize2 base08 s09)
    else 
    (if (decide ((3 : Int) ≤ (s0.length : Int))) = true then 
    (if 0 ≤ (1 : Int) ∧ (1 : Int) < (s0.length : Int) then 
    ((internal_strconv_lower.g (bt s0 (1 : Int))).bind fun y3 =>
    if (decide (y3.1 = (120 : Int))) = true then 
    (internal_strconv_ParseUint.j20 n s0 (16 : Int) bitSize2 base08 s09)
    else 
    (internal_strconv_ParseUint.j11 n s0 (8 : Int) bitSize2 base08 s09)) else none)
    else 
    (internal_strconv_ParseUint.j11 n s0 (8 : Int) bitSize2 base08 s09))) else none)
    else 
    (if (decide ((3 : Int) ≤ (s0.length : Int))) = true then 
    (if 0 ≤ (1 : Int) ∧ (1 : Int) < (s0.length : Int) then 
    ((internal_strconv_lower.g (bt s0 (1 : Int))).bind fun y4 =>
    if (decide (y4.1 = (120 : Int))) = true then 
    (internal_strconv_ParseUint.j20 n s0 (16 : Int) bitSize2 base08 s09)
    else 
    (internal_strconv_ParseUint.j11 n s0 (8 : Int) bitSize2 base08 s09)) else none)
    else 
    (internal_strconv_ParseUint.j11 n s0 (8 : Int) bitSize2 base08 s09)))) else none)
    else 
    (if (decide ((3 : Int) ≤ (s0.length : Int))) = true then 
    (if 0 ≤ (1 : Int) ∧ (1 : Int) < (s0.length : Int) then 
    ((internal_strconv_lower.g (bt s0 (1 : Int))).bind fun y5 =>
    if (decide (y5.1 = (111 : Int))) = true then 
    (internal_strconv_ParseUint.j17 n s0 (8 : Int) bitSize2 base08 s09)
    else 
    (if (decide ((3 : Int) ≤ (s0.length : Int))) = true then 
    (if 0 ≤ (1 : Int) ∧ (1 : Int) < (s0.length : Int) then 
    ((internal_strconv_lower.g (bt s0 (1 : Int))).bind fun y6 =>
    if (decide (y6.1 = (120 : Int))) = true then 
    (internal_strconv_ParseUint.j20 n s0 (16 : Int) bitSize2 base08 s09)
    else 
    (internal_strconv_ParseUint.j11 n s0 (8 : Int) bitSize2 base08 s09)) else none)
    else 
    (internal_strconv_ParseUint.j11 n s0 (8 : Int) bitSize2 base08 s09))) else none)
    else 
    (if (decide ((3 : Int) ≤ (s0.length : Int))) = true then 
    (if 0 ≤ (1 : Int) ∧ (1 : Int) < (s0.length : Int) then 
    ((internal_strconv_lower.g (bt s0 (1 : Int))).bind fun y7 =>
    if (decide (y7.1 = (120 : Int))) = true then 
    (internal_strconv_ParseUint.j20 n s0 (16 : Int) bitSize2 base08 s09)
    else 
    (internal_strconv_ParseUint.j11 n s0 (8 : Int) bitSize2 base08 s09)) else none)
    else 
    (internal_strconv_ParseUint.j11 n s0 (8 : Int) bitSize2 base08 s09))))
    else 
    (internal_strconv_ParseUint.j21 n s0 base1 bitSize2 base08 s09)) else none
def f (n : Nat) (s0 : Str) (base1 : Int) (bitSize2 : Int) : Option (Int × (Option Int) × Unit) :=
    if (decide (s0 = ([] : Str))) = true then (some ((0 : Int), (some (2 : Int)), ()))
    else 
    (if (decide ((2 : Int) ≤ base1)) = true then 
    (if (decide (base1 ≤ (36 : Int))) = true then 
    (internal_strconv_ParseUint.j21 n s0 base1 bitSize2 (decide (base1 = (0 : Int))) s0)
    else 
    (if (decide (base1 = (0 : Int))) = true then 
    (internal_strconv_ParseUint.j9 n s0 (10 : Int) bitSize2 (decide (base1 = (0 : Int))) s0)
    else (some ((0 : Int), (some (3 : Int)), ()))))
    else 
    (if (decide (base1 = (0 : Int))) = true then 
    (internal_strconv_ParseUint.j9 n s0 (10 : Int) bitSize2 (decide (base1 = (0 : Int))) s0)
    else (some ((0 : Int), (some (3 : Int)), ()))))
def g (s0 : Str) (base1 : Int) (bitSize2 : Int) : Option (Int × (Option Int) × Unit) := f (1000 + s0.length + base1.toNat + bitSize2.toNat) s0 base1 bitSize2
end internal_strconv_ParseUint

-- strconv.ParseUint
namespace strconv_ParseUint
def f (n : Nat) (s0 : Str) (base1 : Int) (bitSize2 : Int) : Option (Int × Bool × Unit) :=
    (internal_strconv_ParseUint.g s0 base1 bitSize2).bind fun y1 =>
    if (!y1.2.1.isNone) = true then 
    ((L.toErrorO ([80, 97, 114, 115, 101, 85, 105, 110, 116] : Str) s0 base1 bitSize2 y1.2.1).bind fun y2 =>
    some (y1.1, y2.1, ()))
    else (some (y1.1, true, ()))
def g (s0 : Str) (base1 : Int) (bitSize2 : Int) : Option (Int × Bool × Unit) := f (1000 + s0.length + base1.toNat + bitSize2.toNat) s0 base1 bitSize2
end strconv_ParseUint

-- rivet/scan.number
namespace scan_number
def j5 (n : Nat) (s0 : Str) (base4 : Int) : Option (Int × Bool × Unit) :=
    (L.containsO s0 ([95] : Str)).bind fun y1 =>
    if y1.1 = true then (some ((0 : Int), false, ()))
    else 
    ((strconv_ParseUint.g s0 base4 (32 : Int)).bind fun y2 =>
    some ((IntKind.u32.wrap y2.1), y2.2.1, ()))
def f (n : Nat) (s0 : Str) : Option (Int × Bool × Unit) :=
    if (L.cutIs s0 ([48, 120] : Str)) = true then 
    (scan_number.j5 n (L.cutRest s0 ([48, 120] : Str)) (16 : Int))
    else (scan_number.j5 n s0 (10 : Int))
def g (s0 : Str) : Option (Int × Bool × Unit) := f (1000 + s0.length) s0
end scan_number

-- rivet/scan.Line
namespace scan_Line
def j23 (n : Nat) (rg0 : Str → (List (Int × Int × Str × Int × Unit)) → Int → Option ((List (Int × Int × Str × Int × Unit)) × Int × Unit)) (s0 : Str) (out4 : List (Int × Int × Str × Int × Unit)) (at5 : Int) (b0_0 : Int) (b0_1 : Int) (b0_2 : Str) (b0_3 : Int) : Option ((List (Int × Int × Str × Int × Unit)) × Int × Unit) :=
    if (out4.length + ([(b0_0, b0_1, b0_2, b0_3, ())] : List (Int × Int × Str × Int × Unit)).length) * 40 ≤ 140737488355328 ∧ 0 < 40 ∧ 0 < 4 then 
    (rg0 s0 (out4 ++ ([(b0_0, b0_1, b0_2, b0_3, ())] : List (Int × Int × Str × Int × Unit))) (IntKind.i64.wrap (at5 + (b0_2.length : Int)))) else none
def g0 (n : Nat) : Nat → Str → (List (Int × Int × Str × Int × Unit)) → Int → Option ((List (Int × Int × Str × Int × Unit)) × Int × Unit)
  | 0, _, _, _ => none
  | m + 1, s0, out4, at5 =>
    if (decide ((s0.length : Int) ≤ at5)) = false then 
    (if 0 ≤ at5 ∧ at5 < (s0.length : Int) then 
    (if (decide ((bt s0 at5) = (59 : Int))) = true then (some (out4, (0 : Int), ()))
    else 
    (if 0 ≤ at5 ∧ at5 < (s0.length : Int) then 
    (if (decide ((bt s0 at5) = (32 : Int))) = false then 
    (if (decide ((bt s0 at5) = (9 : Int))) = true then 
    ((scan_Line.g0 n m) s0 out4 (IntKind.i64.wrap (at5 + (1 : Int))))
    else 
    ((scan_letter.g (bt s0 at5)).bind fun y1 =>
    if y1.1 = true then 
    (if 0 ≤ at5 ∧ at5 ≤ (s0.length : Int) then 
    ((scan_word.g ((s0.take (((s0.length : Int)).toNat)).drop ((at5).toNat))).bind fun y2 =>
    scan_Line.j23 n (scan_Line.g0 n m) s0 out4 at5 (1 : Int) at5 y2.1 0) else none)
    else 
    ((scan_digit.g (bt s0 at5)).bind fun y3 =>
    if y3.1 = true then 
    (if 0 ≤ at5 ∧ at5 ≤ (s0.length : Int) then 
    ((scan_word.g ((s0.take (((s0.length : Int)).toNat)).drop ((at5).toNat))).bind fun y4 =>
    (scan_number.g y4.1).bind fun y5 =>
    if (!y5.2.1) = true then (some ([], (21 : Int), ()))
    else 
    (scan_Line.j23 n (scan_Line.g0 n m) s0 out4 at5 (2 : Int) at5 y4.1 y5.1)) else none)
    else 
    (if (decide ((bt s0 at5) = (46 : Int))) = true then 
    (if (decide ((IntKind.i64.wrap (at5 + (1 : Int))) < (s0.length : Int))) = true then 
    (if 0 ≤ (IntKind.i64.wrap (at5 + (1 : Int))) ∧ (IntKind.i64.wrap (at5 + (1 : Int))) < (s0.length : Int) then 
    ((scan_letter.g (bt s0 (IntKind.i64.wrap (at5 + (1 : Int))))).bind fun y6 =>
    if y6.1 = true then 
    (if 0 ≤ (IntKind.i64.wrap (at5 + (1 : Int))) ∧ (IntKind.i64.wrap (at5 + (1 : Int))) ≤ (s0.length : Int) then 
    ((scan_word.g ((s0.take (((s0.length : Int)).toNat)).drop (((IntKind.i64.wrap (at5 + (1 : Int)))).toNat))).bind fun y7 =>
    scan_Line.j23 n (scan_Line.g0 n m) s0 out4 (IntKind.i64.wrap (at5 + (1 : Int))) (4 : Int) at5 y7.1 0) else none)
    else 
    (if (decide ((0 : Int) ≤ (L.indexByte ([44, 58, 43, 45, 42, 40, 41, 61] : Str) (bt s0 at5)))) = true then 
    (if 0 ≤ (IntKind.i64.wrap (at5 + (1 : Int))) ∧ (IntKind.i64.wrap (at5 + (1 : Int))) ≤ (s0.length : Int) then 
    (if 0 ≤ at5 ∧ at5 ≤ (IntKind.i64.wrap (at5 + (1 : Int))) then 
    (scan_Line.j23 n (scan_Line.g0 n m) s0 out4 at5 (3 : Int) at5 ((s0.take (((IntKind.i64.wrap (at5 + (1 : Int)))).toNat)).drop ((at5).toNat)) 0) else none) else none)
    else (some ([], (20 : Int), ())))) else none)
    else 
    (if (decide ((0 : Int) ≤ (L.indexByte ([44, 58, 43, 45, 42, 40, 41, 61] : Str) (bt s0 at5)))) = true then 
    (if 0 ≤ (IntKind.i64.wrap (at5 + (1 : Int))) ∧ (IntKind.i64.wrap (at5 + (1 : Int))) ≤ (s0.length : Int) then 
    (if 0 ≤ at5 ∧ at5 ≤ (IntKind.i64.wrap (at5 + (1 : Int))) then 
    (scan_Line.j23 n (scan_Line.g0 n m) s0 out4 at5 (3 : Int) at5 ((s0.take (((IntKind.i64.wrap (at5 + (1 : Int)))).toNat)).drop ((at5).toNat)) 0) else none) else none)
    else (some ([], (20 : Int), ()))))
    else 
    (if (decide ((0 : Int) ≤ (L.indexByte ([44, 58, 43, 45, 42, 40, 41, 61] : Str) (bt s0 at5)))) = true then 
    (if 0 ≤ (IntKind.i64.wrap (at5 + (1 : Int))) ∧ (IntKind.i64.wrap (at5 + (1 : Int))) ≤ (s0.length : Int) then 
    (if 0 ≤ at5 ∧ at5 ≤ (IntKind.i64.wrap (at5 + (1 : Int))) then 
    (scan_Line.j23 n (scan_Line.g0 n m) s0 out4 at5 (3 : Int) at5 ((s0.take (((IntKind.i64.wrap (at5 + (1 : Int)))).toNat)).drop ((at5).toNat)) 0) else none) else none)
    else (some ([], (20 : Int), ())))))))
    else 
    ((scan_Line.g0 n m) s0 out4 (IntKind.i64.wrap (at5 + (1 : Int))))) else none)) else none)
    else (some (out4, (0 : Int), ()))
def f (n : Nat) (s0 : Str) : Option ((List (Int × Int × Str × Int × Unit)) × Int × Unit) :=
    scan_Line.g0 n n s0 ([]) (0 : Int)
def g (s0 : Str) : Option ((List (Int × Int × Str × Int × Unit)) × Int × Unit) := f (1000 + s0.length) s0
end scan_Line

-- (*rivet/expr.parser).fail
namespace expr_parser_fail
def f (n : Nat) (e1 : Int) (b0_0 : List (Int × Int × Str × Int × Unit)) (b0_1 : Int) (b0_2 : List (Int × Int × Str × Unit)) (b0_3 : Int) : Option ((List (Int × Int × Str × Int × Unit)) × Int × (List (Int × Int × Str × Unit)) × Int × Unit) :=
    if (decide (b0_3 = (0 : Int))) = true then (some (b0_0, b0_1, b0_2, e1, ()))
    else (some (b0_0, b0_1, b0_2, b0_3, ()))
def g (e1 : Int) (b0_0 : List (Int × Int × Str × Int × Unit)) (b0_1 : Int) (b0_2 : List (Int × Int × Str × Unit)) (b0_3 : Int) : Option ((List (Int × Int × Str × Int × Unit)) × Int × (List (Int × Int × Str × Unit)) × Int × Unit) := f (1000 + e1.toNat + b0_0.length + b0_1.toNat + b0_2.length + b0_3.toNat) e1 b0_0 b0_1 b0_2 b0_3
end expr_parser_fail

-- (*rivet/expr.parser).next
namespace expr_parser_next
def f (n : Nat) (b0_0 : List (Int × Int × Str × Int × Unit)) (b0_1 : Int) (b0_2 : List (Int × Int × Str × Unit)) (b0_3 : Int) : Option (Int × Int × Str × Int × Bool × (List (Int × Int × Str × Int × Unit)) × Int × (List (Int × Int × Str × Unit)) × Int × Unit) :=
    if (decide (b0_3 ≠ (0 : Int))) = false then 
    (if (decide (b0_1 < (0 : Int))) = false then 
    (if (decide ((b0_0.length : Int) ≤ b0_1)) = true then 
    (some (0, 0, ([] : Str), 0, false, b0_0, b0_1, b0_2, b0_3, ()))
    else 
    (if 0 ≤ b0_1 ∧ b0_1 < (b0_0.length : Int) then 
    (some ((b0_0.getD (b0_1).toNat ((0 : Int), ((0 : Int), (([] : Str), ((0 : Int), ()))))).1, ((b0_0.getD (b0_1).toNat ((0 : Int), ((0 : Int), (([] : Str), ((0 : Int), ()))))).2).1, (((b0_0.getD (b0_1).toNat ((0 : Int), ((0 : Int), (([] : Str), ((0 : Int), ()))))).2).2).1, ((((b0_0.getD (b0_1).toNat ((0 : Int), ((0 : Int), (([] : Str), ((0 : Int), ()))))).2).2).2).1, true, b0_0, b0_1, b0_2, b0_3, ())) else none))
    else 
    (some (0, 0, ([] : Str), 0, false, b0_0, b0_1, b0_2, b0_3, ())))
    else 
    (some (0, 0, ([] : Str), 0, false, b0_0, b0_1, b0_2, b0_3, ()))
def g (b0_0 : List (Int × Int × Str × Int × Unit)) (b0_1 : Int) (b0_2 : List (Int × Int × Str × Unit)) (b0_3 : Int) : Option (Int × Int × Str × Int × Bool × (List (Int × Int × Str × Int × Unit)) × Int × (List (Int × Int × Str × Unit)) × Int × Unit) := f (1000 + b0_0.length + b0_1.toNat + b0_2.length + b0_3.toNat) b0_0 b0_1 b0_2 b0_3
end expr_parser_next

-- (*rivet/expr.parser).sign
namespace expr_parser_sign
def j8 (n : Nat) (rl3 : Bool → (List Str) → Int → Int → (List (Int × Int × Str × Int × Unit)) → Int → (List (Int × Int × Str × Unit)) → Int → Int → Int → Str → Int → Option (Str × Bool × (List (Int × Int × Str × Int × Unit)) × Int × (List (Int × Int × Str × Unit)) × Int × Unit)) (ok7 : Bool) (t15 : List Str) (t16 : Int) (t17 : Int) (b0_0 : List (Int × Int × Str × Int × Unit)) (b0_1 : Int) (b0_2 : List (Int × Int × Str × Unit)) (b0_3 : Int) (b1_0 : Int) (b1_1 : Int) (b1_2 : Str) (b1_3 : Int) : Option (Str × Bool × (List (Int × Int × Str × Int × Unit)) × Int × (List (Int × Int × Str × Unit)) × Int × Unit) :=
    rl3 ok7 t15 t16 (IntKind.i64.wrap (t17 + (1 : Int))) b0_0 b0_1 b0_2 b0_3 b1_0 b1_1 b1_2 b1_3
def l3 (n : Nat) : Nat → Bool → (List Str) → Int → Int → (List (Int × Int × Str × Int × Unit)) → Int → (List (Int × Int × Str × Unit)) → Int → Int → Int → Str → Int → Option (Str × Bool × (List (Int × Int × Str × Int × Unit)) × Int × (List (Int × Int × Str × Unit)) × Int × Unit)
  | 0, _, _, _, _, _, _, _, _, _, _, _, _ => none
  | m + 1, ok7, t15, t16, t17, b0_0, b0_1, b0_2, b0_3, b1_0, b1_1, b1_2, b1_3 =>
    if (decide (t17 < t16)) = true then 
    (if 0 ≤ t17 ∧ t17 < (t15.length : Int) then 
    (if ok7 = true then 
    (if (decide (b1_0 = (3 : Int))) = true then 
    (if (decide (b1_2 = (t15.getD (t17).toNat ([] : Str)))) = true then 
    (some ((t15.getD (t17).toNat ([] : Str)), true, b0_0, (IntKind.i64.wrap (b0_1 + (1 : Int))), b0_2, b0_3, ()))
    else 
    (expr_parser_sign.j8 n (expr_parser_sign.l3 n m) ok7 t15 t16 t17 b0_0 b0_1 b0_2 b0_3 b1_0 b1_1 b1_2 b1_3))
    else 
    (expr_parser_sign.j8 n (expr_parser_sign.l3 n m) ok7 t15 t16 t17 b0_0 b0_1 b0_2 b0_3 b1_0 b1_1 b1_2 b1_3))
    else 
    (expr_parser_sign.j8 n (expr_parser_sign.l3 n m) ok7 t15 t16 t17 b0_0 b0_1 b0_2 b0_3 b1_0 b1_1 b1_2 b1_3)) else none)
    else (some (([] : Str), false, b0_0, b0_1, b0_2, b0_3, ()))
def f (n : Nat) (all1 : List Str) (b0_0 : List (Int × Int × Str × Int × Unit)) (b0_1 : Int) (b0_2 : List (Int × Int × Str × Unit)) (b0_3 : Int) : Option (Str × Bool × (List (Int × Int × Str × Int × Unit)) × Int × (List (Int × Int × Str × Unit)) × Int × Unit) :=
    (expr_parser_next.g b0_0 b0_1 b0_2 b0_3).bind fun y1 =>
    expr_parser_sign.l3 n n y1.2.2.2.2.1 all1 (all1.length : Int) (0 : Int) y1.2.2.2.2.2.1 y1.2.2.2.2.2.2.1 y1.2.2.2.2.2.2.2.1 y1.2.2.2.2.2.2.2.2.1 y1.1 y1.2.1 y1.2.2.1 y1.2.2.2.1
def g (all1 : List Str) (b0_0 : List (Int × Int × Str × Int × Unit)) (b0_1 : Int) (b0_2 : List (Int × Int × Str × Unit)) (b0_3 : Int) : Option (Str × Bool × (List (Int × Int × Str × Int × Unit)) × Int × (List (Int × Int × Str × Unit)) × Int × Unit) := f (1000 + all1.length + b0_0.length + b0_1.toNat + b0_2.length + b0_3.toNat) all1 b0_0 b0_1 b0_2 b0_3
end expr_parser_sign

-- (*rivet/expr.parser).put
namespace expr_parser_put
def f (n : Nat) (x1_0 : Int) (x1_1 : Int) (x1_2 : Str) (b0_0 : List (Int × Int × Str × Int × Unit)) (b0_1 : Int) (b0_2 : List (Int × Int × Str × Unit)) (b0_3 : Int) : Option ((List (Int × Int × Str × Int × Unit)) × Int × (List (Int × Int × Str × Unit)) × Int × Unit) :=
    if (b0_2.length + ([(x1_0, x1_1, x1_2, ())] : List (Int × Int × Str × Unit)).length) * 32 ≤ 140737488355328 ∧ 0 < 32 ∧ 0 < 3 then 
    (some (b0_0, b0_1, (b0_2 ++ ([(x1_0, x1_1, x1_2, ())] : List (Int × Int × Str × Unit))), b0_3, ())) else none
def g (x1_0 : Int) (x1_1 : Int) (x1_2 : Str) (b0_0 : List (Int × Int × Str × Int × Unit)) (b0_1 : Int) (b0_2 : List (Int × Int × Str × Unit)) (b0_3 : Int) : Option ((List (Int × Int × Str × Int × Unit)) × Int × (List (Int × Int × Str × Unit)) × Int × Unit) := f (1000 + x1_0.toNat + x1_1.toNat + x1_2.length + b0_0.length + b0_1.toNat + b0_2.length + b0_3.toNat) x1_0 x1_1 x1_2 b0_0 b0_1 b0_2 b0_3
end expr_parser_put

-- rivet/name.Label
namespace name_Label
def j9 (n : Nat) (rl4 : Str → Int → Int → Option (Bool × Unit)) (s0 : Str) (t24 : Int) (t25 : Int) : Option (Bool × Unit) :=
    rl4 s0 t24 (IntKind.i64.wrap (t25 + (1 : Int)))
def l4 (n : Nat) : Nat → Str → Int → Int → Option (Bool × Unit)
  | 0, _, _, _ => none
  | m + 1, s0, t24, t25 =>
    if (decide (t25 < t24)) = true then 
    (if 0 ≤ t25 ∧ t25 < (s0.length : Int) then 
    (if (decide ((bitsI .or .u8 (bt s0 t25) (32 : Int)) < (97 : Int))) = false then 
    (if (decide ((122 : Int) < (bitsI .or .u8 (bt s0 t25) (32 : Int)))) = false then 
    (if 0 ≤ t25 ∧ t25 < (s0.length : Int) then 
    (if (decide ((bt s0 t25) < (65 : Int))) = true then 
    (if 0 ≤ t25 ∧ t25 < (s0.length : Int) then 
    (if (decide ((bt s0 t25) ≠ (95 : Int))) = true then 
    (if 0 ≤ t25 ∧ t25 < (s0.length : Int) then 
    (if (decide ((bt s0 t25) < (48 : Int))) = false then 
    (if 0 ≤ t25 ∧ t25 < (s0.length : Int) then 
    (if (decide ((57 : Int) < (bt s0 t25))) = true then (some (false, ()))
    else (name_Label.j9 n (name_Label.l4 n m) s0 t24 t25)) else none)
    else (some (false, ()))) else none)
    else (name_Label.j9 n (name_Label.l4 n m) s0 t24 t25)) else none)
    else (name_Label.j9 n (name_Label.l4 n m) s0 t24 t25)) else none)
    else 
    (if 0 ≤ t25 ∧ t25 < (s0.length : Int) then 
    (if (decide ((bt s0 t25) ≠ (95 : Int))) = true then 
    (if 0 ≤ t25 ∧ t25 < (s0.length : Int) then 
    (if (decide ((bt s0 t25) < (48 : Int))) = false then 
    (if 0 ≤ t25 ∧ t25 < (s0.length : Int) then 
    (if (decide ((57 : Int) < (bt s0 t25))) = true then (some (false, ()))
    else (name_Label.j9 n (name_Label.l4 n m) s0 t24 t25)) else none)
    else (some (false, ()))) else none)
    else (name_Label.j9 n (name_Label.l4 n m) s0 t24 t25)) else none))
    else 
    (if 0 ≤ t25 ∧ t25 < (s0.length : Int) then 
    (if (decide ((bt s0 t25) ≠ (95 : Int))) = true then 
    (if 0 ≤ t25 ∧ t25 < (s0.length : Int) then 
    (if (decide ((bt s0 t25) < (48 : Int))) = false then 
    (if 0 ≤ t25 ∧ t25 < (s0.length : Int) then 
    (if (decide ((57 : Int) < (bt s0 t25))) = true then (some (false, ()))
    else (name_Label.j9 n (name_Label.l4 n m) s0 t24 t25)) else none)
    else (some (false, ()))) else none)
    else (name_Label.j9 n (name_Label.l4 n m) s0 t24 t25)) else none)) else none)
    else 
    (if 0 ≤ (0 : Int) ∧ (0 : Int) < (s0.length : Int) then 
    (if (decide ((bt s0 (0 : Int)) = (82 : Int))) = true then 
    (if (decide ((s0.length : Int) = (2 : Int))) = false then 
    (if (decide ((s0.length : Int) = (3 : Int))) = true then 
    (if 0 ≤ (1 : Int) ∧ (1 : Int) ≤ (s0.length : Int) then 
    ((L.trimO ((s0.take (((s0.length : Int)).toNat)).drop (((1 : Int)).toNat)) ([48, 49, 50, 51, 52, 53, 54, 55, 56, 57] : Str)).bind fun y1 =>
    some ((!(decide (y1.1 = ([] : Str)))), ())) else none)
    else (some (true, ())))
    else 
    (if 0 ≤ (1 : Int) ∧ (1 : Int) ≤ (s0.length : Int) then 
    ((L.trimO ((s0.take (((s0.length : Int)).toNat)).drop (((1 : Int)).toNat)) ([48, 49, 50, 51, 52, 53, 54, 55, 56, 57] : Str)).bind fun y2 =>
    some ((!(decide (y2.1 = ([] : Str)))), ())) else none))
    else (some (true, ()))) else none)
def j3 (n : Nat) (s0 : Str) : Option (Bool × Unit) :=
    name_Label.l4 n n s0 (s0.length : Int) (0 : Int)
def f (n : Nat) (s0 : Str) : Option (Bool × Unit) :=
    if (decide (s0 = ([] : Str))) = false then 
    (if (decide ((12 : Int) < (s0.length : Int))) = false then 
    (if 0 ≤ (0 : Int) ∧ (0 : Int) < (s0.length : Int) then 
    (if (decide ((48 : Int) ≤ (bt s0 (0 : Int)))) = true then 
    (if 0 ≤ (0 : Int) ∧ (0 : Int) < (s0.length : Int) then 
    (if (decide ((bt s0 (0 : Int)) ≤ (57 : Int))) = true then (some (false, ()))
    else (name_Label.j3 n s0)) else none)
    else (name_Label.j3 n s0)) else none)
    else (some (false, ())))
    else (some (false, ()))
def g (s0 : Str) : Option (Bool × Unit) := f (1000 + s0.length) s0
end name_Label

structure Rec_expr_parser_sum where
  expr_parser_sum : Int → (List (Int × Int × Str × Int × Unit)) → Int → (List (Int × Int × Str × Unit)) → Int → Option ((List (Int × Int × Str × Int × Unit)) × Int × (List (Int × Int × Str × Unit)) × Int × Unit)
  expr_parser_row_c38 : (List Str) → (List (Int × Int × Str × Int × Unit)) → Int → (List (Int × Int × Str × Unit)) → Int → Int → Option ((List (Int × Int × Str × Int × Unit)) × Int × (List (Int × Int × Str × Unit)) × Int × Unit × Int × Unit)
  expr_parser_sum_1 : Int → (List (Int × Int × Str × Int × Unit)) → Int → (List (Int × Int × Str × Unit)) → Int → Option (Unit × Int × (List (Int × Int × Str × Int × Unit)) × Int × (List (Int × Int × Str × Unit)) × Int × Unit)
  expr_parser_row_c39 : (List Str) → (List (Int × Int × Str × Int × Unit)) → Int → (List (Int × Int × Str × Unit)) → Int → Int → Option ((List (Int × Int × Str × Int × Unit)) × Int × (List (Int × Int × Str × Unit)) × Int × Unit × Int × Unit)
  expr_parser_sum_1_1 : Int → (List (Int × Int × Str × Int × Unit)) → Int → (List (Int × Int × Str × Unit)) → Int → Option (Unit × Int × (List (Int × Int × Str × Int × Unit)) × Int × (List (Int × Int × Str × Unit)) × Int × Unit)
  expr_parser_factor : Int → (List (Int × Int × Str × Int × Unit)) → Int → (List (Int × Int × Str × Unit)) → Int → Option ((List (Int × Int × Str × Int × Unit)) × Int × (List (Int × Int × Str × Unit)) × Int × Unit)
-- (*rivet/expr.parser).sum
namespace expr_parser_sum
def f (n : Nat) (R : Rec_expr_parser_sum) (deep1 : Int) (b0_0 : List (Int × Int × Str × Int × Unit)) (b0_1 : Int) (b0_2 : List (Int × Int × Str × Unit)) (b0_3 : Int) : Option ((List (Int × Int × Str × Int × Unit)) × Int × (List (Int × Int × Str × Unit)) × Int × Unit) :=
    (R.expr_parser_row_c38 ([([43] : Str), ([45] : Str)] : List Str) b0_0 b0_1 b0_2 b0_3 deep1).bind fun y1 =>
    some (y1.1, y1.2.1, y1.2.2.1, y1.2.2.2.1, ())
def h (R : Rec_expr_parser_sum) (deep1 : Int) (b0_0 : List (Int × Int × Str × Int × Unit)) (b0_1 : Int) (b0_2 : List (Int × Int × Str × Unit)) (b0_3 : Int) : Option ((List (Int × Int × Str × Int × Unit)) × Int × (List (Int × Int × Str × Unit)) × Int × Unit) := f (1000 + deep1.toNat + b0_0.length + b0_1.toNat + b0_2.length + b0_3.toNat) R deep1 b0_0 b0_1 b0_2 b0_3
end expr_parser_sum
-- (*rivet/expr.parser).row
namespace expr_parser_row_c38
def l1 (n : Nat) (R : Rec_expr_parser_sum) : Nat → (List Str) → (List (Int × Int × Str × Int × Unit)) → Int → (List (Int × Int × Str × Unit)) → Int → Int → Option ((List (Int × Int × Str × Int × Unit)) × Int × (List (Int × Int × Str × Unit)) × Int × Unit × Int × Unit)
  | 0, _, _, _, _, _, _ => none
  | m + 1, signs2, b0_0, b0_1, b0_2, b0_3, b2_0 =>
    (expr_parser_sign.g signs2 b0_0 b0_1 b0_2 b0_3).bind fun y1 =>
    if (!y1.2.1) = true then 
    (some (y1.2.2.1, y1.2.2.2.1, y1.2.2.2.2.1, y1.2.2.2.2.2.1, (), b2_0, ()))
    else 
    ((R.expr_parser_sum_1 b2_0 y1.2.2.1 y1.2.2.2.1 y1.2.2.2.2.1 y1.2.2.2.2.2.1).bind fun y2 =>
    (expr_parser_put.g ((L.kinds y1.1).1) 0 ([] : Str) y2.2.2.1 y2.2.2.2.1 y2.2.2.2.2.1 y2.2.2.2.2.2.1).bind fun y3 =>
    (expr_parser_row_c38.l1 n R m) signs2 y3.1 y3.2.1 y3.2.2.1 y3.2.2.2.1 y2.2.1)
def f (n : Nat) (R : Rec_expr_parser_sum) (signs2 : List Str) (b0_0 : List (Int × Int × Str × Int × Unit)) (b0_1 : Int) (b0_2 : List (Int × Int × Str × Unit)) (b0_3 : Int) (b2_0 : Int) : Option ((List (Int × Int × Str × Int × Unit)) × Int × (List (Int × Int × Str × Unit)) × Int × Unit × Int × Unit) :=
    (R.expr_parser_sum_1 b2_0 b0_0 b0_1 b0_2 b0_3).bind fun y1 =>
    expr_parser_row_c38.l1 n R n signs2 y1.2.2.1 y1.2.2.2.1 y1.2.2.2.2.1 y1.2.2.2.2.2.1 y1.2.1
def h (R : Rec_expr_parser_sum) (signs2 : List Str) (b0_0 : List (Int × Int × Str × Int × Unit)) (b0_1 : Int) (b0_2 : List (Int × Int × Str × Unit)) (b0_3 : Int) (b2_0 : Int) : Option ((List (Int × Int × Str × Int × Unit)) × Int × (List (Int × Int × Str × Unit)) × Int × Unit × Int × Unit) := f (1000 + signs2.length + b0_0.length + b0_1.toNat + b0_2.length + b0_3.toNat + b2_0.toNat) R signs2 b0_0 b0_1 b0_2 b0_3 b2_0
end expr_parser_row_c38
-- (*rivet/expr.parser).sum$1
namespace expr_parser_sum_1
def f (n : Nat) (R : Rec_expr_parser_sum) (b1_0 : Int) (b2_0 : List (Int × Int × Str × Int × Unit)) (b2_1 : Int) (b2_2 : List (Int × Int × Str × Unit)) (b2_3 : Int) : Option (Unit × Int × (List (Int × Int × Str × Int × Unit)) × Int × (List (Int × Int × Str × Unit)) × Int × Unit) :=
    (R.expr_parser_row_c39 ([([42] : Str)] : List Str) b2_0 b2_1 b2_2 b2_3 b1_0).bind fun y1 =>
    some ((), y1.2.2.2.2.2.1, y1.1, y1.2.1, y1.2.2.1, y1.2.2.2.1, ())
def h (R : Rec_expr_parser_sum) (b1_0 : Int) (b2_0 : List (Int × Int × Str × Int × Unit)) (b2_1 : Int) (b2_2 : List (Int × Int × Str × Unit)) (b2_3 : Int) : Option (Unit × Int × (List (Int × Int × Str × Int × Unit)) × Int × (List (Int × Int × Str × Unit)) × Int × Unit) := f (1000 + b1_0.toNat + b2_0.length + b2_1.toNat + b2_2.length + b2_3.toNat) R b1_0 b2_0 b2_1 b2_2 b2_3
end expr_parser_sum_1
-- (*rivet/expr.parser).row
namespace expr_parser_row_c39
def l1 (n : Nat) (R : Rec_expr_parser_sum) : Nat → (List Str) → (List (Int × Int × Str × Int × Unit)) → Int → (List (Int × Int × Str × Unit)) → Int → Int → Option ((List (Int × Int × Str × Int × Unit)) × Int × (List (Int × Int × Str × Unit)) × Int × Unit × Int × Unit)
  | 0, _, _, _, _, _, _ => none
  | m + 1, signs2, b0_0, b0_1, b0_2, b0_3, b2_0 =>
    (expr_parser_sign.g signs2 b0_0 b0_1 b0_2 b0_3).bind fun y1 =>
    if (!y1.2.1) = true then 
    (some (y1.2.2.1, y1.2.2.2.1, y1.2.2.2.2.1, y1.2.2.2.2.2.1, (), b2_0, ()))
    else 
    ((R.expr_parser_sum_1_1 b2_0 y1.2.2.1 y1.2.2.2.1 y1.2.2.2.2.1 y1.2.2.2.2.2.1).bind fun y2 =>
    (expr_parser_put.g ((L.kinds y1.1).1) 0 ([] : Str) y2.2.2.1 y2.2.2.2.1 y2.2.2.2.2.1 y2.2.2.2.2.2.1).bind fun y3 =>
    (expr_parser_row_c39.l1 n R m) signs2 y3.1 y3.2.1 y3.2.2.1 y3.2.2.2.1 y2.2.1)
def f (n : Nat) (R : Rec_expr_parser_sum) (signs2 : List Str) (b0_0 : List (Int × Int × Str × Int × Unit)) (b0_1 : Int) (b0_2 : List (Int × Int × Str × Unit)) (b0_3 : Int) (b2_0 : Int) : Option ((List (Int × Int × Str × Int × Unit)) × Int × (List (Int × Int × Str × Unit)) × Int × Unit × Int × Unit) :=
    (R.expr_parser_sum_1_1 b2_0 b0_0 b0_1 b0_2 b0_3).bind fun y1 =>
    expr_parser_row_c39.l1 n R n signs2 y1.2.2.1 y1.2.2.2.1 y1.2.2.2.2.1 y1.2.2.2.2.2.1 y1.2.1
def h (R : Rec_expr_parser_sum) (signs2 : List Str) (b0_0 : List (Int × Int × Str × Int × Unit)) (b0_1 : Int) (b0_2 : List (Int × Int × Str × Unit)) (b0_3 : Int) (b2_0 : Int) : Option ((List (Int × Int × Str × Int × Unit)) × Int × (List (Int × Int × Str × Unit)) × Int × Unit × Int × Unit) := f (1000 + signs2.length + b0_0.length + b0_1.toNat + b0_2.length + b0_3.toNat + b2_0.toNat) R signs2 b0_0 b0_1 b0_2 b0_3 b2_0
end expr_parser_row_c39
-- (*rivet/expr.parser).sum$1$1
namespace expr_parser_sum_1_1
def f (n : Nat) (R : Rec_expr_parser_sum) (b1_0 : Int) (b2_0 : List (Int × Int × Str × Int × Unit)) (b2_1 : Int) (b2_2 : List (Int × Int × Str × Unit)) (b2_3 : Int) : Option (Unit × Int × (List (Int × Int × Str × Int × Unit)) × Int × (List (Int × Int × Str × Unit)) × Int × Unit) :=
    (R.expr_parser_factor b1_0 b2_0 b2_1 b2_2 b2_3).bind fun y1 =>
    some ((), b1_0, y1.1, y1.2.1, y1.2.2.1, y1.2.2.2.1, ())
def h (R : Rec_expr_parser_sum) (b1_0 : Int) (b2_0 : List (Int × Int × Str × Int × Unit)) (b2_1 : Int) (b2_2 : List (Int × Int × Str × Unit)) (b2_3 : Int) : Option (Unit × Int × (List (Int × Int × Str × Int × Unit)) × Int × (List (Int × Int × Str × Unit)) × Int × Unit) := f (1000 + b1_0.toNat + b2_0.length + b2_1.toNat + b2_2.length + b2_3.toNat) R b1_0 b2_0 b2_1 b2_2 b2_3
end expr_parser_sum_1_1
-- (*rivet/expr.parser).factor
namespace expr_parser_factor
def j19 (n : Nat) (R : Rec_expr_parser_sum) (b0_0 : List (Int × Int × Str × Int × Unit)) (b0_1 : Int) (b0_2 : List (Int × Int × Str × Unit)) (b0_3 : Int) : Option ((List (Int × Int × Str × Int × Unit)) × Int × (List (Int × Int × Str × Unit)) × Int × Unit) :=
    some (b0_0, (IntKind.i64.wrap (b0_1 + (1 : Int))), b0_2, b0_3, ())
def f (n : Nat) (R : Rec_expr_parser_sum) (deep1 : Int) (b0_0 : List (Int × Int × Str × Int × Unit)) (b0_1 : Int) (b0_2 : List (Int × Int × Str × Unit)) (b0_3 : Int) : Option ((List (Int × Int × Str × Int × Unit)) × Int × (List (Int × Int × Str × Unit)) × Int × Unit) :=
    if (decide (b0_3 ≠ (0 : Int))) = true then (some (b0_0, b0_1, b0_2, b0_3, ()))
    else 
    (if (decide ((8 : Int) < deep1)) = true then 
    ((expr_parser_fail.g (24 : Int) b0_0 b0_1 b0_2 b0_3).bind fun y1 =>
    some (y1.1, y1.2.1, y1.2.2.1, y1.2.2.2.1, ()))
    else 
    ((expr_parser_sign.g ([([45] : Str), ([40] : Str)] : List Str) b0_0 b0_1 b0_2 b0_3).bind fun y2 =>
    if (decide (y2.1 = ([45] : Str))) = true then 
    ((R.expr_parser_factor (IntKind.i64.wrap (deep1 + (1 : Int))) y2.2.2.1 y2.2.2.2.1 y2.2.2.2.2.1 y2.2.2.2.2.2.1).bind fun y3 =>
    (expr_parser_put.g (3 : Int) 0 ([] : Str) y3.1 y3.2.1 y3.2.2.1 y3.2.2.2.1).bind fun y4 =>
    some (y4.1, y4.2.1, y4.2.2.1, y4.2.2.2.1, ()))
    else 
    (if (decide (y2.1 = ([40] : Str))) = true then 
    ((R.expr_parser_sum (IntKind.i64.wrap (deep1 + (1 : Int))) y2.2.2.1 y2.2.2.2.1 y2.2.2.2.2.1 y2.2.2.2.2.2.1).bind fun y5 =>
    (expr_parser_sign.g ([([41] : Str)] : List Str) y5.1 y5.2.1 y5.2.2.1 y5.2.2.2.1).bind fun y6 =>
    if (!y6.2.1) = true then 
    ((expr_parser_fail.g (23 : Int) y6.2.2.1 y6.2.2.2.1 y6.2.2.2.2.1 y6.2.2.2.2.2.1).bind fun y7 =>
    some (y7.1, y7.2.1, y7.2.2.1, y7.2.2.2.1, ()))
    else 
    (some (y6.2.2.1, y6.2.2.2.1, y6.2.2.2.2.1, y6.2.2.2.2.2.1, ())))
    else 
    ((expr_parser_next.g y2.2.2.1 y2.2.2.2.1 y2.2.2.2.2.1 y2.2.2.2.2.2.1).bind fun y8 =>
    if y8.2.2.2.2.1 = true then 
    (if (decide (y8.1 = (2 : Int))) = true then 
    ((expr_parser_put.g (1 : Int) y8.2.2.2.1 ([] : Str) y8.2.2.2.2.2.1 y8.2.2.2.2.2.2.1 y8.2.2.2.2.2.2.2.1 y8.2.2.2.2.2.2.2.2.1).bind fun y9 =>
    expr_parser_factor.j19 n R y9.1 y9.2.1 y9.2.2.1 y9.2.2.2.1)
    else 
    (if y8.2.2.2.2.1 = true then 
    (if (decide (y8.1 = (1 : Int))) = true then 
    ((name_Label.g y8.2.2.1).bind fun y10 =>
    if y10.1 = true then 
    ((expr_parser_put.g (2 : Int) 0 y8.2.2.1 y8.2.2.2.2.2.1 y8.2.2.2.2.2.2.1 y8.2.2.2.2.2.2.2.1 y8.2.2.2.2.2.2.2.2.1).bind fun y11 =>
    expr_parser_factor.j19 n R y11.1 y11.2.1 y11.2.2.1 y11.2.2.2.1)
    else 
    ((expr_parser_fail.g (23 : Int) y8.2.2.2.2.2.1 y8.2.2.2.2.2.2.1 y8.2.2.2.2.2.2.2.1 y8.2.2.2.2.2.2.2.2.1).bind fun y12 =>
    expr_parser_factor.j19 n R y12.1 y12.2.1 y12.2.2.1 y12.2.2.2.1))
    else 
    ((expr_parser_fail.g (23 : Int) y8.2.2.2.2.2.1 y8.2.2.2.2.2.2.1 y8.2.2.2.2.2.2.2.1 y8.2.2.2.2.2.2.2.2.1).bind fun y13 =>
    expr_parser_factor.j19 n R y13.1 y13.2.1 y13.2.2.1 y13.2.2.2.1))
    else 
    ((expr_parser_fail.g (23 : Int) y8.2.2.2.2.2.1 y8.2.2.2.2.2.2.1 y8.2.2.2.2.2.2.2.1 y8.2.2.2.2.2.2.2.2.1).bind fun y14 =>
    expr_parser_factor.j19 n R y14.1 y14.2.1 y14.2.2.1 y14.2.2.2.1)))
    else 
    (if y8.2.2.2.2.1 = true then 
    (if (decide (y8.1 = (1 : Int))) = true then 
    ((name_Label.g y8.2.2.1).bind fun y15 =>
    if y15.1 = true then 
    ((expr_parser_put.g (2 : Int) 0 y8.2.2.1 y8.2.2.2.2.2.1 y8.2.2.2.2.2.2.1 y8.2.2.2.2.2.2.2.1 y8.2.2.2.2.2.2.2.2.1).bind fun y16 =>
    expr_parser_factor.j19 n R y16.1 y16.2.1 y16.2.2.1 y16.2.2.2.1)
    else 
    ((expr_parser_fail.g (23 : Int) y8.2.2.2.2.2.1 y8.2.2.2.2.2.2.1 y8.2.2.2.2.2.2.2.1 y8.2.2.2.2.2.2.2.2.1).bind fun y17 =>
    expr_parser_factor.j19 n R y17.1 y17.2.1 y17.2.2.1 y17.2.2.2.1))
    else 
    ((expr_parser_fail.g (23 : Int) y8.2.2.2.2.2.1 y8.2.2.2.2.2.2.1 y8.2.2.2.2.2.2.2.1 y8.2.2.2.2.2.2.2.2.1).bind fun y18 =>
    expr_parser_factor.j19 n R y18.1 y18.2.1 y18.2.2.1 y18.2.2.2.1))
    else 
    ((expr_parser_fail.g (23 : Int) y8.2.2.2.2.2.1 y8.2.2.2.2.2.2.1 y8.2.2.2.2.2.2.2.1 y8.2.2.2.2.2.2.2.2.1).bind fun y19 =>
    expr_parser_factor.j19 n R y19.1 y19.2.1 y19.2.2.1 y19.2.2.2.1))))))
def h (R : Rec_expr_parser_sum) (deep1 : Int) (b0_0 : List (Int × Int × Str × Int × Unit)) (b0_1 : Int) (b0_2 : List (Int × Int × Str × Unit)) (b0_3 : Int) : Option ((List (Int × Int × Str × Int × Unit)) × Int × (List (Int × Int × Str × Unit)) × Int × Unit) := f (1000 + deep1.toNat + b0_0.length + b0_1.toNat + b0_2.length + b0_3.toNat) R deep1 b0_0 b0_1 b0_2 b0_3
end expr_parser_factor
def rec_expr_parser_sum : Nat → Rec_expr_parser_sum
  | 0 => ⟨fun _ _ _ _ _ => none, fun _ _ _ _ _ _ => none, fun _ _ _ _ _ => none, fun _ _ _ _ _ _ => none, fun _ _ _ _ _ => none, fun _ _ _ _ _ => none⟩
  | q + 1 => ⟨expr_parser_sum.h (rec_expr_parser_sum q), expr_parser_row_c38.h (rec_expr_parser_sum q), expr_parser_sum_1.h (rec_expr_parser_sum q), expr_parser_row_c39.h (rec_expr_parser_sum q), expr_parser_sum_1_1.h (rec_expr_parser_sum q), expr_parser_factor.h (rec_expr_parser_sum q)⟩
def expr_parser_sum.g (deep1 : Int) (b0_0 : List (Int × Int × Str × Int × Unit)) (b0_1 : Int) (b0_2 : List (Int × Int × Str × Unit)) (b0_3 : Int) : Option ((List (Int × Int × Str × Int × Unit)) × Int × (List (Int × Int × Str × Unit)) × Int × Unit) := (rec_expr_parser_sum (1000 + deep1.toNat + b0_0.length + b0_1.toNat + b0_2.length + b0_3.toNat)).expr_parser_sum deep1 b0_0 b0_1 b0_2 b0_3
def expr_parser_row_c38.g (signs2 : List Str) (b0_0 : List (Int × Int × Str × Int × Unit)) (b0_1 : Int) (b0_2 : List (Int × Int × Str × Unit)) (b0_3 : Int) (b2_0 : Int) : Option ((List (Int × Int × Str × Int × Unit)) × Int × (List (Int × Int × Str × Unit)) × Int × Unit × Int × Unit) := (rec_expr_parser_sum (1000 + signs2.length + b0_0.length + b0_1.toNat + b0_2.length + b0_3.toNat + b2_0.toNat)).expr_parser_row_c38 signs2 b0_0 b0_1 b0_2 b0_3 b2_0
def expr_parser_sum_1.g (b1_0 : Int) (b2_0 : List (Int × Int × Str × Int × Unit)) (b2_1 : Int) (b2_2 : List (Int × Int × Str × Unit)) (b2_3 : Int) : Option (Unit × Int × (List (Int × Int × Str × Int × Unit)) × Int × (List (Int × Int × Str × Unit)) × Int × Unit) := (rec_expr_parser_sum (1000 + b1_0.toNat + b2_0.length + b2_1.toNat + b2_2.length + b2_3.toNat)).expr_parser_sum_1 b1_0 b2_0 b2_1 b2_2 b2_3
def expr_parser_row_c39.g (signs2 : List Str) (b0_0 : List (Int × Int × Str × Int × Unit)) (b0_1 : Int) (b0_2 : List (Int × Int × Str × Unit)) (b0_3 : Int) (b2_0 : Int) : Option ((List (Int × Int × Str × Int × Unit)) × Int × (List (Int × Int × Str × Unit)) × Int × Unit × Int × Unit) := (rec_expr_parser_sum (1000 + signs2.length + b0_0.length + b0_1.toNat + b0_2.length + b0_3.toNat + b2_0.toNat)).expr_parser_row_c39 signs2 b0_0 b0_1 b0_2 b0_3 b2_0
def expr_parser_sum_1_1.g (b1_0 : Int) (b2_0 : List (Int × Int × Str × Int × Unit)) (b2_1 : Int) (b2_2 : List (Int × Int × Str × Unit)) (b2_3 : Int) : Option (Unit × Int × (List (Int × Int × Str × Int × Unit)) × Int × (List (Int × Int × Str × Unit)) × Int × Unit) := (rec_expr_parser_sum (1000 + b1_0.toNat + b2_0.length + b2_1.toNat + b2_2.length + b2_3.toNat)).expr_parser_sum_1_1 b1_0 b2_0 b2_1 b2_2 b2_3
def expr_parser_factor.g (deep1 : Int) (b0_0 : List (Int × Int × Str × Int × Unit)) (b0_1 : Int) (b0_2 : List (Int × Int × Str × Unit)) (b0_3 : Int) : Option ((List (Int × Int × Str × Int × Unit)) × Int × (List (Int × Int × Str × Unit)) × Int × Unit) := (rec_expr_parser_sum (1000 + deep1.toNat + b0_0.length + b0_1.toNat + b0_2.length + b0_3.toNat)).expr_parser_factor deep1 b0_0 b0_1 b0_2 b0_3

-- rivet/expr.Parse
namespace expr_Parse
def j5 (n : Nat) (b0_0 : List (Int × Int × Str × Int × Unit)) (b0_1 : Int) (b0_2 : List (Int × Int × Str × Unit)) (b0_3 : Int) : Option ((List (Int × Int × Str × Unit)) × Int × Int × Unit) :=
    if (decide (b0_3 ≠ (0 : Int))) = true then (some ([], (0 : Int), b0_3, ()))
    else (some (b0_2, b0_1, (0 : Int), ()))
def f (n : Nat) (l0 : List (Int × Int × Str × Int × Unit)) (at1 : Int) : Option ((List (Int × Int × Str × Unit)) × Int × Int × Unit) :=
    (expr_parser_sum.g (0 : Int) l0 at1 ([]) 0).bind fun y1 =>
    if (decide (y1.2.2.2.1 = (0 : Int))) = true then 
    (if (decide ((64 : Int) < (y1.2.2.1.length : Int))) = true then (expr_Parse.j5 n y1.1 y1.2.1 y1.2.2.1 (24 : Int))
    else (expr_Parse.j5 n y1.1 y1.2.1 y1.2.2.1 y1.2.2.2.1))
    else (expr_Parse.j5 n y1.1 y1.2.1 y1.2.2.1 y1.2.2.2.1)
def g (l0 : List (Int × Int × Str × Int × Unit)) (at1 : Int) : Option ((List (Int × Int × Str × Unit)) × Int × Int × Unit) := f (1000 + l0.length + at1.toNat) l0 at1
end expr_Parse

-- rivet/expr.needs
namespace expr_needs
def j2 (n : Nat) (plain4 : Bool) (b0_0 : Int) (b0_1 : Int) (b0_2 : Str) : Option (Int × Bool × Unit) :=
    if (decide (b0_0 = (1 : Int))) = true then (some ((0 : Int), (decide (b0_2 = ([] : Str))), ()))
    else 
    (if (decide (b0_0 = (2 : Int))) = true then 
    (if (decide (b0_1 = (0 : Int))) = true then 
    ((name_Label.g b0_2).bind fun y1 =>
    some ((0 : Int), y1.1, ()))
    else (some ((0 : Int), false, ())))
    else 
    (if (decide (b0_0 = (3 : Int))) = true then (some ((1 : Int), plain4, ()))
    else 
    (if (decide (b0_0 = (4 : Int))) = true then 
    (if (decide (b0_0 = (4 : Int))) = true then (some ((2 : Int), plain4, ()))
    else (some ((0 : Int), false, ())))
    else 
    (if (decide (b0_0 = (5 : Int))) = true then 
    (if (decide (b0_0 = (5 : Int))) = true then (some ((2 : Int), plain4, ()))
    else (some ((0 : Int), false, ())))
    else 
    (if (decide (b0_0 = (6 : Int))) = true then (some ((2 : Int), plain4, ()))
    else (some ((0 : Int), false, ())))))))
def f (n : Nat) (x0_0 : Int) (x0_1 : Int) (x0_2 : Str) : Option (Int × Bool × Unit) :=
    if (decide (x0_1 = (0 : Int))) = true then 
    (expr_needs.j2 n (decide (x0_2 = ([] : Str))) x0_0 x0_1 x0_2)
    else (expr_needs.j2 n false x0_0 x0_1 x0_2)
def g (x0_0 : Int) (x0_1 : Int) (x0_2 : Str) : Option (Int × Bool × Unit) := f (1000 + x0_0.toNat + x0_1.toNat + x0_2.length) x0_0 x0_1 x0_2
end expr_needs

-- rivet/expr.Well
namespace expr_Well
def l3 (n : Nat) : Nat → (List (Int × Int × Str × Unit)) → Int → (List (Int × Int × Str × Unit)) → Int → Int → Option (Bool × Unit)
  | 0, _, _, _, _, _ => none
  | m + 1, e0, there3, t8, t9, t10 =>
    if (decide (t10 < t9)) = true then 
    (if 0 ≤ t10 ∧ t10 < (t8.length : Int) then 
    ((expr_needs.g ((t8.getD (t10).toNat ((0 : Int), ((0 : Int), (([] : Str), ())))).1) (((t8.getD (t10).toNat ((0 : Int), ((0 : Int), (([] : Str), ())))).2).1) ((((t8.getD (t10).toNat ((0 : Int), ((0 : Int), (([] : Str), ())))).2).2).1)).bind fun y1 =>
    if (!y1.2.1) = false then 
    (if (decide (there3 < y1.1)) = true then (some (false, ()))
    else 
    ((expr_Well.l3 n m) e0 (IntKind.i64.wrap (there3 + (IntKind.i64.wrap ((1 : Int) - y1.1)))) t8 t9 (IntKind.i64.wrap (t10 + (1 : Int)))))
    else (some (false, ()))) else none)
    else 
    (if (decide (there3 = (1 : Int))) = true then (some ((decide ((e0.length : Int) ≤ (64 : Int))), ()))
    else (some (false, ())))
def f (n : Nat) (e0 : List (Int × Int × Str × Unit)) : Option (Bool × Unit) :=
    expr_Well.l3 n n e0 (0 : Int) e0 (e0.length : Int) (0 : Int)
def g (e0 : List (Int × Int × Str × Unit)) : Option (Bool × Unit) := f (1000 + e0.length) e0
end expr_Well

-- rivet/value.Find$1
namespace value_Find_1
def f (n : Nat) (l0_0 : Str) (l0_1 : Int) (b0_0 : Str) : Option (Bool × Str × Unit) :=
    some ((decide (l0_0 = b0_0)), b0_0, ())
def g (l0_0 : Str) (l0_1 : Int) (b0_0 : Str) : Option (Bool × Str × Unit) := f (1000 + l0_0.length + l0_1.toNat + b0_0.length) l0_0 l0_1 b0_0
end value_Find_1

-- slices.IndexFunc[[]rivet/api.Sym,rivet/api.Sym]
namespace slices_IndexFunc_api_Sym_api_Sym_c23
def l2 (n : Nat) : Nat → (List (Str × Int × Unit)) → Int → Int → Str → Option (Int × Str × Unit)
  | 0, _, _, _, _ => none
  | m + 1, s0, t7, t8, b0_0 =>
    if (decide (t8 < t7)) = true then 
    (if 0 ≤ t8 ∧ t8 < (s0.length : Int) then 
    ((value_Find_1.g ((s0.getD (t8).toNat (([] : Str), ((0 : Int), ()))).1) (((s0.getD (t8).toNat (([] : Str), ((0 : Int), ()))).2).1) b0_0).bind fun y1 =>
    if y1.1 = true then (some (t8, y1.2.1, ()))
    else 
    ((slices_IndexFunc_api_Sym_api_Sym_c23.l2 n m) s0 t7 (IntKind.i64.wrap (t8 + (1 : Int))) y1.2.1)) else none)
    else (some ((-1 : Int), b0_0, ()))
def f (n : Nat) (s0 : List (Str × Int × Unit)) (b0_0 : Str) : Option (Int × Str × Unit) :=
    slices_IndexFunc_api_Sym_api_Sym_c23.l2 n n s0 (s0.length : Int) (0 : Int) b0_0
def g (s0 : List (Str × Int × Unit)) (b0_0 : Str) : Option (Int × Str × Unit) := f (1000 + s0.length + b0_0.length) s0 b0_0
end slices_IndexFunc_api_Sym_api_Sym_c23

-- rivet/value.Find
namespace value_Find
def f (n : Nat) (labels0 : List (Str × Int × Unit)) (s1 : Str) : Option (Int × Bool × Unit) :=
    (slices_IndexFunc_api_Sym_api_Sym_c23.g labels0 s1).bind fun y1 =>
    if (decide (y1.1 < (0 : Int))) = true then (some ((0 : Int), false, ()))
    else 
    (if 0 ≤ y1.1 ∧ y1.1 < (labels0.length : Int) then 
    (some (((labels0.getD (y1.1).toNat (([] : Str), ((0 : Int), ()))).2).1, true, ())) else none)
def g (labels0 : List (Str × Int × Unit)) (s1 : Str) : Option (Int × Bool × Unit) := f (1000 + labels0.length + s1.length) labels0 s1
end value_Find

-- (*rivet/value.stack[rivet/api.Value]).pop
namespace value_stack_api_Value_pop
def f (n : Nat) (b0_0 : List (Int × Int × Unit)) : Option (Int × Int × (List (Int × Int × Unit)) × Unit) :=
    if 0 ≤ (IntKind.i64.wrap ((b0_0.length : Int) - (1 : Int))) ∧ (IntKind.i64.wrap ((b0_0.length : Int) - (1 : Int))) < (b0_0.length : Int) then 
    (if 0 ≤ (IntKind.i64.wrap ((b0_0.length : Int) - (1 : Int))) ∧ (IntKind.i64.wrap ((b0_0.length : Int) - (1 : Int))) ≤ (b0_0.length : Int) then 
    (some ((b0_0.getD ((IntKind.i64.wrap ((b0_0.length : Int) - (1 : Int)))).toNat ((0 : Int), ((0 : Int), ()))).1, ((b0_0.getD ((IntKind.i64.wrap ((b0_0.length : Int) - (1 : Int)))).toNat ((0 : Int), ((0 : Int), ()))).2).1, (b0_0.take ((IntKind.i64.wrap ((b0_0.length : Int) - (1 : Int)))).toNat), ())) else none) else none
def g (b0_0 : List (Int × Int × Unit)) : Option (Int × Int × (List (Int × Int × Unit)) × Unit) := f (1000 + b0_0.length) b0_0
end value_stack_api_Value_pop

-- rivet/value.times
namespace value_times
def f (n : Nat) (v0_0 : Int) (v0_1 : Int) (n1 : Int) : Option (Int × Int × Unit) :=
    some ((IntKind.u32.wrap ((IntKind.u32.wrap n1) * v0_0)), (IntKind.i64.wrap (n1 * v0_1)), ())
def g (v0_0 : Int) (v0_1 : Int) (n1 : Int) : Option (Int × Int × Unit) := f (1000 + v0_0.toNat + v0_1.toNat + n1.toNat) v0_0 v0_1 n1
end value_times

-- rivet/value.sum
namespace value_sum
def f (n : Nat) (a0_0 : Int) (a0_1 : Int) (b1_0 : Int) (b1_1 : Int) : Option (Int × Int × Unit) :=
    some ((IntKind.u32.wrap (a0_0 + b1_0)), (IntKind.i64.wrap (a0_1 + b1_1)), ())
def g (a0_0 : Int) (a0_1 : Int) (b1_0 : Int) (b1_1 : Int) : Option (Int × Int × Unit) := f (1000 + a0_0.toNat + a0_1.toNat + b1_0.toNat + b1_1.toNat) a0_0 a0_1 b1_0 b1_1
end value_sum

-- rivet/value.Of
namespace value_Of
def j27 (n : Nat) (rl5 : (List (Str × Int × Unit)) → (List (Int × Int × Str × Unit)) → Int → Int → Int → Int → (List (Int × Int × Unit)) → Option (Int × Int × Int × Unit)) (labels1 : List (Str × Int × Unit)) (t20 : List (Int × Int × Str × Unit)) (t21 : Int) (t22 : Int) (b0_0 : Int) (b0_1 : Int) (b1_0 : List (Int × Int × Unit)) (b2_0 : Int) (b2_1 : Int) : Option (Int × Int × Int × Unit) :=
    if (b1_0.length + ([(b2_0, b2_1, ())] : List (Int × Int × Unit)).length) * 16 ≤ 140737488355328 ∧ 0 < 16 ∧ 0 < 2 then 
    (rl5 labels1 t20 t21 (IntKind.i64.wrap (t22 + (1 : Int))) b0_0 b0_1 (b1_0 ++ ([(b2_0, b2_1, ())] : List (Int × Int × Unit)))) else none
def l5 (n : Nat) : Nat → (List (Str × Int × Unit)) → (List (Int × Int × Str × Unit)) → Int → Int → Int → Int → (List (Int × Int × Unit)) → Option (Int × Int × Int × Unit)
  | 0, _, _, _, _, _, _, _ => none
  | m + 1, labels1, t20, t21, t22, b0_0, b0_1, b1_0 =>
    if (decide (t22 < t21)) = true then 
    (if 0 ≤ t22 ∧ t22 < (t20.length : Int) then 
    (if (decide ((t20.getD (t22).toNat ((0 : Int), ((0 : Int), (([] : Str), ())))).1 = (2 : Int))) = true then 
    ((value_Find.g labels1 ((((t20.getD (t22).toNat ((0 : Int), ((0 : Int), (([] : Str), ())))).2).2).1)).bind fun y1 =>
    if (!y1.2.1) = true then (some (0, 0, (25 : Int), ()))
    else 
    (value_Of.j27 n (value_Of.l5 n m) labels1 t20 t21 t22 b0_0 b0_1 b1_0 (IntKind.u32.wrap y1.1) (1 : Int)))
    else 
    (if (decide ((t20.getD (t22).toNat ((0 : Int), ((0 : Int), (([] : Str), ())))).1 = (3 : Int))) = true then 
    ((value_stack_api_Value_pop.g b1_0).bind fun y2 =>
    (value_times.g y2.1 y2.2.1 (-1 : Int)).bind fun y3 =>
    value_Of.j27 n (value_Of.l5 n m) labels1 t20 t21 t22 b0_0 b0_1 y2.2.2.1 y3.1 y3.2.1)
    else 
    (if (decide ((t20.getD (t22).toNat ((0 : Int), ((0 : Int), (([] : Str), ())))).1 = (4 : Int))) = true then 
    ((value_stack_api_Value_pop.g b1_0).bind fun y4 =>
    (value_stack_api_Value_pop.g y4.2.2.1).bind fun y5 =>
    (value_sum.g y4.1 y4.2.1 y5.1 y5.2.1).bind fun y6 =>
    value_Of.j27 n (value_Of.l5 n m) labels1 t20 t21 t22 b0_0 b0_1 y5.2.2.1 y6.1 y6.2.1)
    else 
    (if (decide ((t20.getD (t22).toNat ((0 : Int), ((0 : Int), (([] : Str), ())))).1 = (5 : Int))) = true then 
    ((value_stack_api_Value_pop.g b1_0).bind fun y7 =>
    (value_stack_api_Value_pop.g y7.2.2.1).bind fun y8 =>
    (value_times.g y7.1 y7.2.1 (-1 : Int)).bind fun y9 =>
    (value_sum.g y8.1 y8.2.1 y9.1 y9.2.1).bind fun y10 =>
    value_Of.j27 n (value_Of.l5 n m) labels1 t20 t21 t22 b0_0 b0_1 y8.2.2.1 y10.1 y10.2.1)
    else 
    (if (decide ((t20.getD (t22).toNat ((0 : Int), ((0 : Int), (([] : Str), ())))).1 = (6 : Int))) = true then 
    ((value_stack_api_Value_pop.g b1_0).bind fun y11 =>
    (value_stack_api_Value_pop.g y11.2.2.1).bind fun y12 =>
    if (!(decide (y11.1 = y11.1) && (decide (y11.2.1 = 0) && true))) = false then 
    (if (!(decide (y12.1 = y12.1) && (decide (y12.2.1 = 0) && true))) = true then (some (0, 0, (27 : Int), ()))
    else 
    (value_Of.j27 n (value_Of.l5 n m) labels1 t20 t21 t22 b0_0 b0_1 y12.2.2.1 (IntKind.u32.wrap (y11.1 * y12.1)) 0))
    else (some (0, 0, (27 : Int), ())))
    else 
    (value_Of.j27 n (value_Of.l5 n m) labels1 t20 t21 t22 b0_0 b0_1 b1_0 (((t20.getD (t22).toNat ((0 : Int), ((0 : Int), (([] : Str), ())))).2).1) 0)))))) else none)
    else 
    ((value_stack_api_Value_pop.g b1_0).bind fun y13 =>
    some (y13.1, y13.2.1, (0 : Int), ()))
def f (n : Nat) (e0 : List (Int × Int × Str × Unit)) (labels1 : List (Str × Int × Unit)) : Option (Int × Int × Int × Unit) :=
    (expr_Well.g e0).bind fun y1 =>
    if (!y1.1) = true then (some (0, 0, (23 : Int), ()))
    else 
    (value_Of.l5 n n labels1 e0 (e0.length : Int) (0 : Int) 0 0 ([]))
def g (e0 : List (Int × Int × Str × Unit)) (labels1 : List (Str × Int × Unit)) : Option (Int × Int × Int × Unit) := f (1000 + e0.length + labels1.length) e0 labels1
end value_Of

-- rivet/rivetlaw16.shown
namespace rivetlaw16_shown
def f (n : Nat) : Option (Bool × Unit) :=
    (scan_Line.g ([98, 32, 45, 32, 97, 32, 43, 32, 49] : Str)).bind fun y1 =>
    (expr_Parse.g y1.1 (0 : Int)).bind fun y2 =>
    (value_Of.g y2.1 ([(([97] : Str), (8 : Int), ()), (([98] : Str), (20 : Int), ())] : List (Str × Int × Unit))).bind fun y3 =>
    if (decide (y3.1 = (13 : Int)) && (decide (y3.2.1 = 0) && true)) = true then (some ((decide (y3.2.2.1 = (0 : Int))), ()))
    else (some (false, ()))
def g : Option (Bool × Unit) := f (1000) 
end rivetlaw16_shown

-- rivet/rivetlaw16.short
namespace rivetlaw16_short
def l3 (n : Nat) : Nat → (List (Str × Int × Unit)) → (List (Str × Int × Unit)) → Int → Option ((List (Str × Int × Unit)) × Unit)
  | 0, _, _, _ => none
  | m + 1, l0, out3, i4 =>
    if (decide (i4 < (l0.length : Int))) = true then 
    (if (decide (i4 < (12 : Int))) = true then 
    (if 0 ≤ i4 ∧ i4 < (l0.length : Int) then 
    (if 0 ≤ (mn (((l0.getD (i4).toNat (([] : Str), ((0 : Int), ()))).1).length : Int) (20 : Int)) ∧ (mn (((l0.getD (i4).toNat (([] : Str), ((0 : Int), ()))).1).length : Int) (20 : Int)) ≤ (((l0.getD (i4).toNat (([] : Str), ((0 : Int), ()))).1).length : Int) then 
    (if (out3.length + ([(((((l0.getD (i4).toNat (([] : Str), ((0 : Int), ()))).1).take (((mn (((l0.getD (i4).toNat (([] : Str), ((0 : Int), ()))).1).length : Int) (20 : Int))).toNat)).drop 0), ((l0.getD (i4).toNat (([] : Str), ((0 : Int), ()))).2).1, ())] : List (Str × Int × Unit)).length) * 24 ≤ 140737488355328 ∧ 0 < 24 ∧ 0 < 2 then 
    ((rivetlaw16_short.l3 n m) l0 (out3 ++ ([(((((l0.getD (i4).toNat (([] : Str), ((0 : Int), ()))).1).take (((mn (((l0.getD (i4).toNat (([] : Str), ((0 : Int), ()))).1).length : Int) (20 : Int))).toNat)).drop 0), ((l0.getD (i4).toNat (([] : Str), ((0 : Int), ()))).2).1, ())] : List (Str × Int × Unit))) (IntKind.i64.wrap (i4 + (1 : Int)))) else none) else none) else none)
    else (some (out3, ())))
    else (some (out3, ()))
def f (n : Nat) (l0 : List (Str × Int × Unit)) : Option ((List (Str × Int × Unit)) × Unit) :=
    rivetlaw16_short.l3 n n l0 ([] : List (Str × Int × Unit)) (0 : Int)
def g (l0 : List (Str × Int × Unit)) : Option ((List (Str × Int × Unit)) × Unit) := f (1000 + l0.length) l0
end rivetlaw16_short

-- rivet/rivetref07.Fit
namespace rivetref07_Fit
def l4 (n : Nat) : Nat → Str → Str → Str → Int → Option (Str × Unit)
  | 0, _, _, _, _ => none
  | m + 1, s0, all3, out4, i5 =>
    if (decide (i5 < (s0.length : Int))) = true then 
    (if (decide (i5 < (6 : Int))) = true then 
    (if 0 ≤ i5 ∧ i5 < (s0.length : Int) then 
    (if 0 ≤ i5 ∧ i5 < (s0.length : Int) then 
    (if 0 ≤ (IntKind.i64.wrap ((Int.tmod (IntKind.i64.wrap (bt s0 i5)) (12 : Int)) + (1 : Int))) ∧ (IntKind.i64.wrap ((Int.tmod (IntKind.i64.wrap (bt s0 i5)) (12 : Int)) + (1 : Int))) ≤ (all3.length : Int) then 
    (if 0 ≤ (Int.tmod (IntKind.i64.wrap (bt s0 i5)) (12 : Int)) ∧ (Int.tmod (IntKind.i64.wrap (bt s0 i5)) (12 : Int)) ≤ (IntKind.i64.wrap ((Int.tmod (IntKind.i64.wrap (bt s0 i5)) (12 : Int)) + (1 : Int))) then 
    (if out4.length + ((all3.take (((IntKind.i64.wrap ((Int.tmod (IntKind.i64.wrap (bt s0 i5)) (12 : Int)) + (1 : Int)))).toNat)).drop (((Int.tmod (IntKind.i64.wrap (bt s0 i5)) (12 : Int))).toNat)).length ≤ 9223372036854775807 then 
    ((rivetref07_Fit.l4 n m) s0 all3 (out4 ++ ((all3.take (((IntKind.i64.wrap ((Int.tmod (IntKind.i64.wrap (bt s0 i5)) (12 : Int)) + (1 : Int)))).toNat)).drop (((Int.tmod (IntKind.i64.wrap (bt s0 i5)) (12 : Int))).toNat))) (IntKind.i64.wrap (i5 + (1 : Int)))) else none) else none) else none) else none) else none)
    else (some (out4, ())))
    else (some (out4, ()))
def f (n : Nat) (s0 : Str) : Option (Str × Unit) :=
    rivetref07_Fit.l4 n n s0 ([97, 98, 99, 88, 89, 90, 95, 48, 49, 57, 82, 109] : Str) (bytesOf ([(IntKind.u8.wrap ((97 : Int) + (IntKind.u8.wrap (Int.tmod (s0.length : Int) (26 : Int)))))] : List Int)) (0 : Int)
def g (s0 : Str) : Option (Str × Unit) := f (1000 + s0.length) s0
end rivetref07_Fit

-- rivet/rivetref13.Fit
namespace rivetref13_Fit
def f (n : Nat) (s0 : Str) : Option (Str × Unit) :=
    (rivetref07_Fit.g s0).bind fun y1 =>
    if (decide ((Int.tmod (s0.length : Int) (3 : Int)) = (1 : Int))) = true then 
    (if 0 ≤ (mn (y1.1.length : Int) (11 : Int)) ∧ (mn (y1.1.length : Int) (11 : Int)) ≤ (y1.1.length : Int) then 
    (if ([95] : Str).length + ((y1.1.take (((mn (y1.1.length : Int) (11 : Int))).toNat)).drop 0).length ≤ 9223372036854775807 then 
    (some ((([95] : Str) ++ ((y1.1.take (((mn (y1.1.length : Int) (11 : Int))).toNat)).drop 0)), ())) else none) else none)
    else (some (y1.1, ()))
def g (s0 : Str) : Option (Str × Unit) := f (1000 + s0.length) s0
end rivetref13_Fit

-- rivet/rivetref15.Fit
namespace rivetref15_Fit
def j18 (n : Nat) (rl4 : (List (Int × Int × Str × Unit)) → (List (Int × Int × Str × Unit)) → Int → Int → Option ((List (Int × Int × Str × Unit)) × Unit)) (l0 : List (Int × Int × Str × Unit)) (out3 : List (Int × Int × Str × Unit)) (there4 : Int) (i5 : Int) (b0_0 : Int) (b0_1 : Int) (b0_2 : Str) : Option ((List (Int × Int × Str × Unit)) × Unit) :=
    if (out3.length + ([(b0_0, b0_1, b0_2, ())] : List (Int × Int × Str × Unit)).length) * 32 ≤ 140737488355328 ∧ 0 < 32 ∧ 0 < 3 then 
    (rl4 l0 (out3 ++ ([(b0_0, b0_1, b0_2, ())] : List (Int × Int × Str × Unit))) there4 (IntKind.i64.wrap (i5 + (1 : Int)))) else none
def j9 (n : Nat) (rl4 : (List (Int × Int × Str × Unit)) → (List (Int × Int × Str × Unit)) → Int → Int → Option ((List (Int × Int × Str × Unit)) × Unit)) (l0 : List (Int × Int × Str × Unit)) (out3 : List (Int × Int × Str × Unit)) (there4 : Int) (i5 : Int) (b0_0 : Int) (b0_1 : Int) (b0_2 : Str) : Option ((List (Int × Int × Str × Unit)) × Unit) :=
    if (decide (b0_0 = (1 : Int))) = true then 
    (if 0 ≤ i5 ∧ i5 < (l0.length : Int) then 
    (rivetref15_Fit.j18 n rl4 l0 out3 (IntKind.i64.wrap (there4 + (1 : Int))) i5 b0_0 (((l0.getD (i5).toNat ((0 : Int), ((0 : Int), (([] : Str), ())))).2).1) b0_2) else none)
    else 
    (if (decide (b0_0 = (2 : Int))) = true then 
    (if 0 ≤ i5 ∧ i5 < (l0.length : Int) then 
    (if 0 ≤ i5 ∧ i5 < (l0.length : Int) then 
    (if 0 ≤ (mn (((((l0.getD (i5).toNat ((0 : Int), ((0 : Int), (([] : Str), ())))).2).2).1).length : Int) (6 : Int)) ∧ (mn (((((l0.getD (i5).toNat ((0 : Int), ((0 : Int), (([] : Str), ())))).2).2).1).length : Int) (6 : Int)) ≤ (((((l0.getD (i5).toNat ((0 : Int), ((0 : Int), (([] : Str), ())))).2).2).1).length : Int) then 
    ((rivetref13_Fit.g ((((((l0.getD (i5).toNat ((0 : Int), ((0 : Int), (([] : Str), ())))).2).2).1).take (((mn (((((l0.getD (i5).toNat ((0 : Int), ((0 : Int), (([] : Str), ())))).2).2).1).length : Int) (6 : Int))).toNat)).drop 0)).bind fun y1 =>
    rivetref15_Fit.j18 n rl4 l0 out3 (IntKind.i64.wrap (there4 + (1 : Int))) i5 b0_0 b0_1 y1.1) else none) else none) else none)
    else 
    (if (decide (b0_0 = (3 : Int))) = true then (rivetref15_Fit.j18 n rl4 l0 out3 there4 i5 b0_0 b0_1 b0_2)
    else 
    (rivetref15_Fit.j18 n rl4 l0 out3 (IntKind.i64.wrap (there4 - (1 : Int))) i5 b0_0 b0_1 b0_2)))
def l21 (n : Nat) : Nat → (List (Int × Int × Str × Unit)) → Int → Option ((List (Int × Int × Str × Unit)) × Unit)
  | 0, _, _ => none
  | m + 1, out3, there4 =>
    if (decide ((1 : Int) < there4)) = true then 
    (if (out3.length + ([((4 : Int), 0, ([] : Str), ())] : List (Int × Int × Str × Unit)).length) * 32 ≤ 140737488355328 ∧ 0 < 32 ∧ 0 < 3 then 
    ((rivetref15_Fit.l21 n m) (out3 ++ ([((4 : Int), 0, ([] : Str), ())] : List (Int × Int × Str × Unit))) (IntKind.i64.wrap (there4 - (1 : Int)))) else none)
    else (some (out3, ()))
def j19 (n : Nat) (out3 : List (Int × Int × Str × Unit)) (there4 : Int) : Option ((List (Int × Int × Str × Unit)) × Unit) :=
    if (decide (there4 = (0 : Int))) = true then 
    (some (([((1 : Int), (7 : Int), ([] : Str), ())] : List (Int × Int × Str × Unit)), ()))
    else (rivetref15_Fit.l21 n n out3 there4)
def l4 (n : Nat) : Nat → (List (Int × Int × Str × Unit)) → (List (Int × Int × Str × Unit)) → Int → Int → Option ((List (Int × Int × Str × Unit)) × Unit)
  | 0, _, _, _, _ => none
  | m + 1, l0, out3, there4, i5 =>
    if (decide (i5 < (l0.length : Int))) = true then 
    (if (decide (i5 < (10 : Int))) = true then 
    (if 0 ≤ i5 ∧ i5 < (l0.length : Int) then 
    (if (decide ((IntKind.i64.wrap ((1 : Int) + (Int.tmod (IntKind.i64.wrap ((Int.tmod ((l0.getD (i5).toNat ((0 : Int), ((0 : Int), (([] : Str), ())))).1) (6 : Int)) + (6 : Int))) (6 : Int)))) = (3 : Int))) = true then 
    (if (decide (there4 < (1 : Int))) = false then 
    (if (decide ((3 : Int) < (IntKind.i64.wrap ((1 : Int) + (Int.tmod (IntKind.i64.wrap ((Int.tmod ((l0.getD (i5).toNat ((0 : Int), ((0 : Int), (([] : Str), ())))).1) (6 : Int)) + (6 : Int))) (6 : Int)))))) = true then 
    (if (decide (there4 < (2 : Int))) = true then 
    (rivetref15_Fit.j9 n (rivetref15_Fit.l4 n m) l0 out3 there4 i5 (1 : Int) 0 ([] : Str))
    else 
    (rivetref15_Fit.j9 n (rivetref15_Fit.l4 n m) l0 out3 there4 i5 (IntKind.i64.wrap ((1 : Int) + (Int.tmod (IntKind.i64.wrap ((Int.tmod ((l0.getD (i5).toNat ((0 : Int), ((0 : Int), (([] : Str), ())))).1) (6 : Int)) + (6 : Int))) (6 : Int)))) 0 ([] : Str)))
    else 
    (rivetref15_Fit.j9 n (rivetref15_Fit.l4 n m) l0 out3 there4 i5 (IntKind.i64.wrap ((1 : Int) + (Int.tmod (IntKind.i64.wrap ((Int.tmod ((l0.getD (i5).toNat ((0 : Int), ((0 : Int), (([] : Str), ())))).1) (6 : Int)) + (6 : Int))) (6 : Int)))) 0 ([] : Str)))
    else 
    (rivetref15_Fit.j9 n (rivetref15_Fit.l4 n m) l0 out3 there4 i5 (1 : Int) 0 ([] : Str)))
    else 
    (if (decide ((3 : Int) < (IntKind.i64.wrap ((1 : Int) + (Int.tmod (IntKind.i64.wrap ((Int.tmod ((l0.getD (i5).toNat ((0 : Int), ((0 : Int), (([] : Str), ())))).1) (6 : Int)) + (6 : Int))) (6 : Int)))))) = true then 
    (if (decide (there4 < (2 : Int))) = true then 
    (rivetref15_Fit.j9 n (rivetref15_Fit.l4 n m) l0 out3 there4 i5 (1 : Int) 0 ([] : Str))
    else 
    (rivetref15_Fit.j9 n (rivetref15_Fit.l4 n m) l0 out3 there4 i5 (IntKind.i64.wrap ((1 : Int) + (Int.tmod (IntKind.i64.wrap ((Int.tmod ((l0.getD (i5).toNat ((0 : Int), ((0 : Int), (([] : Str), ())))).1) (6 : Int)) + (6 : Int))) (6 : Int)))) 0 ([] : Str)))
    else 
    (rivetref15_Fit.j9 n (rivetref15_Fit.l4 n m) l0 out3 there4 i5 (IntKind.i64.wrap ((1 : Int) + (Int.tmod (IntKind.i64.wrap ((Int.tmod ((l0.getD (i5).toNat ((0 : Int), ((0 : Int), (([] : Str), ())))).1) (6 : Int)) + (6 : Int))) (6 : Int)))) 0 ([] : Str)))) else none)
    else (rivetref15_Fit.j19 n out3 there4))
    else (rivetref15_Fit.j19 n out3 there4)
def f (n : Nat) (l0 : List (Int × Int × Str × Unit)) : Option ((List (Int × Int × Str × Unit)) × Unit) :=
    rivetref15_Fit.l4 n n l0 ([] : List (Int × Int × Str × Unit)) (0 : Int) (0 : Int)
def g (l0 : List (Int × Int × Str × Unit)) : Option ((List (Int × Int × Str × Unit)) × Unit) := f (1000 + l0.length) l0
end rivetref15_Fit

-- rivet/rivetref16.Named
namespace rivetref16_Named
def j4 (n : Nat) (rl3 : (List (Str × Int × Unit)) → (List (Int × Int × Str × Unit)) → Int → Option ((List (Int × Int × Str × Unit)) × Unit)) (labels1 : List (Str × Int × Unit)) (out5 : List (Int × Int × Str × Unit)) (i6 : Int) : Option ((List (Int × Int × Str × Unit)) × Unit) :=
    rl3 labels1 out5 (IntKind.i64.wrap (i6 + (1 : Int)))
def l3 (n : Nat) : Nat → (List (Str × Int × Unit)) → (List (Int × Int × Str × Unit)) → Int → Option ((List (Int × Int × Str × Unit)) × Unit)
  | 0, _, _, _ => none
  | m + 1, labels1, out5, i6 =>
    if (decide (i6 < (out5.length : Int))) = true then 
    (if 0 ≤ i6 ∧ i6 < (out5.length : Int) then 
    (if (decide ((out5.getD (i6).toNat ((0 : Int), ((0 : Int), (([] : Str), ())))).1 ≠ (2 : Int))) = true then 
    (rivetref16_Named.j4 n (rivetref16_Named.l3 n m) labels1 out5 i6)
    else 
    (if (decide ((labels1.length : Int) = (0 : Int))) = true then 
    (if 0 ≤ i6 ∧ i6 < (out5.length : Int) then 
    (if 0 ≤ i6 ∧ i6 < (out5.length : Int) then 
    (rivetref16_Named.j4 n (rivetref16_Named.l3 n m) labels1 (out5.set (i6).toNat ((1 : Int), (IntKind.u32.wrap (((((out5.getD (i6).toNat ((0 : Int), ((0 : Int), (([] : Str), ())))).2).2).1).length : Int)), ([] : Str), ())) i6) else none) else none)
    else 
    (if 0 ≤ i6 ∧ i6 < (out5.length : Int) then 
    (if (labels1.length : Int) = 0 then none else 
    (if 0 ≤ (Int.tmod (IntKind.i64.wrap (i6 + (((((out5.getD (i6).toNat ((0 : Int), ((0 : Int), (([] : Str), ())))).2).2).1).length : Int))) (labels1.length : Int)) ∧ (Int.tmod (IntKind.i64.wrap (i6 + (((((out5.getD (i6).toNat ((0 : Int), ((0 : Int), (([] : Str), ())))).2).2).1).length : Int))) (labels1.length : Int)) < (labels1.length : Int) then 
    (if 0 ≤ i6 ∧ i6 < (out5.length : Int) then 
    (rivetref16_Named.j4 n (rivetref16_Named.l3 n m) labels1 (out5.set (i6).toNat ((out5.getD (i6).toNat ((0 : Int), ((0 : Int), (([] : Str), ())))).1, ((out5.getD (i6).toNat ((0 : Int), ((0 : Int), (([] : Str), ())))).2).1, (labels1.getD ((Int.tmod (IntKind.i64.wrap (i6 + (((((out5.getD (i6).toNat ((0 : Int), ((0 : Int), (([] : Str), ())))).2).2).1).length : Int))) (labels1.length : Int))).toNat (([] : Str), ((0 : Int), ()))).1, ())) i6) else none) else none)) else none))) else none)
    else (some (out5, ()))
def f (n : Nat) (e0 : List (Int × Int × Str × Unit)) (labels1 : List (Str × Int × Unit)) : Option ((List (Int × Int × Str × Unit)) × Unit) :=
    (rivetref15_Fit.g e0).bind fun y1 =>
    rivetref16_Named.l3 n n labels1 y1.1 (0 : Int)
def g (e0 : List (Int × Int × Str × Unit)) (labels1 : List (Str × Int × Unit)) : Option ((List (Int × Int × Str × Unit)) × Unit) := f (1000 + e0.length + labels1.length) e0 labels1
end rivetref16_Named

-- rivet/rivetref07.letter
namespace rivetref07_letter
def f (n : Nat) (c0 : Int) : Option (Bool × Unit) :=
    if (decide ((65 : Int) ≤ c0)) = true then 
    (if (decide (c0 ≤ (90 : Int))) = false then 
    (if (decide ((97 : Int) ≤ c0)) = true then (some ((decide (c0 ≤ (122 : Int))), ()))
    else (some (false, ())))
    else (some (true, ())))
    else 
    (if (decide ((97 : Int) ≤ c0)) = true then (some ((decide (c0 ≤ (122 : Int))), ()))
    else (some (false, ())))
def g (c0 : Int) : Option (Bool × Unit) := f (1000 + c0.toNat) c0
end rivetref07_letter

-- rivet/rivetref07.digit
namespace rivetref07_digit
def f (n : Nat) (c0 : Int) : Option (Bool × Unit) :=
    if (decide ((48 : Int) ≤ c0)) = true then (some ((decide (c0 ≤ (57 : Int))), ()))
    else (some (false, ()))
def g (c0 : Int) : Option (Bool × Unit) := f (1000 + c0.toNat) c0
end rivetref07_digit

-- rivet/rivetref07.Register
namespace rivetref07_Register
def f (n : Nat) (s0 : Str) : Option (Bool × Unit) :=
    if (decide ((s0.length : Int) < (2 : Int))) = false then 
    (if (decide ((3 : Int) < (s0.length : Int))) = false then 
    (if 0 ≤ (0 : Int) ∧ (0 : Int) < (s0.length : Int) then 
    (if (decide ((bt s0 (0 : Int)) ≠ (82 : Int))) = true then (some (false, ()))
    else 
    (if 0 ≤ (1 : Int) ∧ (1 : Int) < (s0.length : Int) then 
    ((rivetref07_digit.g (bt s0 (1 : Int))).bind fun y1 =>
    if y1.1 = true then 
    (if (decide ((s0.length : Int) = (2 : Int))) = false then 
    (if 0 ≤ (2 : Int) ∧ (2 : Int) < (s0.length : Int) then 
    ((rivetref07_digit.g (bt s0 (2 : Int))).bind fun y2 =>
    some (y2.1, ())) else none)
    else (some (true, ())))
    else (some (false, ()))) else none)) else none)
    else (some (false, ())))
    else (some (false, ()))
def g (s0 : Str) : Option (Bool × Unit) := f (1000 + s0.length) s0
end rivetref07_Register

-- rivet/rivetref07.Name
namespace rivetref07_Name
def j5 (n : Nat) (rl4 : Str → Int → Option (Bool × Unit)) (s0 : Str) (i3 : Int) : Option (Bool × Unit) :=
    rl4 s0 (IntKind.i64.wrap (i3 + (1 : Int)))
def l4 (n : Nat) : Nat → Str → Int → Option (Bool × Unit)
  | 0, _, _ => none
  | m + 1, s0, i3 =>
    if (decide (i3 < (s0.length : Int))) = true then 
    (if 0 ≤ i3 ∧ i3 < (s0.length : Int) then 
    ((rivetref07_letter.g (bt s0 i3)).bind fun y1 =>
    if (!y1.1) = true then 
    (if 0 ≤ i3 ∧ i3 < (s0.length : Int) then 
    ((rivetref07_digit.g (bt s0 i3)).bind fun y2 =>
    if (!y2.1) = true then 
    (if 0 ≤ i3 ∧ i3 < (s0.length : Int) then 
    (if (decide ((bt s0 i3) ≠ (95 : Int))) = true then (some (false, ()))
    else (rivetref07_Name.j5 n (rivetref07_Name.l4 n m) s0 i3)) else none)
    else (rivetref07_Name.j5 n (rivetref07_Name.l4 n m) s0 i3)) else none)
    else (rivetref07_Name.j5 n (rivetref07_Name.l4 n m) s0 i3)) else none)
    else (some (true, ()))
def f (n : Nat) (s0 : Str) : Option (Bool × Unit) :=
    if (decide ((s0.length : Int) < (1 : Int))) = false then 
    (if (decide ((12 : Int) < (s0.length : Int))) = false then 
    (if 0 ≤ (0 : Int) ∧ (0 : Int) < (s0.length : Int) then 
    ((rivetref07_letter.g (bt s0 (0 : Int))).bind fun y1 =>
    if (!y1.1) = false then 
    ((rivetref07_Register.g s0).bind fun y2 =>
    if y2.1 = true then (some (false, ()))
    else (rivetref07_Name.l4 n n s0 (0 : Int)))
    else (some (false, ()))) else none)
    else (some (false, ())))
    else (some (false, ()))
def g (s0 : Str) : Option (Bool × Unit) := f (1000 + s0.length) s0
end rivetref07_Name

-- rivet/rivetref13.Label
namespace rivetref13_Label
def j3 (n : Nat) (s0 : Str) : Option (Bool × Unit) :=
    (rivetref07_Name.g s0).bind fun y1 =>
    some (y1.1, ())
def f (n : Nat) (s0 : Str) : Option (Bool × Unit) :=
    if (decide ((0 : Int) < (s0.length : Int))) = true then 
    (if 0 ≤ (0 : Int) ∧ (0 : Int) < (s0.length : Int) then 
    (if (decide ((bt s0 (0 : Int)) = (95 : Int))) = true then 
    (if 0 ≤ (1 : Int) ∧ (1 : Int) ≤ (s0.length : Int) then 
    (if ([97] : Str).length + ((s0.take (((s0.length : Int)).toNat)).drop (((1 : Int)).toNat)).length ≤ 9223372036854775807 then 
    ((rivetref07_Name.g (([97] : Str) ++ ((s0.take (((s0.length : Int)).toNat)).drop (((1 : Int)).toNat)))).bind fun y1 =>
    some (y1.1, ())) else none) else none)
    else (rivetref13_Label.j3 n s0)) else none)
    else (rivetref13_Label.j3 n s0)
def g (s0 : Str) : Option (Bool × Unit) := f (1000 + s0.length) s0
end rivetref13_Label

-- rivet/rivetref15.needs
namespace rivetref15_needs
def f (n : Nat) (x0_0 : Int) (x0_1 : Int) (x0_2 : Str) : Option (Int × Unit) :=
    if (decide (x0_0 = (1 : Int))) = true then 
    (if (decide (x0_2 = ([] : Str))) = true then (some ((0 : Int), ()))
    else (some ((-1 : Int), ())))
    else 
    (if (decide (x0_0 = (2 : Int))) = true then 
    (if (decide (x0_1 = (0 : Int))) = true then 
    ((rivetref13_Label.g x0_2).bind fun y1 =>
    if y1.1 = true then (some ((0 : Int), ()))
    else (some ((-1 : Int), ())))
    else (some ((-1 : Int), ())))
    else 
    (if (decide (x0_1 ≠ (0 : Int))) = false then 
    (if (!(decide (x0_2 = ([] : Str)))) = true then (some ((-1 : Int), ()))
    else 
    (if (decide (x0_0 = (3 : Int))) = true then (some ((1 : Int), ()))
    else 
    (if (decide ((4 : Int) ≤ x0_0)) = true then 
    (if (decide (x0_0 ≤ (6 : Int))) = true then (some ((2 : Int), ()))
    else (some ((-1 : Int), ())))
    else (some ((-1 : Int), ())))))
    else (some ((-1 : Int), ()))))
def g (x0_0 : Int) (x0_1 : Int) (x0_2 : Str) : Option (Int × Unit) := f (1000 + x0_0.toNat + x0_1.toNat + x0_2.length) x0_0 x0_1 x0_2
end rivetref15_needs

-- rivet/rivetref15.Well
namespace rivetref15_Well
def l3 (n : Nat) : Nat → (List (Int × Int × Str × Unit)) → Int → Int → Option (Bool × Unit)
  | 0, _, _, _ => none
  | m + 1, e0, there3, i4 =>
    if (decide (i4 < (e0.length : Int))) = true then 
    (if 0 ≤ i4 ∧ i4 < (e0.length : Int) then 
    ((rivetref15_needs.g ((e0.getD (i4).toNat ((0 : Int), ((0 : Int), (([] : Str), ())))).1) (((e0.getD (i4).toNat ((0 : Int), ((0 : Int), (([] : Str), ())))).2).1) ((((e0.getD (i4).toNat ((0 : Int), ((0 : Int), (([] : Str), ())))).2).2).1)).bind fun y1 =>
    if (decide (y1.1 < (0 : Int))) = false then 
    (if (decide (there3 < y1.1)) = true then (some (false, ()))
    else 
    ((rivetref15_Well.l3 n m) e0 (IntKind.i64.wrap ((IntKind.i64.wrap (there3 - y1.1)) + (1 : Int))) (IntKind.i64.wrap (i4 + (1 : Int)))))
    else (some (false, ()))) else none)
    else 
    (if (decide (there3 = (1 : Int))) = true then (some ((decide ((e0.length : Int) ≤ (64 : Int))), ()))
    else (some (false, ())))
def f (n : Nat) (e0 : List (Int × Int × Str × Unit)) : Option (Bool × Unit) :=
    rivetref15_Well.l3 n n e0 (0 : Int) (0 : Int)
def g (e0 : List (Int × Int × Str × Unit)) : Option (Bool × Unit) := f (1000 + e0.length) e0
end rivetref15_Well

-- rivet/rivetref16.Find
namespace rivetref16_Find
def l2 (n : Nat) : Nat → (List (Str × Int × Unit)) → Str → Int → Option (Int × Bool × Unit)
  | 0, _, _, _ => none
  | m + 1, labels0, s1, i6 =>
    if (decide (i6 < (labels0.length : Int))) = true then 
    (if 0 ≤ i6 ∧ i6 < (labels0.length : Int) then 
    (if (decide ((labels0.getD (i6).toNat (([] : Str), ((0 : Int), ()))).1 = s1)) = true then 
    (if 0 ≤ i6 ∧ i6 < (labels0.length : Int) then 
    (some (((labels0.getD (i6).toNat (([] : Str), ((0 : Int), ()))).2).1, true, ())) else none)
    else 
    ((rivetref16_Find.l2 n m) labels0 s1 (IntKind.i64.wrap (i6 + (1 : Int))))) else none)
    else (some ((0 : Int), false, ()))
def f (n : Nat) (labels0 : List (Str × Int × Unit)) (s1 : Str) : Option (Int × Bool × Unit) :=
    rivetref16_Find.l2 n n labels0 s1 (0 : Int)
def g (labels0 : List (Str × Int × Unit)) (s1 : Str) : Option (Int × Bool × Unit) := f (1000 + labels0.length + s1.length) labels0 s1
end rivetref16_Find

-- rivet/rivetref16.Of
namespace rivetref16_Of
def j29 (n : Nat) (rl5 : (List (Int × Int × Str × Unit)) → (List (Str × Int × Unit)) → (List (Int × Int × Unit)) → Int → Int → Int → Option (Int × Int × Int × Unit)) (e0 : List (Int × Int × Str × Unit)) (labels1 : List (Str × Int × Unit)) (l6 : List (Int × Int × Unit)) (i7 : Int) (n8 : Int) (b0_0 : Int) (b0_1 : Int) (b1_0 : Int) (b1_1 : Int) : Option (Int × Int × Int × Unit) :=
    if 0 ≤ n8 ∧ n8 ≤ (l6.length : Int) then 
    (if (([] : List (Int × Int × Unit)).length + (l6.take (n8).toNat).length) * 16 ≤ 140737488355328 ∧ 0 < 16 ∧ 0 < 2 then 
    (if ((([] : List (Int × Int × Unit)) ++ (l6.take (n8).toNat)).length + ([(b1_0, b1_1, ())] : List (Int × Int × Unit)).length) * 16 ≤ 140737488355328 ∧ 0 < 16 ∧ 0 < 2 then 
    (rl5 e0 labels1 ((([] : List (Int × Int × Unit)) ++ (l6.take (n8).toNat)) ++ ([(b1_0, b1_1, ())] : List (Int × Int × Unit))) (IntKind.i64.wrap (i7 + (1 : Int))) b0_0 b0_1) else none) else none) else none
def l5 (n : Nat) : Nat → (List (Int × Int × Str × Unit)) → (List (Str × Int × Unit)) → (List (Int × Int × Unit)) → Int → Int → Int → Option (Int × Int × Int × Unit)
  | 0, _, _, _, _, _, _ => none
  | m + 1, e0, labels1, l6, i7, b0_0, b0_1 =>
    if (decide (i7 < (e0.length : Int))) = true then 
    (if 0 ≤ i7 ∧ i7 < (e0.length : Int) then 
    (if 0 ≤ i7 ∧ i7 < (e0.length : Int) then 
    (if (decide ((e0.getD (i7).toNat ((0 : Int), ((0 : Int), (([] : Str), ())))).1 = (2 : Int))) = true then 
    (if 0 ≤ i7 ∧ i7 < (e0.length : Int) then 
    ((rivetref16_Find.g labels1 ((((e0.getD (i7).toNat ((0 : Int), ((0 : Int), (([] : Str), ())))).2).2).1)).bind fun y1 =>
    if (!y1.2.1) = true then (some (0, 0, (25 : Int), ()))
    else 
    (rivetref16_Of.j29 n (rivetref16_Of.l5 n m) e0 labels1 l6 i7 (l6.length : Int) b0_0 b0_1 (IntKind.u32.wrap y1.1) (1 : Int))) else none)
    else 
    (if (decide ((e0.getD (i7).toNat ((0 : Int), ((0 : Int), (([] : Str), ())))).1 = (3 : Int))) = true then 
    (if 0 ≤ (IntKind.i64.wrap ((l6.length : Int) - (1 : Int))) ∧ (IntKind.i64.wrap ((l6.length : Int) - (1 : Int))) < (l6.length : Int) then 
    (if 0 ≤ (IntKind.i64.wrap ((l6.length : Int) - (1 : Int))) ∧ (IntKind.i64.wrap ((l6.length : Int) - (1 : Int))) < (l6.length : Int) then 
    (rivetref16_Of.j29 n (rivetref16_Of.l5 n m) e0 labels1 l6 i7 (IntKind.i64.wrap ((l6.length : Int) - (1 : Int))) b0_0 b0_1 (IntKind.u32.wrap (0 - (l6.getD ((IntKind.i64.wrap ((l6.length : Int) - (1 : Int)))).toNat ((0 : Int), ((0 : Int), ()))).1)) (IntKind.i64.wrap (0 - ((l6.getD ((IntKind.i64.wrap ((l6.length : Int) - (1 : Int)))).toNat ((0 : Int), ((0 : Int), ()))).2).1))) else none) else none)
    else 
    (if (decide ((e0.getD (i7).toNat ((0 : Int), ((0 : Int), (([] : Str), ())))).1 = (4 : Int))) = true then 
    (if 0 ≤ (IntKind.i64.wrap ((l6.length : Int) - (2 : Int))) ∧ (IntKind.i64.wrap ((l6.length : Int) - (2 : Int))) < (l6.length : Int) then 
    (if 0 ≤ (IntKind.i64.wrap ((IntKind.i64.wrap ((l6.length : Int) - (2 : Int))) + (1 : Int))) ∧ (IntKind.i64.wrap ((IntKind.i64.wrap ((l6.length : Int) - (2 : Int))) + (1 : Int))) < (l6.length : Int) then 
    (if 0 ≤ (IntKind.i64.wrap ((l6.length : Int) - (2 : Int))) ∧ (IntKind.i64.wrap ((l6.length : Int) - (2 : Int))) < (l6.length : Int) then 
    (if 0 ≤ (IntKind.i64.wrap ((IntKind.i64.wrap ((l6.length : Int) - (2 : Int))) + (1 : Int))) ∧ (IntKind.i64.wrap ((IntKind.i64.wrap ((l6.length : Int) - (2 : Int))) + (1 : Int))) < (l6.length : Int) then 
    (rivetref16_Of.j29 n (rivetref16_Of.l5 n m) e0 labels1 l6 i7 (IntKind.i64.wrap ((l6.length : Int) - (2 : Int))) b0_0 b0_1 (IntKind.u32.wrap ((l6.getD ((IntKind.i64.wrap ((l6.length : Int) - (2 : Int)))).toNat ((0 : Int), ((0 : Int), ()))).1 + (l6.getD ((IntKind.i64.wrap ((IntKind.i64.wrap ((l6.length : Int) - (2 : Int))) + (1 : Int)))).toNat ((0 : Int), ((0 : Int), ()))).1)) (IntKind.i64.wrap (((l6.getD ((IntKind.i64.wrap ((l6.length : Int) - (2 : Int)))).toNat ((0 : Int), ((0 : Int), ()))).2).1 + ((l6.getD ((IntKind.i64.wrap ((IntKind.i64.wrap ((l6.length : Int) - (2 : Int))) + (1 : Int)))).toNat ((0 : Int), ((0 : Int), ()))).2).1))) else none) else none) else none) else none)
    else 
    (if (decide ((e0.getD (i7).toNat ((0 : Int), ((0 : Int), (([] : Str), ())))).1 = (5 : Int))) = true then 
    (if 0 ≤ (IntKind.i64.wrap ((l6.length : Int) - (2 : Int))) ∧ (IntKind.i64.wrap ((l6.length : Int) - (2 : Int))) < (l6.length : Int) then 
    (if 0 ≤ (IntKind.i64.wrap ((IntKind.i64.wrap ((l6.length : Int) - (2 : Int))) + (1 : Int))) ∧ (IntKind.i64.wrap ((IntKind.i64.wrap ((l6.length : Int) - (2 : Int))) + (1 : Int))) < (l6.length : Int) then 
    (if 0 ≤ (IntKind.i64.wrap ((l6.length : Int) - (2 : Int))) ∧ (IntKind.i64.wrap ((l6.length : Int) - (2 : Int))) < (l6.length : Int) then 
    (if 0 ≤ (IntKind.i64.wrap ((IntKind.i64.wrap ((l6.length : Int) - (2 : Int))) + (1 : Int))) ∧ (IntKind.i64.wrap ((IntKind.i64.wrap ((l6.length : Int) - (2 : Int))) + (1 : Int))) < (l6.length : Int) then 
    (rivetref16_Of.j29 n (rivetref16_Of.l5 n m) e0 labels1 l6 i7 (IntKind.i64.wrap ((l6.length : Int) - (2 : Int))) b0_0 b0_1 (IntKind.u32.wrap ((l6.getD ((IntKind.i64.wrap ((l6.length : Int) - (2 : Int)))).toNat ((0 : Int), ((0 : Int), ()))).1 - (l6.getD ((IntKind.i64.wrap ((IntKind.i64.wrap ((l6.length : Int) - (2 : Int))) + (1 : Int)))).toNat ((0 : Int), ((0 : Int), ()))).1)) (IntKind.i64.wrap (((l6.getD ((IntKind.i64.wrap ((l6.length : Int) - (2 : Int)))).toNat ((0 : Int), ((0 : Int), ()))).2).1 - ((l6.getD ((IntKind.i64.wrap ((IntKind.i64.wrap ((l6.length : Int) - (2 : Int))) + (1 : Int)))).toNat ((0 : Int), ((0 : Int), ()))).2).1))) else none) else none) else none) else none)
    else 
    (if (decide ((e0.getD (i7).toNat ((0 : Int), ((0 : Int), (([] : Str), ())))).1 = (6 : Int))) = true then 
    (if 0 ≤ (IntKind.i64.wrap ((l6.length : Int) - (2 : Int))) ∧ (IntKind.i64.wrap ((l6.length : Int) - (2 : Int))) < (l6.length : Int) then 
    (if (decide (((l6.getD ((IntKind.i64.wrap ((l6.length : Int) - (2 : Int)))).toNat ((0 : Int), ((0 : Int), ()))).2).1 ≠ (0 : Int))) = false then 
    (if 0 ≤ (IntKind.i64.wrap ((IntKind.i64.wrap ((l6.length : Int) - (2 : Int))) + (1 : Int))) ∧ (IntKind.i64.wrap ((IntKind.i64.wrap ((l6.length : Int) - (2 : Int))) + (1 : Int))) < (l6.length : Int) then 
    (if (decide (((l6.getD ((IntKind.i64.wrap ((IntKind.i64.wrap ((l6.length : Int) - (2 : Int))) + (1 : Int)))).toNat ((0 : Int), ((0 : Int), ()))).2).1 ≠ (0 : Int))) = true then (some (0, 0, (27 : Int), ()))
    else 
    (if 0 ≤ (IntKind.i64.wrap ((l6.length : Int) - (2 : Int))) ∧ (IntKind.i64.wrap ((l6.length : Int) - (2 : Int))) < (l6.length : Int) then 
    (if 0 ≤ (IntKind.i64.wrap ((IntKind.i64.wrap ((l6.length : Int) - (2 : Int))) + (1 : Int))) ∧ (IntKind.i64.wrap ((IntKind.i64.wrap ((l6.length : Int) - (2 : Int))) + (1 : Int))) < (l6.length : Int) then 
    (rivetref16_Of.j29 n (rivetref16_Of.l5 n m) e0 labels1 l6 i7 (IntKind.i64.wrap ((l6.length : Int) - (2 : Int))) b0_0 b0_1 (IntKind.u32.wrap ((l6.getD ((IntKind.i64.wrap ((l6.length : Int) - (2 : Int)))).toNat ((0 : Int), ((0 : Int), ()))).1 * (l6.getD ((IntKind.i64.wrap ((IntKind.i64.wrap ((l6.length : Int) - (2 : Int))) + (1 : Int)))).toNat ((0 : Int), ((0 : Int), ()))).1)) 0) else none) else none)) else none)
    else (some (0, 0, (27 : Int), ()))) else none)
    else 
    (rivetref16_Of.j29 n (rivetref16_Of.l5 n m) e0 labels1 l6 i7 (l6.length : Int) b0_0 b0_1 (((e0.getD (i7).toNat ((0 : Int), ((0 : Int), (([] : Str), ())))).2).1) 0)))))) else none) else none)
    else 
    (if 0 ≤ (0 : Int) ∧ (0 : Int) < (l6.length : Int) then 
    (some ((l6.getD ((0 : Int)).toNat ((0 : Int), ((0 : Int), ()))).1, ((l6.getD ((0 : Int)).toNat ((0 : Int), ((0 : Int), ()))).2).1, (0 : Int), ())) else none)
def f (n : Nat) (e0 : List (Int × Int × Str × Unit)) (labels1 : List (Str × Int × Unit)) : Option (Int × Int × Int × Unit) :=
    (rivetref15_Well.g e0).bind fun y1 =>
    if (!y1.1) = true then (some (0, 0, (23 : Int), ()))
    else 
    (rivetref16_Of.l5 n n e0 labels1 ([] : List (Int × Int × Unit)) (0 : Int) 0 0)
def g (e0 : List (Int × Int × Str × Unit)) (labels1 : List (Str × Int × Unit)) : Option (Int × Int × Int × Unit) := f (1000 + e0.length + labels1.length) e0 labels1
end rivetref16_Of

-- rivet/value.Number
namespace value_Number
def j11 (n : Nat) (rl7 : Int → Int → Int → Int → Int → Option (Int × Int × Unit)) (low2 : Int) (high3 : Int) (t35_0 : Int) (t35_1 : Int) (t36 : Int) : Option (Int × Int × Unit) :=
    rl7 low2 high3 t35_0 t35_1 (IntKind.i64.wrap (t36 + (1 : Int)))
def l7 (n : Nat) : Nat → Int → Int → Int → Int → Int → Option (Int × Int × Unit)
  | 0, _, _, _, _, _ => none
  | m + 1, low2, high3, t35_0, t35_1, t36 =>
    if (decide (t36 < (2 : Int))) = true then 
    (if 0 ≤ t36 ∧ t36 < (2 : Int) then 
    (if (decide (low2 ≤ ([t35_0, t35_1].getD (t36).toNat 0))) = true then 
    (if (decide (([t35_0, t35_1].getD (t36).toNat 0) ≤ high3)) = true then (some (([t35_0, t35_1].getD (t36).toNat 0), (0 : Int), ()))
    else 
    (value_Number.j11 n (value_Number.l7 n m) low2 high3 t35_0 t35_1 t36))
    else 
    (value_Number.j11 n (value_Number.l7 n m) low2 high3 t35_0 t35_1 t36)) else none)
    else (some ((0 : Int), (28 : Int), ()))
def f (n : Nat) (e0 : List (Int × Int × Str × Unit)) (labels1 : List (Str × Int × Unit)) (low2 : Int) (high3 : Int) : Option (Int × Int × Unit) :=
    (value_Of.g e0 labels1).bind fun y1 =>
    if (decide (y1.2.2.1 ≠ (0 : Int))) = true then (some ((0 : Int), y1.2.2.1, ()))
    else 
    (if (decide (y1.2.1 ≠ (0 : Int))) = true then (some ((0 : Int), (27 : Int), ()))
    else 
    (value_Number.l7 n n low2 high3 (IntKind.i64.wrap (IntKind.i32.wrap y1.1)) (IntKind.i64.wrap y1.1) (0 : Int)))
def g (e0 : List (Int × Int × Str × Unit)) (labels1 : List (Str × Int × Unit)) (low2 : Int) (high3 : Int) : Option (Int × Int × Unit) := f (1000 + e0.length + labels1.length + low2.toNat + high3.toNat) e0 labels1 low2 high3
end value_Number

-- rivet/rivetref16.Number
namespace rivetref16_Number
def j12 (n : Nat) (low2 : Int) (high3 : Int) (n12 : Int) : Option (Int × Int × Unit) :=
    if (decide (low2 ≤ n12)) = true then 
    (if (decide (n12 ≤ high3)) = true then (some (n12, (0 : Int), ()))
    else (some ((0 : Int), (28 : Int), ())))
    else (some ((0 : Int), (28 : Int), ()))
def j10 (n : Nat) (low2 : Int) (high3 : Int) (n12 : Int) (s13 : Int) : Option (Int × Int × Unit) :=
    if (decide (low2 ≤ s13)) = true then 
    (if (decide (s13 ≤ high3)) = true then (some (s13, (0 : Int), ()))
    else (rivetref16_Number.j12 n low2 high3 n12))
    else (rivetref16_Number.j12 n low2 high3 n12)
def f (n : Nat) (e0 : List (Int × Int × Str × Unit)) (labels1 : List (Str × Int × Unit)) (low2 : Int) (high3 : Int) : Option (Int × Int × Unit) :=
    (rivetref16_Of.g e0 labels1).bind fun y1 =>
    if (decide (y1.2.2.1 ≠ (0 : Int))) = true then (some ((0 : Int), y1.2.2.1, ()))
    else 
    (if (decide (y1.2.1 ≠ (0 : Int))) = true then (some ((0 : Int), (27 : Int), ()))
    else 
    (if (decide ((2147483648 : Int) ≤ (IntKind.i64.wrap y1.1))) = true then 
    (rivetref16_Number.j10 n low2 high3 (IntKind.i64.wrap y1.1) (IntKind.i64.wrap ((IntKind.i64.wrap y1.1) - (4294967296 : Int))))
    else 
    (rivetref16_Number.j10 n low2 high3 (IntKind.i64.wrap y1.1) (IntKind.i64.wrap y1.1))))
def g (e0 : List (Int × Int × Str × Unit)) (labels1 : List (Str × Int × Unit)) (low2 : Int) (high3 : Int) : Option (Int × Int × Unit) := f (1000 + e0.length + labels1.length + low2.toNat + high3.toNat) e0 labels1 low2 high3
end rivetref16_Number

-- rivet/rivetlaw16.few
namespace rivetlaw16_few
def l3 (n : Nat) : Nat → (List (Int × Int × Str × Unit)) → (List (Int × Int × Str × Unit)) → Int → Option ((List (Int × Int × Str × Unit)) × Unit)
  | 0, _, _, _ => none
  | m + 1, l0, out3, i4 =>
    if (decide (i4 < (l0.length : Int))) = true then 
    (if (decide (i4 < (20 : Int))) = true then 
    (if 0 ≤ i4 ∧ i4 < (l0.length : Int) then 
    (if 0 ≤ (mn (((((l0.getD (i4).toNat ((0 : Int), ((0 : Int), (([] : Str), ())))).2).2).1).length : Int) (20 : Int)) ∧ (mn (((((l0.getD (i4).toNat ((0 : Int), ((0 : Int), (([] : Str), ())))).2).2).1).length : Int) (20 : Int)) ≤ (((((l0.getD (i4).toNat ((0 : Int), ((0 : Int), (([] : Str), ())))).2).2).1).length : Int) then 
    (if (out3.length + ([((l0.getD (i4).toNat ((0 : Int), ((0 : Int), (([] : Str), ())))).1, ((l0.getD (i4).toNat ((0 : Int), ((0 : Int), (([] : Str), ())))).2).1, ((((((l0.getD (i4).toNat ((0 : Int), ((0 : Int), (([] : Str), ())))).2).2).1).take (((mn (((((l0.getD (i4).toNat ((0 : Int), ((0 : Int), (([] : Str), ())))).2).2).1).length : Int) (20 : Int))).toNat)).drop 0), ())] : List (Int × Int × Str × Unit)).length) * 32 ≤ 140737488355328 ∧ 0 < 32 ∧ 0 < 3 then 
    ((rivetlaw16_few.l3 n m) l0 (out3 ++ ([((l0.getD (i4).toNat ((0 : Int), ((0 : Int), (([] : Str), ())))).1, ((l0.getD (i4).toNat ((0 : Int), ((0 : Int), (([] : Str), ())))).2).1, ((((((l0.getD (i4).toNat ((0 : Int), ((0 : Int), (([] : Str), ())))).2).2).1).take (((mn (((((l0.getD (i4).toNat ((0 : Int), ((0 : Int), (([] : Str), ())))).2).2).1).length : Int) (20 : Int))).toNat)).drop 0), ())] : List (Int × Int × Str × Unit))) (IntKind.i64.wrap (i4 + (1 : Int)))) else none) else none) else none)
    else (some (out3, ())))
    else (some (out3, ()))
def f (n : Nat) (l0 : List (Int × Int × Str × Unit)) : Option ((List (Int × Int × Str × Unit)) × Unit) :=
    rivetlaw16_few.l3 n n l0 ([] : List (Int × Int × Str × Unit)) (0 : Int)
def g (l0 : List (Int × Int × Str × Unit)) : Option ((List (Int × Int × Str × Unit)) × Unit) := f (1000 + l0.length) l0
end rivetlaw16_few

-- rivet/rivetlaw16.ValueAll
namespace rivetlaw16_ValueAll
def l15 (n : Nat) : Nat → Bool → (List (Str × Int × Unit)) → Int → Option (Bool × Unit)
  | 0, _, _, _ => none
  | m + 1, head7, w8, i19 =>
    if (decide (i19 < (w8.length : Int))) = true then 
    (if 0 ≤ i19 ∧ i19 < (w8.length : Int) then 
    ((value_Find.g w8 ((w8.getD (i19).toNat (([] : Str), ((0 : Int), ()))).1)).bind fun y1 =>
    if 0 ≤ i19 ∧ i19 < (w8.length : Int) then 
    ((rivetref16_Find.g w8 ((w8.getD (i19).toNat (([] : Str), ((0 : Int), ()))).1)).bind fun y2 =>
    if (decide (y1.1 ≠ y2.1)) = false then 
    (if (!(y1.2.1 == y2.2.1)) = false then 
    (if (!y1.2.1) = true then (some (false, ()))
    else 
    ((rivetlaw16_ValueAll.l15 n m) head7 w8 (IntKind.i64.wrap (i19 + (1 : Int)))))
    else (some (false, ())))
    else (some (false, ()))) else none) else none)
    else 
    ((value_Find.g w8 ([82, 49, 32] : Str)).bind fun y3 =>
    if head7 = true then 
    (if (!y3.2.1) = false then (some ((decide ((0 : Int) < (w8.length : Int))), ()))
    else (some (true, ())))
    else (some (false, ())))
def l5 (n : Nat) : Nat → (List (Int × Int × Str × Unit)) → Bool → (List (Str × Int × Unit)) → (List (Int × Int × Str × Unit)) → Int → Int → Int → Option (Bool × Unit)
  | 0, _, _, _, _, _, _, _ => none
  | m + 1, l0, head7, w8, e9, i10, b0_0, b0_1 =>
    if (decide (i10 < (2 : Int))) = true then 
    ((value_Of.g e9 w8).bind fun y1 =>
    (rivetref16_Of.g e9 w8).bind fun y2 =>
    if 0 ≤ (0 : Int) ∧ (0 : Int) < (2 : Int) then 
    (if 0 ≤ (1 : Int) ∧ (1 : Int) < (2 : Int) then 
    ((value_Number.g e9 w8 ([b0_0, b0_1].getD ((0 : Int)).toNat 0) ([b0_0, b0_1].getD ((1 : Int)).toNat 0)).bind fun y3 =>
    if 0 ≤ (0 : Int) ∧ (0 : Int) < (2 : Int) then 
    (if 0 ≤ (1 : Int) ∧ (1 : Int) < (2 : Int) then 
    ((rivetref16_Number.g e9 w8 ([b0_0, b0_1].getD ((0 : Int)).toNat 0) ([b0_0, b0_1].getD ((1 : Int)).toNat 0)).bind fun y4 =>
    if (!(decide (y1.1 = y2.1) && (decide (y1.2.1 = y2.2.1) && true))) = false then 
    (if (decide (y1.2.2.1 ≠ y2.2.2.1)) = false then 
    (if (decide (y3.1 ≠ y4.1)) = false then 
    (if (decide (y3.2.1 ≠ y4.2.1)) = true then (some (false, ()))
    else 
    ((rivetlaw16_few.g l0).bind fun y5 =>
    (rivetlaw16_ValueAll.l5 n m) l0 head7 w8 y5.1 (IntKind.i64.wrap (i10 + (1 : Int))) b0_0 b0_1))
    else (some (false, ())))
    else (some (false, ())))
    else (some (false, ()))) else none) else none) else none) else none)
    else (rivetlaw16_ValueAll.l15 n n head7 w8 (0 : Int))
def f (n : Nat) (l0 : List (Int × Int × Str × Unit)) (labels1 : List (Str × Int × Unit)) (x2_0 : Int) (x2_1 : Int) : Option (Bool × Unit) :=
    (rivetlaw16_shown.g).bind fun y1 =>
    (rivetlaw16_short.g labels1).bind fun y2 =>
    (rivetref16_Named.g l0 y2.1).bind fun y3 =>
    rivetlaw16_ValueAll.l5 n n l0 y1.1 y2.1 y3.1 (0 : Int) x2_0 x2_1
def g (l0 : List (Int × Int × Str × Unit)) (labels1 : List (Str × Int × Unit)) (x2_0 : Int) (x2_1 : Int) : Option (Bool × Unit) := f (1000 + l0.length + labels1.length + x2_0.toNat + x2_1.toNat) l0 labels1 x2_0 x2_1
end rivetlaw16_ValueAll

end Rv
