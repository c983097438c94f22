/- Texts put together. -/
import Derived.Test.YtaonefbdamklhaaGreatDoorC1
import Derived.Test.YtaonefbdamklhaaGreatDoorC6
import Derived.IntWalk
set_option linter.all false
namespace Rv
open Go
set_option maxRecDepth 100000
def K.atA : Fn := (74, [])
def K.rdA : Fn := (119, [.cf (74, [])])
def K.wrA : Fn := (120, [.cf (74, [])])
def K.atB : Fn := (75, [])
def K.rdB : Fn := (119, [.cf (75, [])])
def K.wrB : Fn := (120, [.cf (75, [])])
def K.atC : Fn := (76, [])
def K.rdC : Fn := (119, [.cf (76, [])])
def K.wrC : Fn := (120, [.cf (76, [])])
def K.rdE : Fn := (121, [.c0 (.cs ([] : Str))])
def K.wrE : Fn := (123, [.c0 (.cs ([] : Str))])
def K.rdQ : Fn := (121, [.c0 (.cs ([61] : Str))])
def K.wrQ : Fn := (123, [.c0 (.cs ([61] : Str))])
def K.rdN : Fn := (78, [])
def K.wrN : Fn := (79, [])
abbrev It := Int × Int × Str × Unit
abbrev Tk := Int × Int × Str × Int × Unit
abbrev Sn := Int × Int × Int × Int × Int × Bool × (List It) × Str × Unit
abbrev Ln := Str × Sn × Unit
abbrev zI : It := ((0 : Int), ((0 : Int), (([] : Str), ())))
abbrev zT : Tk := ((0 : Int), ((0 : Int), (([] : Str), ((0 : Int), ()))))
abbrev zL : Ln := (([] : Str), (((0 : Int), ((0 : Int), ((0 : Int), ((0 : Int), ((0 : Int), (false, ([], (([] : Str), ())))))))), ()))
def L.opsR (k o : Int) : List (Fn × Fn × Unit) :=
 if k = 1 then (if o = 0 then [(K.rdA, K.wrA, ()), (K.rdC, K.wrC, ())] else [(K.rdA, K.wrA, ()), (K.rdB, K.wrB, ()), (K.rdC, K.wrC, ())]) else
 if k = 2 then (if o = 0 then [(K.rdA, K.wrA, ()), (K.rdE, K.wrE, ())] else [(K.rdA, K.wrA, ()), (K.rdB, K.wrB, ()), (K.rdE, K.wrE, ())]) else
 if k = 3 ∨ k = 4 then [(K.rdA, K.wrA, ())] else
 if k = 5 then [(K.rdA, K.wrA, ()), (K.rdB, K.wrB, ()), (K.rdE, K.wrE, ())] else
 if k = 6 then [(K.rdC, K.wrC, ())] else
 if k = 7 ∨ k = 9 then [(K.rdE, K.wrE, ())] else
 if k = 8 then [(K.rdA, K.wrA, ()), (K.rdQ, K.wrQ, ())] else
 if k = 10 then [(K.rdN, K.wrN, ())] else []
namespace scan_letter
def f (n : Nat) (a : Int) : Option (Bool × Unit) :=
  if (decide ((65 : Int) ≤ a)) then
  (if (decide (a ≤ (90 : Int))) = false then
  (if (decide ((97 : Int) ≤ a)) then
  (if (decide (a ≤ (122 : Int))) = false then (some ((decide (a = (95 : Int))), ()))
  else (some (true, ())))
  else (some ((decide (a = (95 : Int))), ())))
  else (some (true, ())))
  else
  (if (decide ((97 : Int) ≤ a)) then
  (if (decide (a ≤ (122 : Int))) = false then (some ((decide (a = (95 : Int))), ()))
  else (some (true, ())))
  else (some ((decide (a = (95 : Int))), ())))
def g (a : Int) : Option (Bool × Unit) := f (1000 + a.toNat) a
end scan_letter
namespace scan_digit
def f (n : Nat) (a : Int) : Option (Bool × Unit) :=
  if (decide ((48 : Int) ≤ a)) then (some ((decide (a ≤ (57 : Int))), ()))
  else (some (false, ()))
def g (a : Int) : Option (Bool × Unit) := f (1000 + a.toNat) a
end scan_digit
namespace scan_word
def j3 (n : Nat) (rl2 : Str → Int → Option (Str × Unit)) (a : Str) (b : Int) : Option (Str × Unit) :=
  rl2 a (IntKind.i64.wrap (b + (1 : Int)))
def j4 (n : Nat) (a : Str) (b : Int) : Option (Str × Unit) :=
  if 0 ≤ b ∧ b ≤ (a.length : Int) then (some (((a.take ((b).toNat)).drop 0), ())) else none
def l2 (n : Nat) : Nat → Str → Int → Option (Str × Unit)
 | 0, _, _ => none
 | m + 1, a, b =>
  if (decide (b < (a.length : Int))) then
  (if 0 ≤ b ∧ b < (a.length : Int) then
  ((scan_letter.g (bt a b)).bind fun y1 =>
  if y1.1 = false then
  (if 0 ≤ b ∧ b < (a.length : Int) then
  ((scan_digit.g (bt a b)).bind fun y2 =>
  if y2.1 then (scan_word.j3 n (scan_word.l2 n m) a b)
  else (scan_word.j4 n a b)) else none)
  else (scan_word.j3 n (scan_word.l2 n m) a b)) else none)
  else (scan_word.j4 n a b)
def f (n : Nat) (a : Str) : Option (Str × Unit) :=
  scan_word.l2 n n a (0 : Int)
def g (a : Str) : Option (Str × Unit) := f (1000 + a.length) a
end scan_word
namespace internal_strconv_lower
def f (n : Nat) (a : Int) : Option (Int × Unit) :=
  some ((bitsI .or .u8 a (32 : Int)), ())
def g (a : Int) : Option (Int × Unit) := f (1000 + a.toNat) a
end internal_strconv_lower
namespace internal_strconv_ParseUint
def j55 (n : Nat) (rl36 : Int → Bool → Str → Int → Int → Bool → Int → (List Int) → Int → Int → Option (Int × (Option Int) × Unit)) (a : Int) (b : Bool) (c : Str) (d : Int) (e : Int) (i : Bool) (j : Int) (k : List Int) (l : Int) (o : Int) : Option (Int × (Option Int) × Unit) :=
  rl36 a b c d e i j k l (IntKind.i64.wrap (o + (1 : Int)))
def j46 (n : Nat) (rl36 : Int → Bool → Str → Int → Int → Bool → Int → (List Int) → Int → Int → Option (Int × (Option Int) × Unit)) (a : Int) (b : Bool) (c : Str) (d : Int) (e : Int) (i : Bool) (j : Int) (k : Int) (l : List Int) (o : Int) (p : Int) : Option (Int × (Option Int) × Unit) :=
  if (decide ((IntKind.u8.wrap a) ≤ k)) then (some ((0 : Int), (some (2 : Int)), ()))
  else
  (if (decide (d ≤ j)) then (some (e, (some (1 : Int)), ()))
  else
  (if (decide ((IntKind.u64.wrap ((IntKind.u64.wrap (j * (IntKind.u64.wrap a))) + (IntKind.u64.wrap k))) < (IntKind.u64.wrap (j * (IntKind.u64.wrap a))))) = false then
  (if (decide (e < (IntKind.u64.wrap ((IntKind.u64.wrap (j * (IntKind.u64.wrap a))) + (IntKind.u64.wrap k))))) then (some (e, (some (1 : Int)), ()))
  else
  (internal_strconv_ParseUint.j55 n rl36 a b c d e i (IntKind.u64.wrap ((IntKind.u64.wrap (j * (IntKind.u64.wrap a))) + (IntKind.u64.wrap k))) l o p))
  else (some (e, (some (1 : Int)), ()))))
def l36 (n : Nat) : Nat → Int → Bool → Str → Int → Int → Bool → Int → (List Int) → Int → Int → Option (Int × (Option Int) × Unit)
 | 0, _, _, _, _, _, _, _, _, _, _ => none
 | m + 1, a, b, c, d, e, i, j, k, l, o =>
  if (decide (o < l)) then
  (if 0 ≤ o ∧ o < (k.length : Int) then
  (if (decide ((k.getD (o).toNat (0 : Int)) = (95 : Int))) then
  (if b then
  (internal_strconv_ParseUint.j55 n (internal_strconv_ParseUint.l36 n m) a b c d e true j k l o)
  else
  (if (decide ((48 : Int) ≤ (k.getD (o).toNat (0 : Int)))) then
  (if (decide ((k.getD (o).toNat (0 : Int)) ≤ (57 : Int))) then
  (internal_strconv_ParseUint.j46 n (internal_strconv_ParseUint.l36 n m) a b c d e i j (IntKind.u8.wrap ((k.getD (o).toNat (0 : Int)) - (48 : Int))) k l o)
  else
  ((internal_strconv_lower.g (k.getD (o).toNat (0 : Int))).bind fun y1 =>
  if (decide ((97 : Int) ≤ y1.1)) then
  ((internal_strconv_lower.g (k.getD (o).toNat (0 : Int))).bind fun y2 =>
  if (decide (y2.1 ≤ (122 : Int))) then
  ((internal_strconv_lower.g (k.getD (o).toNat (0 : Int))).bind fun y3 =>
  internal_strconv_ParseUint.j46 n (internal_strconv_ParseUint.l36 n m) a b c d e i j (IntKind.u8.wrap ((IntKind.u8.wrap (y3.1 - (97 : Int))) + (10 : Int))) k l o)
  else (some ((0 : Int), (some (2 : Int)), ())))
  else (some ((0 : Int), (some (2 : Int)), ()))))
  else
  ((internal_strconv_lower.g (k.getD (o).toNat (0 : Int))).bind fun y4 =>
  if (decide ((97 : Int) ≤ y4.1)) then
  ((internal_strconv_lower.g (k.getD (o).toNat (0 : Int))).bind fun y5 =>
  if (decide (y5.1 ≤ (122 : Int))) then
  ((internal_strconv_lower.g (k.getD (o).toNat (0 : Int))).bind fun y6 =>
  internal_strconv_ParseUint.j46 n (internal_strconv_ParseUint.l36 n m) a b c d e i j (IntKind.u8.wrap ((IntKind.u8.wrap (y6.1 - (97 : Int))) + (10 : Int))) k l o)
  else (some ((0 : Int), (some (2 : Int)), ())))
  else (some ((0 : Int), (some (2 : Int)), ())))))
  else
  (if (decide ((48 : Int) ≤ (k.getD (o).toNat (0 : Int)))) then
  (if (decide ((k.getD (o).toNat (0 : Int)) ≤ (57 : Int))) then
  (internal_strconv_ParseUint.j46 n (internal_strconv_ParseUint.l36 n m) a b c d e i j (IntKind.u8.wrap ((k.getD (o).toNat (0 : Int)) - (48 : Int))) k l o)
  else
  ((internal_strconv_lower.g (k.getD (o).toNat (0 : Int))).bind fun y7 =>
  if (decide ((97 : Int) ≤ y7.1)) then
  ((internal_strconv_lower.g (k.getD (o).toNat (0 : Int))).bind fun y8 =>
  if (decide (y8.1 ≤ (122 : Int))) then
  ((internal_strconv_lower.g (k.getD (o).toNat (0 : Int))).bind fun y9 =>
  internal_strconv_ParseUint.j46 n (internal_strconv_ParseUint.l36 n m) a b c d e i j (IntKind.u8.wrap ((IntKind.u8.wrap (y9.1 - (97 : Int))) + (10 : Int))) k l o)
  else (some ((0 : Int), (some (2 : Int)), ())))
  else (some ((0 : Int), (some (2 : Int)), ()))))
  else
  ((internal_strconv_lower.g (k.getD (o).toNat (0 : Int))).bind fun y10 =>
  if (decide ((97 : Int) ≤ y10.1)) then
  ((internal_strconv_lower.g (k.getD (o).toNat (0 : Int))).bind fun y11 =>
  if (decide (y11.1 ≤ (122 : Int))) then
  ((internal_strconv_lower.g (k.getD (o).toNat (0 : Int))).bind fun y12 =>
  internal_strconv_ParseUint.j46 n (internal_strconv_ParseUint.l36 n m) a b c d e i j (IntKind.u8.wrap ((IntKind.u8.wrap (y12.1 - (97 : Int))) + (10 : Int))) k l o)
  else (some ((0 : Int), (some (2 : Int)), ())))
  else (some ((0 : Int), (some (2 : Int)), ()))))) else none)
  else
  (if i then
  ((L.underscoreO c).bind fun y13 =>
  if (!y13.1) then (some ((0 : Int), (some (2 : Int)), ()))
  else (some (j, none, ())))
  else (some (j, none, ())))
def j32 (n : Nat) (a : Str) (b : Int) (c : Int) (d : Bool) (e : Str) (i : Int) : Option (Int × (Option Int) × Unit) :=
  if (IntKind.u64.wrap c) < 0 then none else
  (internal_strconv_ParseUint.l36 n n b d e i (IntKind.u64.wrap ((IntKind.u64.wrap ((1 : Int) * 2 ^ (min (IntKind.u64.wrap c).toNat IntKind.u64.bits))) - (1 : Int))) false (0 : Int) (a.map fun b => (b.toNat : Int)) ((a.map fun b => (b.toNat : Int)).length : Int) (0 : Int))
def j25 (n : Nat) (a : Str) (b : Int) (c : Int) (d : Bool) (e : Str) : Option (Int × (Option Int) × Unit) :=
  if (decide (b = (10 : Int))) then
  (internal_strconv_ParseUint.j32 n a b c d e (1844674407370955162 : Int))
  else
  (if (decide (b = (16 : Int))) then
  (internal_strconv_ParseUint.j32 n a b c d e (1152921504606846976 : Int))
  else
  (if (IntKind.u64.wrap b) = 0 then none else
  (internal_strconv_ParseUint.j32 n a b c d e (IntKind.u64.wrap ((IntKind.u64.wrap (Int.tdiv (18446744073709551615 : Int) (IntKind.u64.wrap b))) + (1 : Int))))))
def j21 (n : Nat) (a : Str) (b : Int) (c : Int) (d : Bool) (e : Str) : Option (Int × (Option Int) × Unit) :=
  if (decide (c = (0 : Int))) then (internal_strconv_ParseUint.j25 n a b (64 : Int) d e)
  else
  (if (decide (c < (0 : Int))) = false then
  (if (decide ((64 : Int) < c)) then (some ((0 : Int), (some (4 : Int)), ()))
  else (internal_strconv_ParseUint.j25 n a b c d e))
  else (some ((0 : Int), (some (4 : Int)), ())))
def j17 (n : Nat) (a : Str) (b : Int) (c : Int) (d : Bool) (e : Str) : Option (Int × (Option Int) × Unit) :=
  if 0 ≤ (2 : Int) ∧ (2 : Int) ≤ (a.length : Int) then
  (internal_strconv_ParseUint.j21 n ((a.take (((a.length : Int)).toNat)).drop (((2 : Int)).toNat)) b c d e) else none
def j20 (n : Nat) (a : Str) (b : Int) (c : Int) (d : Bool) (e : Str) : Option (Int × (Option Int) × Unit) :=
  if 0 ≤ (2 : Int) ∧ (2 : Int) ≤ (a.length : Int) then
  (internal_strconv_ParseUint.j21 n ((a.take (((a.length : Int)).toNat)).drop (((2 : Int)).toNat)) b c d e) else none
def j11 (n : Nat) (a : Str) (b : Int) (c : Int) (d : Bool) (e : Str) : Option (Int × (Option Int) × Unit) :=
  if 0 ≤ (1 : Int) ∧ (1 : Int) ≤ (a.length : Int) then
  (internal_strconv_ParseUint.j21 n ((a.take (((a.length : Int)).toNat)).drop (((1 : Int)).toNat)) b c d e) else none
def j9 (n : Nat) (a : Str) (b : Int) (c : Int) (d : Bool) (e : Str) : Option (Int × (Option Int) × Unit) :=
  if 0 ≤ (0 : Int) ∧ (0 : Int) < (a.length : Int) then
  (if (decide ((bt a (0 : Int)) = (48 : Int))) then
  (if (decide ((3 : Int) ≤ (a.length : Int))) then
  (if 0 ≤ (1 : Int) ∧ (1 : Int) < (a.length : Int) then
  ((internal_strconv_lower.g (bt a (1 : Int))).bind fun y1 =>
  if (decide (y1.1 = (98 : Int))) then
  (if 0 ≤ (2 : Int) ∧ (2 : Int) ≤ (a.length : Int) then
  (internal_strconv_ParseUint.j21 n ((a.take (((a.length : Int)).toNat)).drop (((2 : Int)).toNat)) (2 : Int) c d e) else none)
  else
  (if (decide ((3 : Int) ≤ (a.length : Int))) then
  (if 0 ≤ (1 : Int) ∧ (1 : Int) < (a.length : Int) then
  ((internal_strconv_lower.g (bt a (1 : Int))).bind fun y2 =>
  if (decide (y2.1 = (111 : Int))) then (internal_strconv_ParseUint.j17 n a (8 : Int) c d e)
  else
  (if (decide ((3 : Int) ≤ (a.length : Int))) then
  (if 0 ≤ (1 : Int) ∧ (1 : Int) < (a.length : Int) then
  ((internal_strconv_lower.g (bt a (1 : Int))).bind fun y3 =>
  if (decide (y3.1 = (120 : Int))) then (internal_strconv_ParseUint.j20 n a (16 : Int) c d e)
  else (internal_strconv_ParseUint.j11 n a (8 : Int) c d e)) else none)
  else (internal_strconv_ParseUint.j11 n a (8 : Int) c d e))) else none)
  else
  (if (decide ((3 : Int) ≤ (a.length : Int))) then
  (if 0 ≤ (1 : Int) ∧ (1 : Int) < (a.length : Int) then
  ((internal_strconv_lower.g (bt a (1 : Int))).bind fun y4 =>
  if (decide (y4.1 = (120 : Int))) then (internal_strconv_ParseUint.j20 n a (16 : Int) c d e)
  else (internal_strconv_ParseUint.j11 n a (8 : Int) c d e)) else none)
  else (internal_strconv_ParseUint.j11 n a (8 : Int) c d e)))) else none)
  else
  (if (decide ((3 : Int) ≤ (a.length : Int))) then
  (if 0 ≤ (1 : Int) ∧ (1 : Int) < (a.length : Int) then
  ((internal_strconv_lower.g (bt a (1 : Int))).bind fun y5 =>
  if (decide (y5.1 = (111 : Int))) then (internal_strconv_ParseUint.j17 n a (8 : Int) c d e)
  else
  (if (decide ((3 : Int) ≤ (a.length : Int))) then
  (if 0 ≤ (1 : Int) ∧ (1 : Int) < (a.length : Int) then
  ((internal_strconv_lower.g (bt a (1 : Int))).bind fun y6 =>
  if (decide (y6.1 = (120 : Int))) then (internal_strconv_ParseUint.j20 n a (16 : Int) c d e)
  else (internal_strconv_ParseUint.j11 n a (8 : Int) c d e)) else none)
  else (internal_strconv_ParseUint.j11 n a (8 : Int) c d e))) else none)
  else
  (if (decide ((3 : Int) ≤ (a.length : Int))) then
  (if 0 ≤ (1 : Int) ∧ (1 : Int) < (a.length : Int) then
  ((internal_strconv_lower.g (bt a (1 : Int))).bind fun y7 =>
  if (decide (y7.1 = (120 : Int))) then (internal_strconv_ParseUint.j20 n a (16 : Int) c d e)
  else (internal_strconv_ParseUint.j11 n a (8 : Int) c d e)) else none)
  else (internal_strconv_ParseUint.j11 n a (8 : Int) c d e))))
  else (internal_strconv_ParseUint.j21 n a b c d e)) else none
def f (n : Nat) (a : Str) (b : Int) (c : Int) : Option (Int × (Option Int) × Unit) :=
  if (decide (a = ([] : Str))) then (some ((0 : Int), (some (2 : Int)), ()))
  else
  (if (decide ((2 : Int) ≤ b)) then
  (if (decide (b ≤ (36 : Int))) then
  (internal_strconv_ParseUint.j21 n a b c (decide (b = (0 : Int))) a)
  else
  (if (decide (b = (0 : Int))) then
  (internal_strconv_ParseUint.j9 n a (10 : Int) c (decide (b = (0 : Int))) a)
  else (some ((0 : Int), (some (3 : Int)), ()))))
  else
  (if (decide (b = (0 : Int))) then
  (internal_strconv_ParseUint.j9 n a (10 : Int) c (decide (b = (0 : Int))) a)
  else (some ((0 : Int), (some (3 : Int)), ()))))
def g (a : Str) (b : Int) (c : Int) : Option (Int × (Option Int) × Unit) := f (1000 + a.length + b.toNat + c.toNat) a b c
end internal_strconv_ParseUint
namespace strconv_ParseUint
def f (n : Nat) (a : Str) (b : Int) (c : Int) : Option (Int × Bool × Unit) :=
  (internal_strconv_ParseUint.g a b c).bind fun y1 =>
  if (!y1.2.1.isNone) then
  ((L.toErrorO ([80, 97, 114, 115, 101, 85, 105, 110, 116] : Str) a b c y1.2.1).bind fun y2 =>
  some (y1.1, y2.1, ()))
  else (some (y1.1, true, ()))
def g (a : Str) (b : Int) (c : Int) : Option (Int × Bool × Unit) := f (1000 + a.length + b.toNat + c.toNat) a b c
end strconv_ParseUint
namespace scan_number
def j5 (n : Nat) (a : Str) (b : Int) : Option (Int × Bool × Unit) :=
  (L.containsO a ([95] : Str)).bind fun y1 =>
  if y1.1 then (some ((0 : Int), false, ()))
  else
  ((strconv_ParseUint.g a b (32 : Int)).bind fun y2 =>
  some ((IntKind.u32.wrap y2.1), y2.2.1, ()))
def f (n : Nat) (a : Str) : Option (Int × Bool × Unit) :=
  if (L.cutIs a ([48, 120] : Str)) then
  (scan_number.j5 n (L.cutRest a ([48, 120] : Str)) (16 : Int))
  else (scan_number.j5 n a (10 : Int))
def g (a : Str) : Option (Int × Bool × Unit) := f (1000 + a.length) a
end scan_number
namespace scan_Line
def j23 (n : Nat) (rg0 : Str → (List Tk) → Int → Option ((List Tk) × Int × Unit)) (a : Str) (b : List Tk) (c : Int) (d : Int) (e : Int) (i : Str) (j : Int) : Option ((List Tk) × Int × Unit) :=
  if (b.length + ([(d, e, i, j, ())] : List Tk).length) * 40 ≤ 140737488355328 ∧ 0 < 40 ∧ 0 < 4 then
  (rg0 a (b ++ ([(d, e, i, j, ())] : List Tk)) (IntKind.i64.wrap (c + (i.length : Int)))) else none
def g0 (n : Nat) : Nat → Str → (List Tk) → Int → Option ((List Tk) × Int × Unit)
 | 0, _, _, _ => none
 | m + 1, a, b, c =>
  if (decide ((a.length : Int) ≤ c)) = false then
  (if 0 ≤ c ∧ c < (a.length : Int) then
  (if (decide ((bt a c) = (59 : Int))) then (some (b, (0 : Int), ()))
  else
  (if 0 ≤ c ∧ c < (a.length : Int) then
  (if (decide ((bt a c) = (32 : Int))) = false then
  (if (decide ((bt a c) = (9 : Int))) then ((scan_Line.g0 n m) a b (IntKind.i64.wrap (c + (1 : Int))))
  else
  ((scan_letter.g (bt a c)).bind fun y1 =>
  if y1.1 then
  (if 0 ≤ c ∧ c ≤ (a.length : Int) then
  ((scan_word.g ((a.take (((a.length : Int)).toNat)).drop ((c).toNat))).bind fun y2 =>
  scan_Line.j23 n (scan_Line.g0 n m) a b c (1 : Int) c y2.1 0) else none)
  else
  ((scan_digit.g (bt a c)).bind fun y3 =>
  if y3.1 then
  (if 0 ≤ c ∧ c ≤ (a.length : Int) then
  ((scan_word.g ((a.take (((a.length : Int)).toNat)).drop ((c).toNat))).bind fun y4 =>
  (scan_number.g y4.1).bind fun y5 =>
  if (!y5.2.1) then (some ([], (21 : Int), ()))
  else
  (scan_Line.j23 n (scan_Line.g0 n m) a b c (2 : Int) c y4.1 y5.1)) else none)
  else
  (if (decide ((bt a c) = (46 : Int))) then
  (if (decide ((IntKind.i64.wrap (c + (1 : Int))) < (a.length : Int))) then
  (if 0 ≤ (IntKind.i64.wrap (c + (1 : Int))) ∧ (IntKind.i64.wrap (c + (1 : Int))) < (a.length : Int) then
  ((scan_letter.g (bt a (IntKind.i64.wrap (c + (1 : Int))))).bind fun y6 =>
  if y6.1 then
  (if 0 ≤ (IntKind.i64.wrap (c + (1 : Int))) ∧ (IntKind.i64.wrap (c + (1 : Int))) ≤ (a.length : Int) then
  ((scan_word.g ((a.take (((a.length : Int)).toNat)).drop (((IntKind.i64.wrap (c + (1 : Int)))).toNat))).bind fun y7 =>
  scan_Line.j23 n (scan_Line.g0 n m) a b (IntKind.i64.wrap (c + (1 : Int))) (4 : Int) c y7.1 0) else none)
  else
  (if (decide ((0 : Int) ≤ (L.indexByte ([44, 58, 43, 45, 42, 40, 41, 61] : Str) (bt a c)))) then
  (if 0 ≤ (IntKind.i64.wrap (c + (1 : Int))) ∧ (IntKind.i64.wrap (c + (1 : Int))) ≤ (a.length : Int) then
  (if 0 ≤ c ∧ c ≤ (IntKind.i64.wrap (c + (1 : Int))) then
  (scan_Line.j23 n (scan_Line.g0 n m) a b c (3 : Int) c ((a.take (((IntKind.i64.wrap (c + (1 : Int)))).toNat)).drop ((c).toNat)) 0) else none) else none)
  else (some ([], (20 : Int), ())))) else none)
  else
  (if (decide ((0 : Int) ≤ (L.indexByte ([44, 58, 43, 45, 42, 40, 41, 61] : Str) (bt a c)))) then
  (if 0 ≤ (IntKind.i64.wrap (c + (1 : Int))) ∧ (IntKind.i64.wrap (c + (1 : Int))) ≤ (a.length : Int) then
  (if 0 ≤ c ∧ c ≤ (IntKind.i64.wrap (c + (1 : Int))) then
  (scan_Line.j23 n (scan_Line.g0 n m) a b c (3 : Int) c ((a.take (((IntKind.i64.wrap (c + (1 : Int)))).toNat)).drop ((c).toNat)) 0) else none) else none)
  else (some ([], (20 : Int), ()))))
  else
  (if (decide ((0 : Int) ≤ (L.indexByte ([44, 58, 43, 45, 42, 40, 41, 61] : Str) (bt a c)))) then
  (if 0 ≤ (IntKind.i64.wrap (c + (1 : Int))) ∧ (IntKind.i64.wrap (c + (1 : Int))) ≤ (a.length : Int) then
  (if 0 ≤ c ∧ c ≤ (IntKind.i64.wrap (c + (1 : Int))) then
  (scan_Line.j23 n (scan_Line.g0 n m) a b c (3 : Int) c ((a.take (((IntKind.i64.wrap (c + (1 : Int)))).toNat)).drop ((c).toNat)) 0) else none) else none)
  else (some ([], (20 : Int), ())))))))
  else ((scan_Line.g0 n m) a b (IntKind.i64.wrap (c + (1 : Int))))) else none)) else none)
  else (some (b, (0 : Int), ()))
def f (n : Nat) (a : Str) : Option ((List Tk) × Int × Unit) :=
  scan_Line.g0 n n a ([]) (0 : Int)
def g (a : Str) : Option ((List Tk) × Int × Unit) := f (1000 + a.length) a
end scan_Line
namespace name_Label
def j9 (n : Nat) (rl4 : Str → Int → Int → Option (Bool × Unit)) (a : Str) (b : Int) (c : Int) : Option (Bool × Unit) :=
  rl4 a b (IntKind.i64.wrap (c + (1 : Int)))
def l4 (n : Nat) : Nat → Str → Int → Int → Option (Bool × Unit)
 | 0, _, _, _ => none
 | m + 1, a, b, c =>
  if (decide (c < b)) then
  (if 0 ≤ c ∧ c < (a.length : Int) then
  (if (decide ((bitsI .or .u8 (bt a c) (32 : Int)) < (97 : Int))) = false then
  (if (decide ((122 : Int) < (bitsI .or .u8 (bt a c) (32 : Int)))) = false then
  (if 0 ≤ c ∧ c < (a.length : Int) then
  (if (decide ((bt a c) < (65 : Int))) then
  (if 0 ≤ c ∧ c < (a.length : Int) then
  (if (decide ((bt a c) ≠ (95 : Int))) then
  (if 0 ≤ c ∧ c < (a.length : Int) then
  (if (decide ((bt a c) < (48 : Int))) = false then
  (if 0 ≤ c ∧ c < (a.length : Int) then
  (if (decide ((57 : Int) < (bt a c))) then (some (false, ()))
  else (name_Label.j9 n (name_Label.l4 n m) a b c)) else none)
  else (some (false, ()))) else none)
  else (name_Label.j9 n (name_Label.l4 n m) a b c)) else none)
  else (name_Label.j9 n (name_Label.l4 n m) a b c)) else none)
  else
  (if 0 ≤ c ∧ c < (a.length : Int) then
  (if (decide ((bt a c) ≠ (95 : Int))) then
  (if 0 ≤ c ∧ c < (a.length : Int) then
  (if (decide ((bt a c) < (48 : Int))) = false then
  (if 0 ≤ c ∧ c < (a.length : Int) then
  (if (decide ((57 : Int) < (bt a c))) then (some (false, ()))
  else (name_Label.j9 n (name_Label.l4 n m) a b c)) else none)
  else (some (false, ()))) else none)
  else (name_Label.j9 n (name_Label.l4 n m) a b c)) else none))
  else
  (if 0 ≤ c ∧ c < (a.length : Int) then
  (if (decide ((bt a c) ≠ (95 : Int))) then
  (if 0 ≤ c ∧ c < (a.length : Int) then
  (if (decide ((bt a c) < (48 : Int))) = false then
  (if 0 ≤ c ∧ c < (a.length : Int) then
  (if (decide ((57 : Int) < (bt a c))) then (some (false, ()))
  else (name_Label.j9 n (name_Label.l4 n m) a b c)) else none)
  else (some (false, ()))) else none)
  else (name_Label.j9 n (name_Label.l4 n m) a b c)) else none)) else none)
  else
  (if 0 ≤ (0 : Int) ∧ (0 : Int) < (a.length : Int) then
  (if (decide ((bt a (0 : Int)) = (82 : Int))) then
  (if (decide ((a.length : Int) = (2 : Int))) = false then
  (if (decide ((a.length : Int) = (3 : Int))) then
  (if 0 ≤ (1 : Int) ∧ (1 : Int) ≤ (a.length : Int) then
  ((L.trimO ((a.take (((a.length : Int)).toNat)).drop (((1 : Int)).toNat)) ([48, 49, 50, 51, 52, 53, 54, 55, 56, 57] : Str)).bind fun y1 =>
  some ((!(decide (y1.1 = ([] : Str)))), ())) else none)
  else (some (true, ())))
  else
  (if 0 ≤ (1 : Int) ∧ (1 : Int) ≤ (a.length : Int) then
  ((L.trimO ((a.take (((a.length : Int)).toNat)).drop (((1 : Int)).toNat)) ([48, 49, 50, 51, 52, 53, 54, 55, 56, 57] : Str)).bind fun y2 =>
  some ((!(decide (y2.1 = ([] : Str)))), ())) else none))
  else (some (true, ()))) else none)
def j3 (n : Nat) (a : Str) : Option (Bool × Unit) :=
  name_Label.l4 n n a (a.length : Int) (0 : Int)
def f (n : Nat) (a : Str) : Option (Bool × Unit) :=
  if (decide (a = ([] : Str))) = false then
  (if (decide ((12 : Int) < (a.length : Int))) = false then
  (if 0 ≤ (0 : Int) ∧ (0 : Int) < (a.length : Int) then
  (if (decide ((48 : Int) ≤ (bt a (0 : Int)))) then
  (if 0 ≤ (0 : Int) ∧ (0 : Int) < (a.length : Int) then
  (if (decide ((bt a (0 : Int)) ≤ (57 : Int))) then (some (false, ()))
  else (name_Label.j3 n a)) else none)
  else (name_Label.j3 n a)) else none)
  else (some (false, ())))
  else (some (false, ()))
def g (a : Str) : Option (Bool × Unit) := f (1000 + a.length) a
end name_Label
namespace internal_strconv_ParseInt
def j21 (n : Nat) (a : Bool) (b : Int) : Option (Int × (Option Int) × Unit) :=
  if a then
  (some ((IntKind.i64.wrap (0 - (IntKind.i64.wrap b))), none, ()))
  else (some ((IntKind.i64.wrap b), none, ()))
def j19 (n : Nat) (a : Bool) (b : Int) (c : Int) : Option (Int × (Option Int) × Unit) :=
  if a then
  (if (decide (c < b)) then
  (some ((IntKind.i64.wrap (0 - (IntKind.i64.wrap c))), (some (1 : Int)), ()))
  else (internal_strconv_ParseInt.j21 n a b))
  else (internal_strconv_ParseInt.j21 n a b)
def j16 (n : Nat) (a : Int) (b : Bool) (c : Int) : Option (Int × (Option Int) × Unit) :=
  if (IntKind.u64.wrap (IntKind.i64.wrap (a - (1 : Int)))) < 0 then none else
  (if (!b) then
  (if (decide ((IntKind.u64.wrap ((1 : Int) * 2 ^ (min (IntKind.u64.wrap (IntKind.i64.wrap (a - (1 : Int)))).toNat IntKind.u64.bits))) ≤ c)) then
  (some ((IntKind.i64.wrap (IntKind.u64.wrap ((IntKind.u64.wrap ((1 : Int) * 2 ^ (min (IntKind.u64.wrap (IntKind.i64.wrap (a - (1 : Int)))).toNat IntKind.u64.bits))) - (1 : Int)))), (some (1 : Int)), ()))
  else
  (internal_strconv_ParseInt.j19 n b c (IntKind.u64.wrap ((1 : Int) * 2 ^ (min (IntKind.u64.wrap (IntKind.i64.wrap (a - (1 : Int)))).toNat IntKind.u64.bits)))))
  else
  (internal_strconv_ParseInt.j19 n b c (IntKind.u64.wrap ((1 : Int) * 2 ^ (min (IntKind.u64.wrap (IntKind.i64.wrap (a - (1 : Int)))).toNat IntKind.u64.bits)))))
def j14 (n : Nat) (a : Int) (b : Bool) (c : Int) : Option (Int × (Option Int) × Unit) :=
  if (decide (a = (0 : Int))) then (internal_strconv_ParseInt.j16 n (64 : Int) b c)
  else (internal_strconv_ParseInt.j16 n a b c)
def j10 (n : Nat) (a : Str) (b : Int) (c : Int) (d : Bool) : Option (Int × (Option Int) × Unit) :=
  (internal_strconv_ParseUint.g a b c).bind fun y1 =>
  if (!y1.2.1.isNone) then
  (if (!(decide (y1.2.1 = (some (1 : Int))))) then (some ((0 : Int), y1.2.1, ()))
  else (internal_strconv_ParseInt.j14 n c d y1.1))
  else (internal_strconv_ParseInt.j14 n c d y1.1)
def f (n : Nat) (a : Str) (b : Int) (c : Int) : Option (Int × (Option Int) × Unit) :=
  if (decide (a = ([] : Str))) then (some ((0 : Int), (some (2 : Int)), ()))
  else
  (if 0 ≤ (0 : Int) ∧ (0 : Int) < (a.length : Int) then
  (if (decide ((bt a (0 : Int)) = (43 : Int))) then
  (if 0 ≤ (1 : Int) ∧ (1 : Int) ≤ (a.length : Int) then
  (internal_strconv_ParseInt.j10 n ((a.take (((a.length : Int)).toNat)).drop (((1 : Int)).toNat)) b c false) else none)
  else
  (if (decide ((bt a (0 : Int)) = (45 : Int))) then
  (if 0 ≤ (1 : Int) ∧ (1 : Int) ≤ (a.length : Int) then
  (internal_strconv_ParseInt.j10 n ((a.take (((a.length : Int)).toNat)).drop (((1 : Int)).toNat)) b c true) else none)
  else (internal_strconv_ParseInt.j10 n a b c false))) else none)
def g (a : Str) (b : Int) (c : Int) : Option (Int × (Option Int) × Unit) := f (1000 + a.length + b.toNat + c.toNat) a b c
end internal_strconv_ParseInt
namespace internal_strconv_Atoi
def l10 (n : Nat) : Nat → Str → Int → (List Int) → Int → Int → Option (Int × (Option Int) × Unit)
 | 0, _, _, _, _, _ => none
 | m + 1, a, b, c, d, e =>
  if (decide (e < d)) then
  (if 0 ≤ e ∧ e < (c.length : Int) then
  (if (decide ((9 : Int) < (IntKind.u8.wrap ((c.getD (e).toNat (0 : Int)) - (48 : Int))))) then (some ((0 : Int), (some (2 : Int)), ()))
  else
  ((internal_strconv_Atoi.l10 n m) a (IntKind.i64.wrap ((IntKind.i64.wrap (b * (10 : Int))) + (IntKind.i64.wrap (IntKind.u8.wrap ((c.getD (e).toNat (0 : Int)) - (48 : Int)))))) c d (IntKind.i64.wrap (e + (1 : Int))))) else none)
  else
  (if 0 ≤ (0 : Int) ∧ (0 : Int) < (a.length : Int) then
  (if (decide ((bt a (0 : Int)) = (45 : Int))) then (some ((IntKind.i64.wrap (0 - b)), none, ()))
  else (some (b, none, ()))) else none)
def j8 (n : Nat) (a : Str) (b : Str) : Option (Int × (Option Int) × Unit) :=
  internal_strconv_Atoi.l10 n n b (0 : Int) (a.map fun b => (b.toNat : Int)) ((a.map fun b => (b.toNat : Int)).length : Int) (0 : Int)
def j6 (n : Nat) (a : Str) (b : Str) : Option (Int × (Option Int) × Unit) :=
  if (decide ((a.length : Int) < (1 : Int))) then (some ((0 : Int), (some (2 : Int)), ()))
  else (internal_strconv_Atoi.j8 n a b)
def j20 (n : Nat) (a : Str) : Option (Int × (Option Int) × Unit) :=
  (internal_strconv_ParseInt.g a (10 : Int) (0 : Int)).bind fun y1 =>
  some (y1.1, y1.2.1, ())
def f (n : Nat) (a : Str) : Option (Int × (Option Int) × Unit) :=
  if (decide ((0 : Int) < (a.length : Int))) then
  (if (decide ((a.length : Int) < (19 : Int))) then
  (if 0 ≤ (0 : Int) ∧ (0 : Int) < (a.length : Int) then
  (if (decide ((bt a (0 : Int)) = (45 : Int))) = false then
  (if 0 ≤ (0 : Int) ∧ (0 : Int) < (a.length : Int) then
  (if (decide ((bt a (0 : Int)) = (43 : Int))) then
  (if 0 ≤ (1 : Int) ∧ (1 : Int) ≤ (a.length : Int) then
  (internal_strconv_Atoi.j6 n ((a.take (((a.length : Int)).toNat)).drop (((1 : Int)).toNat)) a) else none)
  else (internal_strconv_Atoi.j8 n a a)) else none)
  else
  (if 0 ≤ (1 : Int) ∧ (1 : Int) ≤ (a.length : Int) then
  (internal_strconv_Atoi.j6 n ((a.take (((a.length : Int)).toNat)).drop (((1 : Int)).toNat)) a) else none)) else none)
  else (internal_strconv_Atoi.j20 n a))
  else (internal_strconv_Atoi.j20 n a)
def g (a : Str) : Option (Int × (Option Int) × Unit) := f (1000 + a.length) a
end internal_strconv_Atoi
namespace strconv_Atoi
def f (n : Nat) (a : Str) : Option (Int × Bool × Unit) :=
  (internal_strconv_Atoi.g a).bind fun y1 =>
  if (!y1.2.1.isNone) then
  ((L.toErrorO ([65, 116, 111, 105] : Str) a (0 : Int) (0 : Int) y1.2.1).bind fun y2 =>
  some (y1.1, y2.1, ()))
  else (some (y1.1, true, ()))
def g (a : Str) : Option (Int × Bool × Unit) := f (1000 + a.length) a
end strconv_Atoi
namespace name_RegName
def f (n : Nat) (a : Int) : Option (Str × Unit) :=
  if (decide (a < (0 : Int))) = false then
  (if (decide ((16 : Int) ≤ a)) then (some (([] : Str), ()))
  else
  ((L.itoaO a).bind fun y1 =>
  if ([82] : Str).length + y1.1.length ≤ 9223372036854775807 then (some ((([82] : Str) ++ y1.1), ())) else none))
  else (some (([] : Str), ()))
def g (a : Int) : Option (Str × Unit) := f (1000 + a.toNat) a
end name_RegName
namespace name_Reg
def f (n : Nat) (a : Str) : Option (Int × Bool × Unit) :=
  (strconv_Atoi.g (L.cutRest a ([82] : Str))).bind fun y2 =>
  if (!(L.cutIs a ([82] : Str))) = false then
  (if (!y2.2.1) = false then
  ((name_RegName.g y2.1).bind fun y3 =>
  if (!(decide (y3.1 = a))) then (some ((0 : Int), false, ()))
  else (some (y2.1, true, ())))
  else (some ((0 : Int), false, ())))
  else (some ((0 : Int), false, ()))
def g (a : Str) : Option (Int × Bool × Unit) := f (1000 + a.length) a
end name_Reg
namespace expr_parser_fail
def f (n : Nat) (a : Int) (b : List Tk) (c : Int) (d : List It) (e : Int) : Option ((List Tk) × Int × (List It) × Int × Unit) :=
  if (decide (e = (0 : Int))) then (some (b, c, d, a, ()))
  else (some (b, c, d, e, ()))
def g (a : Int) (b : List Tk) (c : Int) (d : List It) (e : Int) : Option ((List Tk) × Int × (List It) × Int × Unit) := f (1000 + a.toNat + b.length + c.toNat + d.length + e.toNat) a b c d e
end expr_parser_fail
namespace expr_parser_next
def f (n : Nat) (a : List Tk) (b : Int) (c : List It) (d : Int) : Option (Int × Int × Str × Int × Bool × (List Tk) × Int × (List It) × Int × Unit) :=
  if (decide (d ≠ (0 : Int))) = false then
  (if (decide (b < (0 : Int))) = false then
  (if (decide ((a.length : Int) ≤ b)) then (some (0, 0, ([] : Str), 0, false, a, b, c, d, ()))
  else
  (if 0 ≤ b ∧ b < (a.length : Int) then
  (some ((a.getD (b).toNat zT).1, ((a.getD (b).toNat zT).2).1, (((a.getD (b).toNat zT).2).2).1, ((((a.getD (b).toNat zT).2).2).2).1, true, a, b, c, d, ())) else none))
  else (some (0, 0, ([] : Str), 0, false, a, b, c, d, ())))
  else (some (0, 0, ([] : Str), 0, false, a, b, c, d, ()))
def g (a : List Tk) (b : Int) (c : List It) (d : Int) : Option (Int × Int × Str × Int × Bool × (List Tk) × Int × (List It) × Int × Unit) := f (1000 + a.length + b.toNat + c.length + d.toNat) a b c d
end expr_parser_next
namespace expr_parser_sign
def j8 (n : Nat) (rl3 : Bool → (List Str) → Int → Int → (List Tk) → Int → (List It) → Int → Int → Int → Str → Int → Option (Str × Bool × (List Tk) × Int × (List It) × Int × Unit)) (a : Bool) (b : List Str) (c : Int) (d : Int) (e : List Tk) (i : Int) (j : List It) (k : Int) (l : Int) (o : Int) (p : Str) (q : Int) : Option (Str × Bool × (List Tk) × Int × (List It) × Int × Unit) :=
  rl3 a b c (IntKind.i64.wrap (d + (1 : Int))) e i j k l o p q
def l3 (n : Nat) : Nat → Bool → (List Str) → Int → Int → (List Tk) → Int → (List It) → Int → Int → Int → Str → Int → Option (Str × Bool × (List Tk) × Int × (List It) × Int × Unit)
 | 0, _, _, _, _, _, _, _, _, _, _, _, _ => none
 | m + 1, a, b, c, d, e, i, j, k, l, o, p, q =>
  if (decide (d < c)) then
  (if 0 ≤ d ∧ d < (b.length : Int) then
  (if a then
  (if (decide (l = (3 : Int))) then
  (if (decide (p = (b.getD (d).toNat ([] : Str)))) then
  (some ((b.getD (d).toNat ([] : Str)), true, e, (IntKind.i64.wrap (i + (1 : Int))), j, k, ()))
  else
  (expr_parser_sign.j8 n (expr_parser_sign.l3 n m) a b c d e i j k l o p q))
  else
  (expr_parser_sign.j8 n (expr_parser_sign.l3 n m) a b c d e i j k l o p q))
  else
  (expr_parser_sign.j8 n (expr_parser_sign.l3 n m) a b c d e i j k l o p q)) else none)
  else (some (([] : Str), false, e, i, j, k, ()))
def f (n : Nat) (a : List Str) (b : List Tk) (c : Int) (d : List It) (e : Int) : Option (Str × Bool × (List Tk) × Int × (List It) × Int × Unit) :=
  (expr_parser_next.g b c d e).bind fun y1 =>
  expr_parser_sign.l3 n n y1.2.2.2.2.1 a (a.length : Int) (0 : Int) y1.2.2.2.2.2.1 y1.2.2.2.2.2.2.1 y1.2.2.2.2.2.2.2.1 y1.2.2.2.2.2.2.2.2.1 y1.1 y1.2.1 y1.2.2.1 y1.2.2.2.1
def g (a : List Str) (b : List Tk) (c : Int) (d : List It) (e : Int) : Option (Str × Bool × (List Tk) × Int × (List It) × Int × Unit) := f (1000 + a.length + b.length + c.toNat + d.length + e.toNat) a b c d e
end expr_parser_sign
namespace expr_parser_put
def f (n : Nat) (a : Int) (b : Int) (c : Str) (d : List Tk) (e : Int) (i : List It) (j : Int) : Option ((List Tk) × Int × (List It) × Int × Unit) :=
  if (i.length + ([(a, b, c, ())] : List It).length) * 32 ≤ 140737488355328 ∧ 0 < 32 ∧ 0 < 3 then
  (some (d, e, (i ++ ([(a, b, c, ())] : List It)), j, ())) else none
def g (a : Int) (b : Int) (c : Str) (d : List Tk) (e : Int) (i : List It) (j : Int) : Option ((List Tk) × Int × (List It) × Int × Unit) := f (1000 + a.toNat + b.toNat + c.length + d.length + e.toNat + i.length + j.toNat) a b c d e i j
end expr_parser_put
structure Rec_expr_parser_sum where
 expr_parser_sum : Int → (List Tk) → Int → (List It) → Int → Option ((List Tk) × Int × (List It) × Int × Unit)
 expr_parser_row_c200 : (List Str) → (List Tk) → Int → (List It) → Int → Int → Option ((List Tk) × Int × (List It) × Int × Unit × Int × Unit)
 expr_parser_sum_1 : Int → (List Tk) → Int → (List It) → Int → Option (Unit × Int × (List Tk) × Int × (List It) × Int × Unit)
 expr_parser_row_c201 : (List Str) → (List Tk) → Int → (List It) → Int → Int → Option ((List Tk) × Int × (List It) × Int × Unit × Int × Unit)
 expr_parser_sum_1_1 : Int → (List Tk) → Int → (List It) → Int → Option (Unit × Int × (List Tk) × Int × (List It) × Int × Unit)
 expr_parser_factor : Int → (List Tk) → Int → (List It) → Int → Option ((List Tk) × Int × (List It) × Int × Unit)
namespace expr_parser_sum
def f (n : Nat) (R : Rec_expr_parser_sum) (a : Int) (b : List Tk) (c : Int) (d : List It) (e : Int) : Option ((List Tk) × Int × (List It) × Int × Unit) :=
  (R.expr_parser_row_c200 ([([43] : Str), ([45] : Str)] : List Str) b c d e a).bind fun y1 =>
  some (y1.1, y1.2.1, y1.2.2.1, y1.2.2.2.1, ())
def h (R : Rec_expr_parser_sum) (a : Int) (b : List Tk) (c : Int) (d : List It) (e : Int) : Option ((List Tk) × Int × (List It) × Int × Unit) := f (1000 + a.toNat + b.length + c.toNat + d.length + e.toNat) R a b c d e
end expr_parser_sum
namespace expr_parser_row_c200
def l1 (n : Nat) (R : Rec_expr_parser_sum) : Nat → (List Str) → (List Tk) → Int → (List It) → Int → Int → Option ((List Tk) × Int × (List It) × Int × Unit × Int × Unit)
 | 0, _, _, _, _, _, _ => none
 | m + 1, a, b, c, d, e, i =>
  (expr_parser_sign.g a b c d e).bind fun y1 =>
  if (!y1.2.1) then
  (some (y1.2.2.1, y1.2.2.2.1, y1.2.2.2.2.1, y1.2.2.2.2.2.1, (), i, ()))
  else
  ((R.expr_parser_sum_1 i y1.2.2.1 y1.2.2.2.1 y1.2.2.2.2.1 y1.2.2.2.2.2.1).bind fun y2 =>
  (expr_parser_put.g ((L.kinds y1.1).1) 0 ([] : Str) y2.2.2.1 y2.2.2.2.1 y2.2.2.2.2.1 y2.2.2.2.2.2.1).bind fun y3 =>
  (expr_parser_row_c200.l1 n R m) a y3.1 y3.2.1 y3.2.2.1 y3.2.2.2.1 y2.2.1)
def f (n : Nat) (R : Rec_expr_parser_sum) (a : List Str) (b : List Tk) (c : Int) (d : List It) (e : Int) (i : Int) : Option ((List Tk) × Int × (List It) × Int × Unit × Int × Unit) :=
  (R.expr_parser_sum_1 i b c d e).bind fun y1 =>
  expr_parser_row_c200.l1 n R n a y1.2.2.1 y1.2.2.2.1 y1.2.2.2.2.1 y1.2.2.2.2.2.1 y1.2.1
def h (R : Rec_expr_parser_sum) (a : List Str) (b : List Tk) (c : Int) (d : List It) (e : Int) (i : Int) : Option ((List Tk) × Int × (List It) × Int × Unit × Int × Unit) := f (1000 + a.length + b.length + c.toNat + d.length + e.toNat + i.toNat) R a b c d e i
end expr_parser_row_c200
namespace expr_parser_sum_1
def f (n : Nat) (R : Rec_expr_parser_sum) (a : Int) (b : List Tk) (c : Int) (d : List It) (e : Int) : Option (Unit × Int × (List Tk) × Int × (List It) × Int × Unit) :=
  (R.expr_parser_row_c201 ([([42] : Str)] : List Str) b c d e a).bind fun y1 =>
  some ((), y1.2.2.2.2.2.1, y1.1, y1.2.1, y1.2.2.1, y1.2.2.2.1, ())
def h (R : Rec_expr_parser_sum) (a : Int) (b : List Tk) (c : Int) (d : List It) (e : Int) : Option (Unit × Int × (List Tk) × Int × (List It) × Int × Unit) := f (1000 + a.toNat + b.length + c.toNat + d.length + e.toNat) R a b c d e
end expr_parser_sum_1
namespace expr_parser_row_c201
def l1 (n : Nat) (R : Rec_expr_parser_sum) : Nat → (List Str) → (List Tk) → Int → (List It) → Int → Int → Option ((List Tk) × Int × (List It) × Int × Unit × Int × Unit)
 | 0, _, _, _, _, _, _ => none
 | m + 1, a, b, c, d, e, i =>
  (expr_parser_sign.g a b c d e).bind fun y1 =>
  if (!y1.2.1) then
  (some (y1.2.2.1, y1.2.2.2.1, y1.2.2.2.2.1, y1.2.2.2.2.2.1, (), i, ()))
  else
  ((R.expr_parser_sum_1_1 i y1.2.2.1 y1.2.2.2.1 y1.2.2.2.2.1 y1.2.2.2.2.2.1).bind fun y2 =>
  (expr_parser_put.g ((L.kinds y1.1).1) 0 ([] : Str) y2.2.2.1 y2.2.2.2.1 y2.2.2.2.2.1 y2.2.2.2.2.2.1).bind fun y3 =>
  (expr_parser_row_c201.l1 n R m) a y3.1 y3.2.1 y3.2.2.1 y3.2.2.2.1 y2.2.1)
def f (n : Nat) (R : Rec_expr_parser_sum) (a : List Str) (b : List Tk) (c : Int) (d : List It) (e : Int) (i : Int) : Option ((List Tk) × Int × (List It) × Int × Unit × Int × Unit) :=
  (R.expr_parser_sum_1_1 i b c d e).bind fun y1 =>
  expr_parser_row_c201.l1 n R n a y1.2.2.1 y1.2.2.2.1 y1.2.2.2.2.1 y1.2.2.2.2.2.1 y1.2.1
def h (R : Rec_expr_parser_sum) (a : List Str) (b : List Tk) (c : Int) (d : List It) (e : Int) (i : Int) : Option ((List Tk) × Int × (List It) × Int × Unit × Int × Unit) := f (1000 + a.length + b.length + c.toNat + d.length + e.toNat + i.toNat) R a b c d e i
end expr_parser_row_c201
namespace expr_parser_sum_1_1
def f (n : Nat) (R : Rec_expr_parser_sum) (a : Int) (b : List Tk) (c : Int) (d : List It) (e : Int) : Option (Unit × Int × (List Tk) × Int × (List It) × Int × Unit) :=
  (R.expr_parser_factor a b c d e).bind fun y1 =>
  some ((), a, y1.1, y1.2.1, y1.2.2.1, y1.2.2.2.1, ())
def h (R : Rec_expr_parser_sum) (a : Int) (b : List Tk) (c : Int) (d : List It) (e : Int) : Option (Unit × Int × (List Tk) × Int × (List It) × Int × Unit) := f (1000 + a.toNat + b.length + c.toNat + d.length + e.toNat) R a b c d e
end expr_parser_sum_1_1
namespace expr_parser_factor
def j19 (n : Nat) (R : Rec_expr_parser_sum) (a : List Tk) (b : Int) (c : List It) (d : Int) : Option ((List Tk) × Int × (List It) × Int × Unit) :=
  some (a, (IntKind.i64.wrap (b + (1 : Int))), c, d, ())
def f (n : Nat) (R : Rec_expr_parser_sum) (a : Int) (b : List Tk) (c : Int) (d : List It) (e : Int) : Option ((List Tk) × Int × (List It) × Int × Unit) :=
  if (decide (e ≠ (0 : Int))) then (some (b, c, d, e, ()))
  else
  (if (decide ((8 : Int) < a)) then
  ((expr_parser_fail.g (24 : Int) b c d e).bind fun y1 =>
  some (y1.1, y1.2.1, y1.2.2.1, y1.2.2.2.1, ()))
  else
  ((expr_parser_sign.g ([([45] : Str), ([40] : Str)] : List Str) b c d e).bind fun y2 =>
  if (decide (y2.1 = ([45] : Str))) then
  ((R.expr_parser_factor (IntKind.i64.wrap (a + (1 : Int))) y2.2.2.1 y2.2.2.2.1 y2.2.2.2.2.1 y2.2.2.2.2.2.1).bind fun y3 =>
  (expr_parser_put.g (3 : Int) 0 ([] : Str) y3.1 y3.2.1 y3.2.2.1 y3.2.2.2.1).bind fun y4 =>
  some (y4.1, y4.2.1, y4.2.2.1, y4.2.2.2.1, ()))
  else
  (if (decide (y2.1 = ([40] : Str))) then
  ((R.expr_parser_sum (IntKind.i64.wrap (a + (1 : Int))) y2.2.2.1 y2.2.2.2.1 y2.2.2.2.2.1 y2.2.2.2.2.2.1).bind fun y5 =>
  (expr_parser_sign.g ([([41] : Str)] : List Str) y5.1 y5.2.1 y5.2.2.1 y5.2.2.2.1).bind fun y6 =>
  if (!y6.2.1) then
  ((expr_parser_fail.g (23 : Int) y6.2.2.1 y6.2.2.2.1 y6.2.2.2.2.1 y6.2.2.2.2.2.1).bind fun y7 =>
  some (y7.1, y7.2.1, y7.2.2.1, y7.2.2.2.1, ()))
  else
  (some (y6.2.2.1, y6.2.2.2.1, y6.2.2.2.2.1, y6.2.2.2.2.2.1, ())))
  else
  ((expr_parser_next.g y2.2.2.1 y2.2.2.2.1 y2.2.2.2.2.1 y2.2.2.2.2.2.1).bind fun y8 =>
  if y8.2.2.2.2.1 then
  (if (decide (y8.1 = (2 : Int))) then
  ((expr_parser_put.g (1 : Int) y8.2.2.2.1 ([] : Str) y8.2.2.2.2.2.1 y8.2.2.2.2.2.2.1 y8.2.2.2.2.2.2.2.1 y8.2.2.2.2.2.2.2.2.1).bind fun y9 =>
  expr_parser_factor.j19 n R y9.1 y9.2.1 y9.2.2.1 y9.2.2.2.1)
  else
  (if y8.2.2.2.2.1 then
  (if (decide (y8.1 = (1 : Int))) then
  ((name_Label.g y8.2.2.1).bind fun y10 =>
  if y10.1 then
  ((expr_parser_put.g (2 : Int) 0 y8.2.2.1 y8.2.2.2.2.2.1 y8.2.2.2.2.2.2.1 y8.2.2.2.2.2.2.2.1 y8.2.2.2.2.2.2.2.2.1).bind fun y11 =>
  expr_parser_factor.j19 n R y11.1 y11.2.1 y11.2.2.1 y11.2.2.2.1)
  else
  ((expr_parser_fail.g (23 : Int) y8.2.2.2.2.2.1 y8.2.2.2.2.2.2.1 y8.2.2.2.2.2.2.2.1 y8.2.2.2.2.2.2.2.2.1).bind fun y12 =>
  expr_parser_factor.j19 n R y12.1 y12.2.1 y12.2.2.1 y12.2.2.2.1))
  else
  ((expr_parser_fail.g (23 : Int) y8.2.2.2.2.2.1 y8.2.2.2.2.2.2.1 y8.2.2.2.2.2.2.2.1 y8.2.2.2.2.2.2.2.2.1).bind fun y13 =>
  expr_parser_factor.j19 n R y13.1 y13.2.1 y13.2.2.1 y13.2.2.2.1))
  else
  ((expr_parser_fail.g (23 : Int) y8.2.2.2.2.2.1 y8.2.2.2.2.2.2.1 y8.2.2.2.2.2.2.2.1 y8.2.2.2.2.2.2.2.2.1).bind fun y14 =>
  expr_parser_factor.j19 n R y14.1 y14.2.1 y14.2.2.1 y14.2.2.2.1)))
  else
  (if y8.2.2.2.2.1 then
  (if (decide (y8.1 = (1 : Int))) then
  ((name_Label.g y8.2.2.1).bind fun y15 =>
  if y15.1 then
  ((expr_parser_put.g (2 : Int) 0 y8.2.2.1 y8.2.2.2.2.2.1 y8.2.2.2.2.2.2.1 y8.2.2.2.2.2.2.2.1 y8.2.2.2.2.2.2.2.2.1).bind fun y16 =>
  expr_parser_factor.j19 n R y16.1 y16.2.1 y16.2.2.1 y16.2.2.2.1)
  else
  ((expr_parser_fail.g (23 : Int) y8.2.2.2.2.2.1 y8.2.2.2.2.2.2.1 y8.2.2.2.2.2.2.2.1 y8.2.2.2.2.2.2.2.2.1).bind fun y17 =>
  expr_parser_factor.j19 n R y17.1 y17.2.1 y17.2.2.1 y17.2.2.2.1))
  else
  ((expr_parser_fail.g (23 : Int) y8.2.2.2.2.2.1 y8.2.2.2.2.2.2.1 y8.2.2.2.2.2.2.2.1 y8.2.2.2.2.2.2.2.2.1).bind fun y18 =>
  expr_parser_factor.j19 n R y18.1 y18.2.1 y18.2.2.1 y18.2.2.2.1))
  else
  ((expr_parser_fail.g (23 : Int) y8.2.2.2.2.2.1 y8.2.2.2.2.2.2.1 y8.2.2.2.2.2.2.2.1 y8.2.2.2.2.2.2.2.2.1).bind fun y19 =>
  expr_parser_factor.j19 n R y19.1 y19.2.1 y19.2.2.1 y19.2.2.2.1))))))
def h (R : Rec_expr_parser_sum) (a : Int) (b : List Tk) (c : Int) (d : List It) (e : Int) : Option ((List Tk) × Int × (List It) × Int × Unit) := f (1000 + a.toNat + b.length + c.toNat + d.length + e.toNat) R a b c d e
end expr_parser_factor
def rec_expr_parser_sum : Nat → Rec_expr_parser_sum
 | 0 => ⟨fun _ _ _ _ _ => none, fun _ _ _ _ _ _ => none, fun _ _ _ _ _ => none, fun _ _ _ _ _ _ => none, fun _ _ _ _ _ => none, fun _ _ _ _ _ => none⟩
 | q + 1 => ⟨expr_parser_sum.h (rec_expr_parser_sum q), expr_parser_row_c200.h (rec_expr_parser_sum q), expr_parser_sum_1.h (rec_expr_parser_sum q), expr_parser_row_c201.h (rec_expr_parser_sum q), expr_parser_sum_1_1.h (rec_expr_parser_sum q), expr_parser_factor.h (rec_expr_parser_sum q)⟩
def expr_parser_sum.g (a : Int) (b : List Tk) (c : Int) (d : List It) (e : Int) : Option ((List Tk) × Int × (List It) × Int × Unit) := (rec_expr_parser_sum (1000 + a.toNat + b.length + c.toNat + d.length + e.toNat)).expr_parser_sum a b c d e
def expr_parser_row_c200.g (a : List Str) (b : List Tk) (c : Int) (d : List It) (e : Int) (i : Int) : Option ((List Tk) × Int × (List It) × Int × Unit × Int × Unit) := (rec_expr_parser_sum (1000 + a.length + b.length + c.toNat + d.length + e.toNat + i.toNat)).expr_parser_row_c200 a b c d e i
def expr_parser_sum_1.g (a : Int) (b : List Tk) (c : Int) (d : List It) (e : Int) : Option (Unit × Int × (List Tk) × Int × (List It) × Int × Unit) := (rec_expr_parser_sum (1000 + a.toNat + b.length + c.toNat + d.length + e.toNat)).expr_parser_sum_1 a b c d e
def expr_parser_row_c201.g (a : List Str) (b : List Tk) (c : Int) (d : List It) (e : Int) (i : Int) : Option ((List Tk) × Int × (List It) × Int × Unit × Int × Unit) := (rec_expr_parser_sum (1000 + a.length + b.length + c.toNat + d.length + e.toNat + i.toNat)).expr_parser_row_c201 a b c d e i
def expr_parser_sum_1_1.g (a : Int) (b : List Tk) (c : Int) (d : List It) (e : Int) : Option (Unit × Int × (List Tk) × Int × (List It) × Int × Unit) := (rec_expr_parser_sum (1000 + a.toNat + b.length + c.toNat + d.length + e.toNat)).expr_parser_sum_1_1 a b c d e
def expr_parser_factor.g (a : Int) (b : List Tk) (c : Int) (d : List It) (e : Int) : Option ((List Tk) × Int × (List It) × Int × Unit) := (rec_expr_parser_sum (1000 + a.toNat + b.length + c.toNat + d.length + e.toNat)).expr_parser_factor a b c d e
namespace expr_Parse
def j5 (n : Nat) (a : List Tk) (b : Int) (c : List It) (d : Int) : Option ((List It) × Int × Int × Unit) :=
  if (decide (d ≠ (0 : Int))) then (some ([], (0 : Int), d, ()))
  else (some (c, b, (0 : Int), ()))
def f (n : Nat) (a : List Tk) (b : Int) : Option ((List It) × Int × Int × Unit) :=
  (expr_parser_sum.g (0 : Int) a b ([]) 0).bind fun y1 =>
  if (decide (y1.2.2.2.1 = (0 : Int))) then
  (if (decide ((64 : Int) < (y1.2.2.1.length : Int))) then (expr_Parse.j5 n y1.1 y1.2.1 y1.2.2.1 (24 : Int))
  else (expr_Parse.j5 n y1.1 y1.2.1 y1.2.2.1 y1.2.2.2.1))
  else (expr_Parse.j5 n y1.1 y1.2.1 y1.2.2.1 y1.2.2.2.1)
def g (a : List Tk) (b : Int) : Option ((List It) × Int × Int × Unit) := f (1000 + a.length + b.toNat) a b
end expr_Parse
namespace rivetref07_Fit
def l4 (n : Nat) : Nat → Str → Str → Str → Int → Option (Str × Unit)
 | 0, _, _, _, _ => none
 | m + 1, a, b, c, d =>
  if (decide (d < (a.length : Int))) then
  (if (decide (d < (6 : Int))) then
  (if 0 ≤ d ∧ d < (a.length : Int) then
  (if 0 ≤ d ∧ d < (a.length : Int) then
  (if 0 ≤ (IntKind.i64.wrap ((Int.tmod (IntKind.i64.wrap (bt a d)) (12 : Int)) + (1 : Int))) ∧ (IntKind.i64.wrap ((Int.tmod (IntKind.i64.wrap (bt a d)) (12 : Int)) + (1 : Int))) ≤ (b.length : Int) then
  (if 0 ≤ (Int.tmod (IntKind.i64.wrap (bt a d)) (12 : Int)) ∧ (Int.tmod (IntKind.i64.wrap (bt a d)) (12 : Int)) ≤ (IntKind.i64.wrap ((Int.tmod (IntKind.i64.wrap (bt a d)) (12 : Int)) + (1 : Int))) then
  (if c.length + ((b.take (((IntKind.i64.wrap ((Int.tmod (IntKind.i64.wrap (bt a d)) (12 : Int)) + (1 : Int)))).toNat)).drop (((Int.tmod (IntKind.i64.wrap (bt a d)) (12 : Int))).toNat)).length ≤ 9223372036854775807 then
  ((rivetref07_Fit.l4 n m) a b (c ++ ((b.take (((IntKind.i64.wrap ((Int.tmod (IntKind.i64.wrap (bt a d)) (12 : Int)) + (1 : Int)))).toNat)).drop (((Int.tmod (IntKind.i64.wrap (bt a d)) (12 : Int))).toNat))) (IntKind.i64.wrap (d + (1 : Int)))) else none) else none) else none) else none) else none)
  else (some (c, ())))
  else (some (c, ()))
def f (n : Nat) (a : Str) : Option (Str × Unit) :=
  rivetref07_Fit.l4 n n a ([97, 98, 99, 88, 89, 90, 95, 48, 49, 57, 82, 109] : Str) (bytesOf ([(IntKind.u8.wrap ((97 : Int) + (IntKind.u8.wrap (Int.tmod (a.length : Int) (26 : Int)))))] : List Int)) (0 : Int)
def g (a : Str) : Option (Str × Unit) := f (1000 + a.length) a
end rivetref07_Fit
namespace rivetref13_Fit
def f (n : Nat) (a : Str) : Option (Str × Unit) :=
  (rivetref07_Fit.g a).bind fun y1 =>
  if (decide ((Int.tmod (a.length : Int) (3 : Int)) = (1 : Int))) then
  (if 0 ≤ (mn (y1.1.length : Int) (11 : Int)) ∧ (mn (y1.1.length : Int) (11 : Int)) ≤ (y1.1.length : Int) then
  (if ([95] : Str).length + ((y1.1.take (((mn (y1.1.length : Int) (11 : Int))).toNat)).drop 0).length ≤ 9223372036854775807 then
  (some ((([95] : Str) ++ ((y1.1.take (((mn (y1.1.length : Int) (11 : Int))).toNat)).drop 0)), ())) else none) else none)
  else (some (y1.1, ()))
def g (a : Str) : Option (Str × Unit) := f (1000 + a.length) a
end rivetref13_Fit
namespace rivetref15_Fit
def j18 (n : Nat) (rl4 : (List It) → (List It) → Int → Int → Option ((List It) × Unit)) (a : List It) (b : List It) (c : Int) (d : Int) (e : Int) (i : Int) (j : Str) : Option ((List It) × Unit) :=
  if (b.length + ([(e, i, j, ())] : List It).length) * 32 ≤ 140737488355328 ∧ 0 < 32 ∧ 0 < 3 then
  (rl4 a (b ++ ([(e, i, j, ())] : List It)) c (IntKind.i64.wrap (d + (1 : Int)))) else none
def j9 (n : Nat) (rl4 : (List It) → (List It) → Int → Int → Option ((List It) × Unit)) (a : List It) (b : List It) (c : Int) (d : Int) (e : Int) (i : Int) (j : Str) : Option ((List It) × Unit) :=
  if (decide (e = (1 : Int))) then
  (if 0 ≤ d ∧ d < (a.length : Int) then
  (rivetref15_Fit.j18 n rl4 a b (IntKind.i64.wrap (c + (1 : Int))) d e (((a.getD (d).toNat zI).2).1) j) else none)
  else
  (if (decide (e = (2 : Int))) then
  (if 0 ≤ d ∧ d < (a.length : Int) then
  (if 0 ≤ d ∧ d < (a.length : Int) then
  (if 0 ≤ (mn (((((a.getD (d).toNat zI).2).2).1).length : Int) (6 : Int)) ∧ (mn (((((a.getD (d).toNat zI).2).2).1).length : Int) (6 : Int)) ≤ (((((a.getD (d).toNat zI).2).2).1).length : Int) then
  ((rivetref13_Fit.g ((((((a.getD (d).toNat zI).2).2).1).take (((mn (((((a.getD (d).toNat zI).2).2).1).length : Int) (6 : Int))).toNat)).drop 0)).bind fun y1 =>
  rivetref15_Fit.j18 n rl4 a b (IntKind.i64.wrap (c + (1 : Int))) d e i y1.1) else none) else none) else none)
  else
  (if (decide (e = (3 : Int))) then (rivetref15_Fit.j18 n rl4 a b c d e i j)
  else
  (rivetref15_Fit.j18 n rl4 a b (IntKind.i64.wrap (c - (1 : Int))) d e i j)))
def l21 (n : Nat) : Nat → (List It) → Int → Option ((List It) × Unit)
 | 0, _, _ => none
 | m + 1, a, b =>
  if (decide ((1 : Int) < b)) then
  (if (a.length + ([((4 : Int), 0, ([] : Str), ())] : List It).length) * 32 ≤ 140737488355328 ∧ 0 < 32 ∧ 0 < 3 then
  ((rivetref15_Fit.l21 n m) (a ++ ([((4 : Int), 0, ([] : Str), ())] : List It)) (IntKind.i64.wrap (b - (1 : Int)))) else none)
  else (some (a, ()))
def j19 (n : Nat) (a : List It) (b : Int) : Option ((List It) × Unit) :=
  if (decide (b = (0 : Int))) then
  (some (([((1 : Int), (7 : Int), ([] : Str), ())] : List It), ()))
  else (rivetref15_Fit.l21 n n a b)
def l4 (n : Nat) : Nat → (List It) → (List It) → Int → Int → Option ((List It) × Unit)
 | 0, _, _, _, _ => none
 | m + 1, a, b, c, d =>
  if (decide (d < (a.length : Int))) then
  (if (decide (d < (10 : Int))) then
  (if 0 ≤ d ∧ d < (a.length : Int) then
  (if (decide ((IntKind.i64.wrap ((1 : Int) + (Int.tmod (IntKind.i64.wrap ((Int.tmod ((a.getD (d).toNat zI).1) (6 : Int)) + (6 : Int))) (6 : Int)))) = (3 : Int))) then
  (if (decide (c < (1 : Int))) = false then
  (if (decide ((3 : Int) < (IntKind.i64.wrap ((1 : Int) + (Int.tmod (IntKind.i64.wrap ((Int.tmod ((a.getD (d).toNat zI).1) (6 : Int)) + (6 : Int))) (6 : Int)))))) then
  (if (decide (c < (2 : Int))) then
  (rivetref15_Fit.j9 n (rivetref15_Fit.l4 n m) a b c d (1 : Int) 0 ([] : Str))
  else
  (rivetref15_Fit.j9 n (rivetref15_Fit.l4 n m) a b c d (IntKind.i64.wrap ((1 : Int) + (Int.tmod (IntKind.i64.wrap ((Int.tmod ((a.getD (d).toNat zI).1) (6 : Int)) + (6 : Int))) (6 : Int)))) 0 ([] : Str)))
  else
  (rivetref15_Fit.j9 n (rivetref15_Fit.l4 n m) a b c d (IntKind.i64.wrap ((1 : Int) + (Int.tmod (IntKind.i64.wrap ((Int.tmod ((a.getD (d).toNat zI).1) (6 : Int)) + (6 : Int))) (6 : Int)))) 0 ([] : Str)))
  else
  (rivetref15_Fit.j9 n (rivetref15_Fit.l4 n m) a b c d (1 : Int) 0 ([] : Str)))
  else
  (if (decide ((3 : Int) < (IntKind.i64.wrap ((1 : Int) + (Int.tmod (IntKind.i64.wrap ((Int.tmod ((a.getD (d).toNat zI).1) (6 : Int)) + (6 : Int))) (6 : Int)))))) then
  (if (decide (c < (2 : Int))) then
  (rivetref15_Fit.j9 n (rivetref15_Fit.l4 n m) a b c d (1 : Int) 0 ([] : Str))
  else
  (rivetref15_Fit.j9 n (rivetref15_Fit.l4 n m) a b c d (IntKind.i64.wrap ((1 : Int) + (Int.tmod (IntKind.i64.wrap ((Int.tmod ((a.getD (d).toNat zI).1) (6 : Int)) + (6 : Int))) (6 : Int)))) 0 ([] : Str)))
  else
  (rivetref15_Fit.j9 n (rivetref15_Fit.l4 n m) a b c d (IntKind.i64.wrap ((1 : Int) + (Int.tmod (IntKind.i64.wrap ((Int.tmod ((a.getD (d).toNat zI).1) (6 : Int)) + (6 : Int))) (6 : Int)))) 0 ([] : Str)))) else none)
  else (rivetref15_Fit.j19 n b c))
  else (rivetref15_Fit.j19 n b c)
def f (n : Nat) (a : List It) : Option ((List It) × Unit) :=
  rivetref15_Fit.l4 n n a ([] : List It) (0 : Int) (0 : Int)
def g (a : List It) : Option ((List It) × Unit) := f (1000 + a.length) a
end rivetref15_Fit
namespace expr_needs
def j2 (n : Nat) (a : Bool) (b : Int) (c : Int) (d : Str) : Option (Int × Bool × Unit) :=
  if (decide (b = (1 : Int))) then (some ((0 : Int), (decide (d = ([] : Str))), ()))
  else
  (if (decide (b = (2 : Int))) then
  (if (decide (c = (0 : Int))) then
  ((name_Label.g d).bind fun y1 =>
  some ((0 : Int), y1.1, ()))
  else (some ((0 : Int), false, ())))
  else
  (if (decide (b = (3 : Int))) then (some ((1 : Int), a, ()))
  else
  (if (decide (b = (4 : Int))) then
  (if (decide (b = (4 : Int))) then (some ((2 : Int), a, ()))
  else (some ((0 : Int), false, ())))
  else
  (if (decide (b = (5 : Int))) then
  (if (decide (b = (5 : Int))) then (some ((2 : Int), a, ()))
  else (some ((0 : Int), false, ())))
  else
  (if (decide (b = (6 : Int))) then (some ((2 : Int), a, ()))
  else (some ((0 : Int), false, ())))))))
def f (n : Nat) (a : Int) (b : Int) (c : Str) : Option (Int × Bool × Unit) :=
  if (decide (b = (0 : Int))) then (expr_needs.j2 n (decide (c = ([] : Str))) a b c)
  else (expr_needs.j2 n false a b c)
def g (a : Int) (b : Int) (c : Str) : Option (Int × Bool × Unit) := f (1000 + a.toNat + b.toNat + c.length) a b c
end expr_needs
namespace expr_Well
def l3 (n : Nat) : Nat → (List It) → Int → (List It) → Int → Int → Option (Bool × Unit)
 | 0, _, _, _, _, _ => none
 | m + 1, a, b, c, d, e =>
  if (decide (e < d)) then
  (if 0 ≤ e ∧ e < (c.length : Int) then
  ((expr_needs.g ((c.getD (e).toNat zI).1) (((c.getD (e).toNat zI).2).1) ((((c.getD (e).toNat zI).2).2).1)).bind fun y1 =>
  if (!y1.2.1) = false then
  (if (decide (b < y1.1)) then (some (false, ()))
  else
  ((expr_Well.l3 n m) a (IntKind.i64.wrap (b + (IntKind.i64.wrap ((1 : Int) - y1.1)))) c d (IntKind.i64.wrap (e + (1 : Int)))))
  else (some (false, ()))) else none)
  else
  (if (decide (b = (1 : Int))) then (some ((decide ((a.length : Int) ≤ (64 : Int))), ()))
  else (some (false, ())))
def f (n : Nat) (a : List It) : Option (Bool × Unit) :=
  expr_Well.l3 n n a (0 : Int) a (a.length : Int) (0 : Int)
def g (a : List It) : Option (Bool × Unit) := f (1000 + a.length) a
end expr_Well
namespace strconv_FormatUint
def f (n : Nat) (a : Int) (b : Int) : Option (Str × Unit) :=
  (L.formatUintO a b).bind fun y1 =>
  some (y1.1, ())
def g (a : Int) (b : Int) : Option (Str × Unit) := f (1000 + a.toNat + b.toNat) a b
end strconv_FormatUint
namespace expr_part_at
def f (n : Nat) (a : Str) (b : Int) (c : Int) : Option (Str × Unit) :=
  if (decide (b < c)) then
  (if ([40] : Str).length + a.length ≤ 9223372036854775807 then
  (if (([40] : Str) ++ a).length + ([41] : Str).length ≤ 9223372036854775807 then (some (((([40] : Str) ++ a) ++ ([41] : Str)), ())) else none) else none)
  else (some (a, ()))
def g (a : Str) (b : Int) (c : Int) : Option (Str × Unit) := f (1000 + a.length + b.toNat + c.toNat) a b c
end expr_part_at
namespace expr_Print
def j23 (n : Nat) (rl5 : (List (Str × Int × Unit)) → (List It) → Int → Int → Option (Str × Int × Unit)) (a : List (Str × Int × Unit)) (b : Int) (c : List It) (d : Int) (e : Int) (i : Str) (j : Int) : Option (Str × Int × Unit) :=
  if 0 ≤ (IntKind.i64.wrap ((a.length : Int) - b)) ∧ (IntKind.i64.wrap ((a.length : Int) - b)) ≤ (a.length : Int) then
  (if ((a.take ((IntKind.i64.wrap ((a.length : Int) - b))).toNat).length + ([(i, j, ())] : List (Str × Int × Unit)).length) * 24 ≤ 140737488355328 ∧ 0 < 24 ∧ 0 < 2 then
  (rl5 ((a.take ((IntKind.i64.wrap ((a.length : Int) - b))).toNat) ++ ([(i, j, ())] : List (Str × Int × Unit))) c d (IntKind.i64.wrap (e + (1 : Int)))) else none) else none
def l5 (n : Nat) : Nat → (List (Str × Int × Unit)) → (List It) → Int → Int → Option (Str × Int × Unit)
 | 0, _, _, _, _ => none
 | m + 1, a, b, c, d =>
  if (decide (d < c)) then
  (if 0 ≤ d ∧ d < (b.length : Int) then
  ((expr_needs.g ((b.getD (d).toNat zI).1) (((b.getD (d).toNat zI).2).1) ((((b.getD (d).toNat zI).2).2).1)).bind fun y1 =>
  if 0 ≤ (IntKind.i64.wrap ((a.length : Int) - y1.1)) ∧ (IntKind.i64.wrap ((a.length : Int) - y1.1)) ≤ (a.length : Int) then
  (if (decide ((b.getD (d).toNat zI).1 = (1 : Int))) then
  ((strconv_FormatUint.g (IntKind.u64.wrap ((b.getD (d).toNat zI).2).1) (10 : Int)).bind fun y2 =>
  expr_Print.j23 n (expr_Print.l5 n m) a y1.1 b c d y2.1 (2 : Int))
  else
  (if (decide ((b.getD (d).toNat zI).1 = (2 : Int))) then
  (expr_Print.j23 n (expr_Print.l5 n m) a y1.1 b c d ((((b.getD (d).toNat zI).2).2).1) (2 : Int))
  else
  (if (decide ((b.getD (d).toNat zI).1 = (3 : Int))) then
  (if 0 ≤ (0 : Int) ∧ (0 : Int) < (((a.take (((a.length : Int)).toNat)).drop (((IntKind.i64.wrap ((a.length : Int) - y1.1))).toNat)).length : Int) then
  ((expr_part_at.g ((((a.take (((a.length : Int)).toNat)).drop (((IntKind.i64.wrap ((a.length : Int) - y1.1))).toNat)).getD ((0 : Int)).toNat (([] : Str), ((0 : Int), ()))).1) (((((a.take (((a.length : Int)).toNat)).drop (((IntKind.i64.wrap ((a.length : Int) - y1.1))).toNat)).getD ((0 : Int)).toNat (([] : Str), ((0 : Int), ()))).2).1) (2 : Int)).bind fun y3 =>
  if ([45] : Str).length + y3.1.length ≤ 9223372036854775807 then
  (expr_Print.j23 n (expr_Print.l5 n m) a y1.1 b c d (([45] : Str) ++ y3.1) (2 : Int)) else none) else none)
  else
  (if (decide ((b.getD (d).toNat zI).1 = (4 : Int))) then
  (if 0 ≤ (0 : Int) ∧ (0 : Int) < (((a.take (((a.length : Int)).toNat)).drop (((IntKind.i64.wrap ((a.length : Int) - y1.1))).toNat)).length : Int) then
  ((expr_part_at.g ((((a.take (((a.length : Int)).toNat)).drop (((IntKind.i64.wrap ((a.length : Int) - y1.1))).toNat)).getD ((0 : Int)).toNat (([] : Str), ((0 : Int), ()))).1) (((((a.take (((a.length : Int)).toNat)).drop (((IntKind.i64.wrap ((a.length : Int) - y1.1))).toNat)).getD ((0 : Int)).toNat (([] : Str), ((0 : Int), ()))).2).1) (0 : Int)).bind fun y4 =>
  if y4.1.length + ([32, 43, 32] : Str).length ≤ 9223372036854775807 then
  (if 0 ≤ (1 : Int) ∧ (1 : Int) < (((a.take (((a.length : Int)).toNat)).drop (((IntKind.i64.wrap ((a.length : Int) - y1.1))).toNat)).length : Int) then
  ((expr_part_at.g ((((a.take (((a.length : Int)).toNat)).drop (((IntKind.i64.wrap ((a.length : Int) - y1.1))).toNat)).getD ((1 : Int)).toNat (([] : Str), ((0 : Int), ()))).1) (((((a.take (((a.length : Int)).toNat)).drop (((IntKind.i64.wrap ((a.length : Int) - y1.1))).toNat)).getD ((1 : Int)).toNat (([] : Str), ((0 : Int), ()))).2).1) (1 : Int)).bind fun y5 =>
  if (y4.1 ++ ([32, 43, 32] : Str)).length + y5.1.length ≤ 9223372036854775807 then
  (expr_Print.j23 n (expr_Print.l5 n m) a y1.1 b c d ((y4.1 ++ ([32, 43, 32] : Str)) ++ y5.1) (0 : Int)) else none) else none) else none) else none)
  else
  (if (decide ((b.getD (d).toNat zI).1 = (5 : Int))) then
  (if 0 ≤ (0 : Int) ∧ (0 : Int) < (((a.take (((a.length : Int)).toNat)).drop (((IntKind.i64.wrap ((a.length : Int) - y1.1))).toNat)).length : Int) then
  ((expr_part_at.g ((((a.take (((a.length : Int)).toNat)).drop (((IntKind.i64.wrap ((a.length : Int) - y1.1))).toNat)).getD ((0 : Int)).toNat (([] : Str), ((0 : Int), ()))).1) (((((a.take (((a.length : Int)).toNat)).drop (((IntKind.i64.wrap ((a.length : Int) - y1.1))).toNat)).getD ((0 : Int)).toNat (([] : Str), ((0 : Int), ()))).2).1) (0 : Int)).bind fun y6 =>
  if y6.1.length + ([32, 45, 32] : Str).length ≤ 9223372036854775807 then
  (if 0 ≤ (1 : Int) ∧ (1 : Int) < (((a.take (((a.length : Int)).toNat)).drop (((IntKind.i64.wrap ((a.length : Int) - y1.1))).toNat)).length : Int) then
  ((expr_part_at.g ((((a.take (((a.length : Int)).toNat)).drop (((IntKind.i64.wrap ((a.length : Int) - y1.1))).toNat)).getD ((1 : Int)).toNat (([] : Str), ((0 : Int), ()))).1) (((((a.take (((a.length : Int)).toNat)).drop (((IntKind.i64.wrap ((a.length : Int) - y1.1))).toNat)).getD ((1 : Int)).toNat (([] : Str), ((0 : Int), ()))).2).1) (1 : Int)).bind fun y7 =>
  if (y6.1 ++ ([32, 45, 32] : Str)).length + y7.1.length ≤ 9223372036854775807 then
  (expr_Print.j23 n (expr_Print.l5 n m) a y1.1 b c d ((y6.1 ++ ([32, 45, 32] : Str)) ++ y7.1) (0 : Int)) else none) else none) else none) else none)
  else
  (if (decide ((b.getD (d).toNat zI).1 = (6 : Int))) then
  (if 0 ≤ (0 : Int) ∧ (0 : Int) < (((a.take (((a.length : Int)).toNat)).drop (((IntKind.i64.wrap ((a.length : Int) - y1.1))).toNat)).length : Int) then
  ((expr_part_at.g ((((a.take (((a.length : Int)).toNat)).drop (((IntKind.i64.wrap ((a.length : Int) - y1.1))).toNat)).getD ((0 : Int)).toNat (([] : Str), ((0 : Int), ()))).1) (((((a.take (((a.length : Int)).toNat)).drop (((IntKind.i64.wrap ((a.length : Int) - y1.1))).toNat)).getD ((0 : Int)).toNat (([] : Str), ((0 : Int), ()))).2).1) (1 : Int)).bind fun y8 =>
  if y8.1.length + ([32, 42, 32] : Str).length ≤ 9223372036854775807 then
  (if 0 ≤ (1 : Int) ∧ (1 : Int) < (((a.take (((a.length : Int)).toNat)).drop (((IntKind.i64.wrap ((a.length : Int) - y1.1))).toNat)).length : Int) then
  ((expr_part_at.g ((((a.take (((a.length : Int)).toNat)).drop (((IntKind.i64.wrap ((a.length : Int) - y1.1))).toNat)).getD ((1 : Int)).toNat (([] : Str), ((0 : Int), ()))).1) (((((a.take (((a.length : Int)).toNat)).drop (((IntKind.i64.wrap ((a.length : Int) - y1.1))).toNat)).getD ((1 : Int)).toNat (([] : Str), ((0 : Int), ()))).2).1) (2 : Int)).bind fun y9 =>
  if (y8.1 ++ ([32, 42, 32] : Str)).length + y9.1.length ≤ 9223372036854775807 then
  (expr_Print.j23 n (expr_Print.l5 n m) a y1.1 b c d ((y8.1 ++ ([32, 42, 32] : Str)) ++ y9.1) (1 : Int)) else none) else none) else none) else none)
  else
  (expr_Print.j23 n (expr_Print.l5 n m) a y1.1 b c d ([] : Str) 0))))))) else none) else none)
  else
  (if 0 ≤ (0 : Int) ∧ (0 : Int) < (a.length : Int) then
  (some ((a.getD ((0 : Int)).toNat (([] : Str), ((0 : Int), ()))).1, (0 : Int), ())) else none)
def f (n : Nat) (a : List It) : Option (Str × Int × Unit) :=
  (expr_Well.g a).bind fun y1 =>
  if (!y1.1) then (some (([] : Str), (23 : Int), ()))
  else (expr_Print.l5 n n ([]) a (a.length : Int) (0 : Int))
def g (a : List It) : Option (Str × Int × Unit) := f (1000 + a.length) a
end expr_Print
namespace rivetref15_Same
def l4 (n : Nat) : Nat → (List It) → (List It) → Int → Option (Bool × Unit)
 | 0, _, _, _ => none
 | m + 1, a, b, c =>
  if (decide (c < (a.length : Int))) then
  (if 0 ≤ c ∧ c < (a.length : Int) then
  (if 0 ≤ c ∧ c < (b.length : Int) then
  (if (!(decide ((a.getD (c).toNat zI).1 = (b.getD (c).toNat zI).1) && (decide (((a.getD (c).toNat zI).2).1 = ((b.getD (c).toNat zI).2).1) && (decide ((((a.getD (c).toNat zI).2).2).1 = (((b.getD (c).toNat zI).2).2).1) && true)))) then (some (false, ()))
  else
  ((rivetref15_Same.l4 n m) a b (IntKind.i64.wrap (c + (1 : Int))))) else none) else none)
  else (some (true, ()))
def f (n : Nat) (a : List It) (b : List It) : Option (Bool × Unit) :=
  if (decide ((a.length : Int) ≠ (b.length : Int))) then (some (false, ()))
  else (rivetref15_Same.l4 n n a b (0 : Int))
def g (a : List It) (b : List It) : Option (Bool × Unit) := f (1000 + a.length + b.length) a b
end rivetref15_Same
end Rv
namespace Rv
open Go
set_option maxRecDepth 100000
namespace stmt_parser_check
def f (n : Nat) (a : Bool) (b : List Tk) (c : Int) (d : Int) : Option ((List Tk) × Int × Int × Unit) :=
  if (!a) then
  (if (decide (d = (0 : Int))) then (some (b, c, (22 : Int), ()))
  else (some (b, c, d, ())))
  else (some (b, c, d, ()))
def g (a : Bool) (b : List Tk) (c : Int) (d : Int) : Option ((List Tk) × Int × Int × Unit) := f (1000 + b.length + c.toNat + d.toNat) a b c d
end stmt_parser_check
namespace stmt_dotted
def f (n : Nat) (a : Int) : Option (Bool × Unit) :=
  if (decide (a = (9 : Int))) = false then (some ((decide (a = (10 : Int))), ()))
  else (some (true, ()))
def g (a : Int) : Option (Bool × Unit) := f (1000 + a.toNat) a
end stmt_dotted
namespace stmt_parser_peek
def f (n : Nat) (a : Int) (b : List Tk) (c : Int) (d : Int) : Option (Str × (List Tk) × Int × Int × Unit) :=
  if (decide (d ≠ (0 : Int))) = false then
  (if (decide ((b.length : Int) ≤ c)) = false then
  (if 0 ≤ c ∧ c < (b.length : Int) then
  (if (decide ((b.getD (c).toNat zT).1 ≠ a)) then (some (([] : Str), b, c, d, ()))
  else
  (if 0 ≤ c ∧ c < (b.length : Int) then
  (some ((((b.getD (c).toNat zT).2).2).1, b, c, d, ())) else none)) else none)
  else (some (([] : Str), b, c, d, ())))
  else (some (([] : Str), b, c, d, ()))
def g (a : Int) (b : List Tk) (c : Int) (d : Int) : Option (Str × (List Tk) × Int × Int × Unit) := f (1000 + a.toNat + b.length + c.toNat + d.toNat) a b c d
end stmt_parser_peek
namespace stmt_parser_take
def f (n : Nat) (a : Int) (b : List Tk) (c : Int) (d : Int) : Option (Str × (List Tk) × Int × Int × Unit) :=
  (stmt_parser_peek.g a b c d).bind fun y1 =>
  some (y1.1, y1.2.1, (IntKind.i64.wrap (y1.2.2.1 + (1 : Int))), y1.2.2.2.1, ())
def g (a : Int) (b : List Tk) (c : Int) (d : Int) : Option (Str × (List Tk) × Int × Int × Unit) := f (1000 + a.toNat + b.length + c.toNat + d.toNat) a b c d
end stmt_parser_take
namespace stmt_parser_choose
def f (n : Nat) (a : List Tk) (b : Int) (c : Int) (d : Int) (e : Int) (i : Int) (j : Int) (k : Int) (l : Bool) (o : List It) (p : Str) : Option ((List Tk) × Int × Int × Int × Int × Int × Int × Int × Bool × (List It) × Str × Unit) :=
  (stmt_parser_peek.g (1 : Int) a b c).bind fun y1 =>
  (name_Reg.g y1.1).bind fun y2 =>
  if (decide (d = (1 : Int))) then
  (if (!y2.2.1) = false then
  (if l then
  (if (decide (e = (0 : Int))) then
  (some (y1.2.1, y1.2.2.1, y1.2.2.2.1, (2 : Int), e, i, j, k, l, o, p, ()))
  else
  (if (decide (d = (7 : Int))) then
  (if y2.2.1 then
  (some (y1.2.1, y1.2.2.1, y1.2.2.2.1, (6 : Int), e, i, j, k, l, o, p, ()))
  else
  (some (y1.2.1, y1.2.2.1, y1.2.2.2.1, d, e, i, j, k, l, o, p, ())))
  else
  (some (y1.2.1, y1.2.2.1, y1.2.2.2.1, d, e, i, j, k, l, o, p, ()))))
  else
  (if (decide (d = (7 : Int))) then
  (if y2.2.1 then
  (some (y1.2.1, y1.2.2.1, y1.2.2.2.1, (6 : Int), e, i, j, k, l, o, p, ()))
  else
  (some (y1.2.1, y1.2.2.1, y1.2.2.2.1, d, e, i, j, k, l, o, p, ())))
  else
  (some (y1.2.1, y1.2.2.1, y1.2.2.2.1, d, e, i, j, k, l, o, p, ()))))
  else
  (some (y1.2.1, y1.2.2.1, y1.2.2.2.1, (2 : Int), e, i, j, k, l, o, p, ())))
  else
  (if (decide (d = (7 : Int))) then
  (if y2.2.1 then
  (some (y1.2.1, y1.2.2.1, y1.2.2.2.1, (6 : Int), e, i, j, k, l, o, p, ()))
  else
  (some (y1.2.1, y1.2.2.1, y1.2.2.2.1, d, e, i, j, k, l, o, p, ())))
  else
  (some (y1.2.1, y1.2.2.1, y1.2.2.2.1, d, e, i, j, k, l, o, p, ())))
def g (a : List Tk) (b : Int) (c : Int) (d : Int) (e : Int) (i : Int) (j : Int) (k : Int) (l : Bool) (o : List It) (p : Str) : Option ((List Tk) × Int × Int × Int × Int × Int × Int × Int × Bool × (List It) × Str × Unit) := f (1000 + a.length + b.toNat + c.toNat + d.toNat + e.toNat + i.toNat + j.toNat + k.toNat + o.length + p.length) a b c d e i j k l o p
end stmt_parser_choose
namespace stmt_operands_1
def f (n : Nat) (a : Int) (b : Int) (c : Int) (d : Int) (e : Int) (i : Bool) (j : List It) (k : Str) : Option (Unit × Int × Int × Int × Int × Int × Bool × (List It) × Str × Unit) :=
  some ((), a, b, c, d, e, i, j, k, ())
def g (a : Int) (b : Int) (c : Int) (d : Int) (e : Int) (i : Bool) (j : List It) (k : Str) : Option (Unit × Int × Int × Int × Int × Int × Bool × (List It) × Str × Unit) := f (1000 + a.toNat + b.toNat + c.toNat + d.toNat + e.toNat + j.length + k.length) a b c d e i j k
end stmt_operands_1
namespace stmt_operands_2
def f (n : Nat) (a : Int) (b : Int) (c : Int) (d : Int) (e : Int) (i : Bool) (j : List It) (k : Str) : Option (Unit × Int × Int × Int × Int × Int × Bool × (List It) × Str × Unit) :=
  some ((), a, b, c, d, e, i, j, k, ())
def g (a : Int) (b : Int) (c : Int) (d : Int) (e : Int) (i : Bool) (j : List It) (k : Str) : Option (Unit × Int × Int × Int × Int × Int × Bool × (List It) × Str × Unit) := f (1000 + a.toNat + b.toNat + c.toNat + d.toNat + e.toNat + j.length + k.length) a b c d e i j k
end stmt_operands_2
namespace stmt_operands_3
def f (n : Nat) (a : Int) (b : Int) (c : Int) (d : Int) (e : Int) (i : Bool) (j : List It) (k : Str) : Option (Unit × Int × Int × Int × Int × Int × Bool × (List It) × Str × Unit) :=
  some ((), a, b, c, d, e, i, j, k, ())
def g (a : Int) (b : Int) (c : Int) (d : Int) (e : Int) (i : Bool) (j : List It) (k : Str) : Option (Unit × Int × Int × Int × Int × Int × Bool × (List It) × Str × Unit) := f (1000 + a.toNat + b.toNat + c.toNat + d.toNat + e.toNat + j.length + k.length) a b c d e i j k
end stmt_operands_3
namespace stmt_register_1
def f (n : Nat) (a : Fn) (b : List Tk) (c : Int) (d : Int) (e : Int) (i : Int) (j : Int) (k : Int) (l : Int) (o : Bool) (p : List It) (q : Str) : Option ((List Tk) × Int × Int × Int × Int × Int × Int × Int × Bool × (List It) × Str × Unit) :=
  (stmt_parser_take.g (1 : Int) b c d).bind fun y1 =>
  (name_Reg.g y1.1).bind fun y2 =>
  (stmt_parser_check.g y2.2.1 y1.2.1 y1.2.2.1 y1.2.2.2.1).bind fun y3 =>
  if a = K.atA then ((stmt_operands_1.g e i j k l o p q).bind fun y4 =>
  some (y3.1, y3.2.1, y3.2.2.1, y4.2.1, y4.2.2.1, y2.1, y4.2.2.2.2.1, y4.2.2.2.2.2.1, y4.2.2.2.2.2.2.1, y4.2.2.2.2.2.2.2.1, y4.2.2.2.2.2.2.2.2.1, ()))
  else if a = K.atB then ((stmt_operands_2.g e i j k l o p q).bind fun y5 =>
  some (y3.1, y3.2.1, y3.2.2.1, y5.2.1, y5.2.2.1, y5.2.2.2.1, y2.1, y5.2.2.2.2.2.1, y5.2.2.2.2.2.2.1, y5.2.2.2.2.2.2.2.1, y5.2.2.2.2.2.2.2.2.1, ()))
  else if a = K.atC then ((stmt_operands_3.g e i j k l o p q).bind fun y6 =>
  some (y3.1, y3.2.1, y3.2.2.1, y6.2.1, y6.2.2.1, y6.2.2.2.1, y6.2.2.2.2.1, y2.1, y6.2.2.2.2.2.2.1, y6.2.2.2.2.2.2.2.1, y6.2.2.2.2.2.2.2.2.1, ()))
  else none
def g (a : Fn) (b : List Tk) (c : Int) (d : Int) (e : Int) (i : Int) (j : Int) (k : Int) (l : Int) (o : Bool) (p : List It) (q : Str) : Option ((List Tk) × Int × Int × Int × Int × Int × Int × Int × Bool × (List It) × Str × Unit) := f (1000 + b.length + c.toNat + d.toNat + e.toNat + i.toNat + j.toNat + k.toNat + l.toNat + p.length + q.length) a b c d e i j k l o p q
end stmt_register_1
namespace stmt_number_1
def j2 (n : Nat) (a : List Tk) (b : Int) (c : Int) (d : Int) (e : Int) (i : Int) (j : Int) (k : Int) (l : Bool) (o : List It) (p : Str) : Option ((List Tk) × Int × Int × Int × Int × Int × Int × Int × Bool × (List It) × Str × Unit) :=
  if (decide (c = (0 : Int))) then
  ((expr_Parse.g a b).bind fun y1 =>
  some (a, y1.2.1, y1.2.2.1, d, e, i, j, k, l, y1.1, p, ()))
  else (some (a, b, c, d, e, i, j, k, l, o, p, ()))
def f (n : Nat) (a : Str) (b : List Tk) (c : Int) (d : Int) (e : Int) (i : Int) (j : Int) (k : Int) (l : Int) (o : Bool) (p : List It) (q : Str) : Option ((List Tk) × Int × Int × Int × Int × Int × Int × Int × Bool × (List It) × Str × Unit) :=
  if (!(decide (a = ([] : Str)))) then
  ((stmt_parser_take.g (3 : Int) b c d).bind fun y1 =>
  (stmt_parser_check.g (decide (y1.1 = a)) y1.2.1 y1.2.2.1 y1.2.2.2.1).bind fun y2 =>
  stmt_number_1.j2 n y2.1 y2.2.1 y2.2.2.1 e i j k l o p q)
  else (stmt_number_1.j2 n b c d e i j k l o p q)
def g (a : Str) (b : List Tk) (c : Int) (d : Int) (e : Int) (i : Int) (j : Int) (k : Int) (l : Int) (o : Bool) (p : List It) (q : Str) : Option ((List Tk) × Int × Int × Int × Int × Int × Int × Int × Bool × (List It) × Str × Unit) := f (1000 + a.length + b.length + c.toNat + d.toNat + e.toNat + i.toNat + j.toNat + k.toNat + l.toNat + p.length + q.length) a b c d e i j k l o p q
end stmt_number_1
namespace le_is
def j4 (n : Nat) (a : Int) (b : Bool) : Option (Bool × Unit) :=
  if (!b) then
  (if (decide (a = (95 : Int))) = false then
  (if (decide ((48 : Int) ≤ a)) then (some ((decide (a ≤ (57 : Int))), ()))
  else (some (false, ())))
  else (some (true, ())))
  else (some (false, ()))
def f (n : Nat) (a : Int) (b : Bool) : Option (Bool × Unit) :=
  if (decide ((65 : Int) ≤ a)) then
  (if (decide (a ≤ (90 : Int))) then
  (if (decide (a ≤ (90 : Int))) then (some (true, ()))
  else (le_is.j4 n a b))
  else
  (if (decide ((97 : Int) ≤ a)) then
  (if (decide (a ≤ (122 : Int))) then (some (true, ()))
  else (le_is.j4 n a b))
  else (le_is.j4 n a b)))
  else
  (if (decide ((97 : Int) ≤ a)) then
  (if (decide (a ≤ (122 : Int))) then (some (true, ()))
  else (le_is.j4 n a b))
  else (le_is.j4 n a b))
def g (a : Int) (b : Bool) : Option (Bool × Unit) := f (1000 + a.toNat) a b
end le_is
namespace le_Name
def l4 (n : Nat) : Nat → Str → Int → Int → Option (Bool × Unit)
 | 0, _, _, _ => none
 | m + 1, a, b, c =>
  if (decide (c < b)) then
  (if 0 ≤ c ∧ c < (a.length : Int) then
  ((le_is.g (bt a c) (decide (c = (0 : Int)))).bind fun y1 =>
  if (!y1.1) then (some (false, ()))
  else ((le_Name.l4 n m) a b (IntKind.i64.wrap (c + (1 : Int))))) else none)
  else
  (if 0 ≤ (0 : Int) ∧ (0 : Int) < (a.length : Int) then
  (if (decide ((bt a (0 : Int)) = (82 : Int))) then
  (if (decide ((a.length : Int) = (2 : Int))) = false then
  (if (decide ((a.length : Int) = (3 : Int))) then
  (if 0 ≤ (1 : Int) ∧ (1 : Int) ≤ (a.length : Int) then
  ((L.trimO ((a.take (((a.length : Int)).toNat)).drop (((1 : Int)).toNat)) ([48, 49, 50, 51, 52, 53, 54, 55, 56, 57] : Str)).bind fun y2 =>
  some ((!(decide (y2.1 = ([] : Str)))), ())) else none)
  else (some (true, ())))
  else
  (if 0 ≤ (1 : Int) ∧ (1 : Int) ≤ (a.length : Int) then
  ((L.trimO ((a.take (((a.length : Int)).toNat)).drop (((1 : Int)).toNat)) ([48, 49, 50, 51, 52, 53, 54, 55, 56, 57] : Str)).bind fun y3 =>
  some ((!(decide (y3.1 = ([] : Str)))), ())) else none))
  else (some (true, ()))) else none)
def f (n : Nat) (a : Str) : Option (Bool × Unit) :=
  if (decide ((a.length : Int) = (0 : Int))) = false then
  (if (decide ((12 : Int) < (a.length : Int))) then (some (false, ()))
  else (le_Name.l4 n n a (a.length : Int) (0 : Int)))
  else (some (false, ()))
def g (a : Str) : Option (Bool × Unit) := f (1000 + a.length) a
end le_Name
namespace stmt_operands_4
def f (n : Nat) (a : List Tk) (b : Int) (c : Int) (d : Int) (e : Int) (i : Int) (j : Int) (k : Int) (l : Bool) (o : List It) (p : Str) : Option ((List Tk) × Int × Int × Int × Int × Int × Int × Int × Bool × (List It) × Str × Unit) :=
  (stmt_parser_take.g (1 : Int) a b c).bind fun y1 =>
  (le_Name.g y1.1).bind fun y2 =>
  (stmt_parser_check.g y2.1 y1.2.1 y1.2.2.1 y1.2.2.2.1).bind fun y3 =>
  some (y3.1, y3.2.1, y3.2.2.1, d, e, i, j, k, l, o, y1.1, ())
def g (a : List Tk) (b : Int) (c : Int) (d : Int) (e : Int) (i : Int) (j : Int) (k : Int) (l : Bool) (o : List It) (p : Str) : Option ((List Tk) × Int × Int × Int × Int × Int × Int × Int × Bool × (List It) × Str × Unit) := f (1000 + a.length + b.toNat + c.toNat + d.toNat + e.toNat + i.toNat + j.toNat + k.toNat + o.length + p.length) a b c d e i j k l o p
end stmt_operands_4
namespace stmt_Parse
def j20 (n : Nat) (rl13 : (List Tk) → Str → Int → Int → Int → Int → Int → Int → Int → Int → Int → Bool → (List It) → Str → (List Tk) → Int → Int → Option (Str × Int × Int × Int × Int × Int × Bool × (List It) × Str × Int × Unit)) (a : List Tk) (b : Str) (c : Int) (d : Int) (e : Int) (i : Int) (j : Int) (k : Int) (l : Int) (o : Int) (p : Int) (q : Bool) (r : List It) (s : Str) (t : List Tk) (u : Int) (v : Int) : Option (Str × Int × Int × Int × Int × Int × Bool × (List It) × Str × Int × Unit) :=
  rl13 a b c d e (IntKind.i64.wrap (i + (1 : Int))) j k l o p q r s t u v
def j19 (n : Nat) (rl13 : (List Tk) → Str → Int → Int → Int → Int → Int → Int → Int → Int → Int → Bool → (List It) → Str → (List Tk) → Int → Int → Option (Str × Int × Int × Int × Int × Int × Bool × (List It) × Str × Int × Unit)) (a : List Tk) (b : Str) (c : Int) (d : Int) (e : Int) (i : Int) (j : Int) (k : Int) (l : Int) (o : Int) (p : Int) (q : Int) (r : Bool) (s : List It) (t : Str) (u : List Tk) (v : Int) (w : Int) : Option (Str × Int × Int × Int × Int × Int × Bool × (List It) × Str × Int × Unit) :=
  if 0 ≤ e ∧ e < ((L.opsR k c).length : Int) then
  (if ((L.opsR k c).getD (e).toNat (((0, []) : Fn), (((0, []) : Fn), ()))).1 = K.rdA then ((stmt_register_1.g K.atA u v w k l o p q r s t).bind fun y2 =>
  stmt_Parse.j20 n rl13 a b c d i j y2.2.2.2.1 y2.2.2.2.2.1 y2.2.2.2.2.2.1 y2.2.2.2.2.2.2.1 y2.2.2.2.2.2.2.2.1 y2.2.2.2.2.2.2.2.2.1 y2.2.2.2.2.2.2.2.2.2.1 y2.2.2.2.2.2.2.2.2.2.2.1 y2.1 y2.2.1 y2.2.2.1)
  else if ((L.opsR k c).getD (e).toNat (((0, []) : Fn), (((0, []) : Fn), ()))).1 = K.rdB then ((stmt_register_1.g K.atB u v w k l o p q r s t).bind fun y3 =>
  stmt_Parse.j20 n rl13 a b c d i j y3.2.2.2.1 y3.2.2.2.2.1 y3.2.2.2.2.2.1 y3.2.2.2.2.2.2.1 y3.2.2.2.2.2.2.2.1 y3.2.2.2.2.2.2.2.2.1 y3.2.2.2.2.2.2.2.2.2.1 y3.2.2.2.2.2.2.2.2.2.2.1 y3.1 y3.2.1 y3.2.2.1)
  else if ((L.opsR k c).getD (e).toNat (((0, []) : Fn), (((0, []) : Fn), ()))).1 = K.rdC then ((stmt_register_1.g K.atC u v w k l o p q r s t).bind fun y4 =>
  stmt_Parse.j20 n rl13 a b c d i j y4.2.2.2.1 y4.2.2.2.2.1 y4.2.2.2.2.2.1 y4.2.2.2.2.2.2.1 y4.2.2.2.2.2.2.2.1 y4.2.2.2.2.2.2.2.2.1 y4.2.2.2.2.2.2.2.2.2.1 y4.2.2.2.2.2.2.2.2.2.2.1 y4.1 y4.2.1 y4.2.2.1)
  else if ((L.opsR k c).getD (e).toNat (((0, []) : Fn), (((0, []) : Fn), ()))).1 = K.rdE then ((stmt_number_1.g ([] : Str) u v w k l o p q r s t).bind fun y5 =>
  stmt_Parse.j20 n rl13 a b c d i j y5.2.2.2.1 y5.2.2.2.2.1 y5.2.2.2.2.2.1 y5.2.2.2.2.2.2.1 y5.2.2.2.2.2.2.2.1 y5.2.2.2.2.2.2.2.2.1 y5.2.2.2.2.2.2.2.2.2.1 y5.2.2.2.2.2.2.2.2.2.2.1 y5.1 y5.2.1 y5.2.2.1)
  else if ((L.opsR k c).getD (e).toNat (((0, []) : Fn), (((0, []) : Fn), ()))).1 = K.rdQ then ((stmt_number_1.g ([61] : Str) u v w k l o p q r s t).bind fun y6 =>
  stmt_Parse.j20 n rl13 a b c d i j y6.2.2.2.1 y6.2.2.2.2.1 y6.2.2.2.2.2.1 y6.2.2.2.2.2.2.1 y6.2.2.2.2.2.2.2.1 y6.2.2.2.2.2.2.2.2.1 y6.2.2.2.2.2.2.2.2.2.1 y6.2.2.2.2.2.2.2.2.2.2.1 y6.1 y6.2.1 y6.2.2.1)
  else if ((L.opsR k c).getD (e).toNat (((0, []) : Fn), (((0, []) : Fn), ()))).1 = K.rdN then ((stmt_operands_4.g u v w k l o p q r s t).bind fun y7 =>
  stmt_Parse.j20 n rl13 a b c d i j y7.2.2.2.1 y7.2.2.2.2.1 y7.2.2.2.2.2.1 y7.2.2.2.2.2.2.1 y7.2.2.2.2.2.2.2.1 y7.2.2.2.2.2.2.2.2.1 y7.2.2.2.2.2.2.2.2.2.1 y7.2.2.2.2.2.2.2.2.2.2.1 y7.1 y7.2.1 y7.2.2.1)
  else none) else none
def j17 (n : Nat) (rl13 : (List Tk) → Str → Int → Int → Int → Int → Int → Int → Int → Int → Int → Bool → (List It) → Str → (List Tk) → Int → Int → Option (Str × Int × Int × Int × Int × Int × Bool × (List It) × Str × Int × Unit)) (a : List Tk) (b : Str) (c : Int) (d : Int) (e : Int) (i : Int) (j : Int) (k : Int) (l : Int) (o : Int) (p : Int) (q : Int) (r : Bool) (s : List It) (t : Str) (u : List Tk) (v : Int) (w : Int) : Option (Str × Int × Int × Int × Int × Int × Bool × (List It) × Str × Int × Unit) :=
  if (decide (e = (IntKind.i64.wrap (d - (1 : Int))))) then
  ((stmt_parser_choose.g u v w k l o p q r s t).bind fun y1 =>
  stmt_Parse.j19 n rl13 a b c d e i j y1.2.2.2.1 y1.2.2.2.2.1 y1.2.2.2.2.2.1 y1.2.2.2.2.2.2.1 y1.2.2.2.2.2.2.2.1 y1.2.2.2.2.2.2.2.2.1 y1.2.2.2.2.2.2.2.2.2.1 y1.2.2.2.2.2.2.2.2.2.2.1 y1.1 y1.2.1 y1.2.2.1)
  else (stmt_Parse.j19 n rl13 a b c d e i j k l o p q r s t u v w)
def j22 (n : Nat) (a : Str) (b : Int) (c : Int) (d : Int) (e : Int) (i : Int) (j : Bool) (k : List It) (l : Str) (o : List Tk) (p : Int) (q : Int) : Option (Str × Int × Int × Int × Int × Int × Bool × (List It) × Str × Int × Unit) :=
  if (decide (q ≠ (0 : Int))) then
  (some (([] : Str), 0, 0, 0, 0, 0, false, [], ([] : Str), q, ()))
  else (some (a, b, c, d, e, i, j, k, l, (0 : Int), ()))
def l13 (n : Nat) : Nat → (List Tk) → Str → Int → Int → Int → Int → Int → Int → Int → Int → Int → Bool → (List It) → Str → (List Tk) → Int → Int → Option (Str × Int × Int × Int × Int × Int × Bool × (List It) × Str × Int × Unit)
 | 0, _, _, _, _, _, _, _, _, _, _, _, _, _, _, _, _, _ => none
 | m + 1, a, b, c, d, e, i, j, k, l, o, p, q, r, s, t, u, v =>
  if (decide (i < e)) then
  (if (decide ((0 : Int) < i)) then
  ((stmt_parser_take.g (3 : Int) t u v).bind fun y1 =>
  (stmt_parser_check.g (decide (y1.1 = ([44] : Str))) y1.2.1 y1.2.2.1 y1.2.2.2.1).bind fun y2 =>
  stmt_Parse.j17 n (stmt_Parse.l13 n m) a b c d i e i j k l o p q r s y2.1 y2.2.1 y2.2.2.1)
  else
  (stmt_Parse.j17 n (stmt_Parse.l13 n m) a b c d i e i j k l o p q r s t u v))
  else
  ((stmt_parser_check.g (decide ((a.length : Int) ≤ u)) t u v).bind fun y3 =>
  stmt_Parse.j22 n b j k l o p q r s y3.1 y3.2.1 y3.2.2.1)
def j9 (n : Nat) (a : List Tk) (b : Str) (c : Int) (d : Int) (e : Bool) (i : Int) (j : Int) (k : Int) (l : Int) (o : Int) (p : Bool) (q : List It) (r : Str) (s : List Tk) (t : Int) (u : Int) : Option (Str × Int × Int × Int × Int × Int × Bool × (List It) × Str × Int × Unit) :=
  stmt_Parse.l13 n n a b d ((L.opsR c d).length : Int) ((L.opsR c d).length : Int) (0 : Int) c d 0 0 0 e ([]) ([] : Str) s (IntKind.i64.wrap (t + (1 : Int))) u
def j5 (n : Nat) (a : List Tk) (b : Str) (c : Int) (d : Int) (e : Int) (i : Int) (j : Int) (k : Bool) (l : List It) (o : Str) (p : List Tk) (q : Int) (r : Int) : Option (Str × Int × Int × Int × Int × Int × Bool × (List It) × Str × Int × Unit) :=
  if (decide (r = (0 : Int))) then
  (if (decide (q < (a.length : Int))) then
  (if 0 ≤ q ∧ q < (a.length : Int) then
  ((L.nameOfO ((((a.getD (q).toNat zT).2).2).1)).bind fun y1 =>
  if y1.2.2.2.1 then
  ((stmt_dotted.g y1.1).bind fun y2 =>
  if ((decide ((a.getD (q).toNat zT).1 = (4 : Int))) == y2.1) then
  (if (decide ((a.getD (q).toNat zT).1 = (4 : Int))) = false then
  ((stmt_parser_check.g (decide ((a.getD (q).toNat zT).1 = (1 : Int))) p q r).bind fun y3 =>
  stmt_Parse.j9 n a b y1.1 y1.2.1 y1.2.2.1 c d e i j k l o y3.1 y3.2.1 y3.2.2.1)
  else
  ((stmt_parser_check.g true p q r).bind fun y4 =>
  stmt_Parse.j9 n a b y1.1 y1.2.1 y1.2.2.1 c d e i j k l o y4.1 y4.2.1 y4.2.2.1))
  else
  ((stmt_parser_check.g false p q r).bind fun y5 =>
  stmt_Parse.j9 n a b y1.1 y1.2.1 y1.2.2.1 c d e i j k l o y5.1 y5.2.1 y5.2.2.1))
  else
  ((stmt_parser_check.g false p q r).bind fun y6 =>
  stmt_Parse.j9 n a b y1.1 y1.2.1 y1.2.2.1 c d e i j k l o y6.1 y6.2.1 y6.2.2.1)) else none)
  else (stmt_Parse.j22 n b c d e i j k l o p q r))
  else (stmt_Parse.j22 n b c d e i j k l o p q r)
def f (n : Nat) (a : List Tk) : Option (Str × Int × Int × Int × Int × Int × Bool × (List It) × Str × Int × Unit) :=
  if (decide ((1 : Int) < (a.length : Int))) then
  (if 0 ≤ (0 : Int) ∧ (0 : Int) < (a.length : Int) then
  (if (decide ((a.getD ((0 : Int)).toNat zT).1 = (1 : Int))) then
  (if 0 ≤ (1 : Int) ∧ (1 : Int) < (a.length : Int) then
  (if (decide ((a.getD ((1 : Int)).toNat zT).1 = (3 : Int))) then
  (if 0 ≤ (1 : Int) ∧ (1 : Int) < (a.length : Int) then
  (if (decide ((((a.getD ((1 : Int)).toNat zT).2).2).1 = ([58] : Str))) then
  (if 0 ≤ (0 : Int) ∧ (0 : Int) < (a.length : Int) then
  ((name_Label.g ((((a.getD ((0 : Int)).toNat zT).2).2).1)).bind fun y1 =>
  (stmt_parser_check.g y1.1 a (2 : Int) 0).bind fun y2 =>
  stmt_Parse.j5 n a ((((a.getD ((0 : Int)).toNat zT).2).2).1) 0 0 0 0 0 false ([]) ([] : Str) y2.1 y2.2.1 y2.2.2.1) else none)
  else
  (stmt_Parse.j5 n a ([] : Str) 0 0 0 0 0 false ([]) ([] : Str) a 0 0)) else none)
  else
  (stmt_Parse.j5 n a ([] : Str) 0 0 0 0 0 false ([]) ([] : Str) a 0 0)) else none)
  else
  (stmt_Parse.j5 n a ([] : Str) 0 0 0 0 0 false ([]) ([] : Str) a 0 0)) else none)
  else
  (stmt_Parse.j5 n a ([] : Str) 0 0 0 0 0 false ([]) ([] : Str) a 0 0)
def g (a : List Tk) : Option (Str × Int × Int × Int × Int × Int × Bool × (List It) × Str × Int × Unit) := f (1000 + a.length) a
end stmt_Parse
namespace stmt_numbered
def f (n : Nat) (a : Int) : Option (Bool × Unit) :=
  if (decide (a = (2 : Int))) then
  (if (decide (a = (2 : Int))) then (some (true, ()))
  else (some (false, ())))
  else
  (if (decide (a = (5 : Int))) then
  (if (decide (a = (5 : Int))) then (some (true, ()))
  else (some (false, ())))
  else
  (if (decide (a = (7 : Int))) then
  (if (decide (a = (7 : Int))) then (some (true, ()))
  else (some (false, ())))
  else
  (if (decide (a = (8 : Int))) then
  (if (decide (a = (8 : Int))) then (some (true, ()))
  else (some (false, ())))
  else
  (if (decide (a = (9 : Int))) then (some (true, ()))
  else (some (false, ()))))))
def g (a : Int) : Option (Bool × Unit) := f (1000 + a.toNat) a
end stmt_numbered
namespace isa_between
def f (n : Nat) (a : Int) (b : Int) (c : Int) : Option (Bool × Unit) :=
  if (decide (b ≤ a)) then (some ((decide (a ≤ c)), ()))
  else (some (false, ()))
def g (a : Int) (b : Int) (c : Int) : Option (Bool × Unit) := f (1000 + a.toNat + b.toNat + c.toNat) a b c
end isa_between
namespace isa_bit
def f (n : Nat) (a : Bool) : Option (Int × Unit) :=
  if a then (some ((1 : Int), ()))
  else (some ((0 : Int), ()))
def g (a : Bool) : Option (Int × Unit) := f (1000) a
end isa_bit
namespace isa_head
def f (n : Nat) (a : Int) (b : Bool) (c : Bool) : Option (Int × Int × Int × Unit) :=
  (isa_bit.g b).bind fun y1 =>
  (isa_bit.g c).bind fun y2 =>
  some ((28 : Int), (4 : Int), (bitsI .or .i64 (bitsI .or .i64 (IntKind.i64.wrap (a * 2 ^ (min (2 : Int).toNat IntKind.i64.bits))) (IntKind.i64.wrap ((IntKind.i64.wrap y1.1) * 2 ^ (min (1 : Int).toNat IntKind.i64.bits)))) (IntKind.i64.wrap y2.1)), ())
def g (a : Int) (b : Bool) (c : Bool) : Option (Int × Int × Int × Unit) := f (1000 + a.toNat) a b c
end isa_head
namespace field_Set_1
def f (n : Nat) (a : Int) (b : Int) (c : Int) (d : Int) : Option (Int × Int × Unit) :=
  if a < 0 then none else
  (if b < 0 then none else
  (if a < 0 then none else
  (some ((bitsI .or .u32 (bitsI .andNot .u32 c (IntKind.u32.wrap ((1 : Int) * 2 ^ (min a.toNat IntKind.u32.bits)))) (IntKind.u32.wrap ((bitsI .and .u32 ((d).fdiv (2 ^ (min b.toNat IntKind.u32.bits))) (1 : Int)) * 2 ^ (min a.toNat IntKind.u32.bits)))), d, ()))))
def g (a : Int) (b : Int) (c : Int) (d : Int) : Option (Int × Int × Unit) := f (1000 + a.toNat + b.toNat + c.toNat + d.toNat) a b c d
end field_Set_1
namespace field_each_c209
def l2 (n : Nat) : Nat → Int → Int → Int → Int → Int → Option (Int × Int × Unit)
 | 0, _, _, _, _, _ => none
 | m + 1, a, b, c, d, e =>
  if (decide (c < (32 : Int))) then
  (if (decide ((IntKind.i64.wrap (c - a)) < b)) then
  ((field_Set_1.g c (IntKind.i64.wrap (c - a)) d e).bind fun y1 =>
  (field_each_c209.l2 n m) a b (IntKind.i64.wrap (c + (1 : Int))) y1.1 y1.2.1)
  else (some (d, e, ())))
  else (some (d, e, ()))
def f (n : Nat) (a : Int) (b : Int) (c : Int) (d : Int) : Option (Int × Int × Unit) :=
  if (decide (b < (1 : Int))) = false then
  (if (decide ((32 : Int) ≤ a)) = false then
  (if (decide (a ≤ (IntKind.i64.wrap (0 - b)))) then (some (c, d, ()))
  else (field_each_c209.l2 n n a b (mx a (0 : Int)) c d))
  else (some (c, d, ())))
  else (some (c, d, ()))
def g (a : Int) (b : Int) (c : Int) (d : Int) : Option (Int × Int × Unit) := f (1000 + a.toNat + b.toNat + c.toNat + d.toNat) a b c d
end field_each_c209
namespace field_Set
def f (n : Nat) (a : Int) (b : Int) (c : Int) (d : Int) : Option (Int × Unit) :=
  (field_each_c209.g b c a d).bind fun y1 =>
  some (y1.1, ())
def g (a : Int) (b : Int) (c : Int) (d : Int) : Option (Int × Unit) := f (1000 + a.toNat + b.toNat + c.toNat + d.toNat) a b c d
end field_Set
namespace isa_lay
def l3 (n : Nat) : Nat → Int → (List (Int × Int × Int × Unit)) → Int → Int → Option (Int × Unit)
 | 0, _, _, _, _ => none
 | m + 1, a, b, c, d =>
  if (decide (d < c)) then
  (if 0 ≤ d ∧ d < (b.length : Int) then
  (if 0 ≤ (0 : Int) ∧ (0 : Int) < (3 : Int) then
  (if 0 ≤ (1 : Int) ∧ (1 : Int) < (3 : Int) then
  (if 0 ≤ (2 : Int) ∧ (2 : Int) < (3 : Int) then
  ((field_Set.g a ([(b.getD (d).toNat ((0 : Int), ((0 : Int), ((0 : Int), ())))).1, ((b.getD (d).toNat ((0 : Int), ((0 : Int), ((0 : Int), ())))).2).1, (((b.getD (d).toNat ((0 : Int), ((0 : Int), ((0 : Int), ())))).2).2).1].getD ((0 : Int)).toNat 0) ([(b.getD (d).toNat ((0 : Int), ((0 : Int), ((0 : Int), ())))).1, ((b.getD (d).toNat ((0 : Int), ((0 : Int), ((0 : Int), ())))).2).1, (((b.getD (d).toNat ((0 : Int), ((0 : Int), ((0 : Int), ())))).2).2).1].getD ((1 : Int)).toNat 0) (IntKind.u32.wrap ([(b.getD (d).toNat ((0 : Int), ((0 : Int), ((0 : Int), ())))).1, ((b.getD (d).toNat ((0 : Int), ((0 : Int), ((0 : Int), ())))).2).1, (((b.getD (d).toNat ((0 : Int), ((0 : Int), ((0 : Int), ())))).2).2).1].getD ((2 : Int)).toNat 0))).bind fun y1 =>
  (isa_lay.l3 n m) y1.1 b c (IntKind.i64.wrap (d + (1 : Int)))) else none) else none) else none) else none)
  else (some (a, ()))
def f (n : Nat) (a : List (Int × Int × Int × Unit)) : Option (Int × Unit) :=
  isa_lay.l3 n n (0 : Int) a (a.length : Int) (0 : Int)
def g (a : List (Int × Int × Int × Unit)) : Option (Int × Unit) := f (1000 + a.length) a
end isa_lay
namespace isa_word
def j14 (n : Nat) (a : Int) (b : Int) (c : Int) (d : Int) (e : Int) (i : Int) (j : Bool) (k : Int) (l : Int) (o : Int) : Option (Int × Unit) :=
  (isa_head.g (3 : Int) true j).bind fun y1 =>
  (isa_lay.g ([(y1.1, y1.2.1, y1.2.2.1, ()), (k, l, o, ()), ((0 : Int), (24 : Int), i, ())] : List (Int × Int × Int × Unit))).bind fun y2 =>
  some (y2.1, ())
def f (n : Nat) (a : Int) (b : Int) (c : Int) (d : Int) (e : Int) (i : Int) (j : Bool) : Option (Int × Unit) :=
  if (decide (a = (1 : Int))) then
  ((isa_head.g (0 : Int) j false).bind fun y1 =>
  (isa_lay.g ([(y1.1, y1.2.1, y1.2.2.1, ()), ((24 : Int), (4 : Int), c, ()), ((20 : Int), (4 : Int), d, ()), ((16 : Int), (4 : Int), b, ()), ((0 : Int), (4 : Int), e, ())] : List (Int × Int × Int × Unit))).bind fun y2 =>
  some (y2.1, ()))
  else
  (if (decide (a = (3 : Int))) then
  (if (decide (a = (3 : Int))) then
  ((isa_head.g (0 : Int) true (decide (a = (4 : Int)))).bind fun y3 =>
  (isa_lay.g ([(y3.1, y3.2.1, y3.2.2.1, ()), ((24 : Int), (4 : Int), c, ())] : List (Int × Int × Int × Unit))).bind fun y4 =>
  some (y4.1, ()))
  else
  (if (decide (a = (2 : Int))) then
  ((isa_head.g (1 : Int) j (decide (i < (0 : Int)))).bind fun y5 =>
  (isa_lay.g ([(y5.1, y5.2.1, y5.2.2.1, ()), ((24 : Int), (4 : Int), c, ()), ((20 : Int), (4 : Int), d, ()), ((16 : Int), (4 : Int), b, ()), ((0 : Int), (16 : Int), i, ())] : List (Int × Int × Int × Unit))).bind fun y6 =>
  some (y6.1, ()))
  else
  (if (decide (a = (5 : Int))) then
  ((isa_head.g (2 : Int) (decide ((2 : Int) ≤ b)) (decide ((Int.tmod b (2 : Int)) = (1 : Int)))).bind fun y7 =>
  (isa_lay.g ([(y7.1, y7.2.1, y7.2.2.1, ()), ((24 : Int), (4 : Int), c, ()), ((20 : Int), (4 : Int), d, ()), ((0 : Int), (20 : Int), i, ())] : List (Int × Int × Int × Unit))).bind fun y8 =>
  some (y8.1, ()))
  else
  (if (decide (a = (6 : Int))) then
  ((isa_head.g (3 : Int) false j).bind fun y9 =>
  (isa_lay.g ([(y9.1, y9.2.1, y9.2.2.1, ()), ((24 : Int), (4 : Int), b, ()), ((0 : Int), (4 : Int), e, ())] : List (Int × Int × Int × Unit))).bind fun y10 =>
  some (y10.1, ()))
  else (isa_word.j14 n a b c d e i j (24 : Int) (4 : Int) b)))))
  else
  (if (decide (a = (4 : Int))) then
  ((isa_head.g (0 : Int) true (decide (a = (4 : Int)))).bind fun y11 =>
  (isa_lay.g ([(y11.1, y11.2.1, y11.2.2.1, ()), ((24 : Int), (4 : Int), c, ())] : List (Int × Int × Int × Unit))).bind fun y12 =>
  some (y12.1, ()))
  else
  (if (decide (a = (2 : Int))) then
  ((isa_head.g (1 : Int) j (decide (i < (0 : Int)))).bind fun y13 =>
  (isa_lay.g ([(y13.1, y13.2.1, y13.2.2.1, ()), ((24 : Int), (4 : Int), c, ()), ((20 : Int), (4 : Int), d, ()), ((16 : Int), (4 : Int), b, ()), ((0 : Int), (16 : Int), i, ())] : List (Int × Int × Int × Unit))).bind fun y14 =>
  some (y14.1, ()))
  else
  (if (decide (a = (5 : Int))) then
  ((isa_head.g (2 : Int) (decide ((2 : Int) ≤ b)) (decide ((Int.tmod b (2 : Int)) = (1 : Int)))).bind fun y15 =>
  (isa_lay.g ([(y15.1, y15.2.1, y15.2.2.1, ()), ((24 : Int), (4 : Int), c, ()), ((20 : Int), (4 : Int), d, ()), ((0 : Int), (20 : Int), i, ())] : List (Int × Int × Int × Unit))).bind fun y16 =>
  some (y16.1, ()))
  else
  (if (decide (a = (6 : Int))) then
  ((isa_head.g (3 : Int) false j).bind fun y17 =>
  (isa_lay.g ([(y17.1, y17.2.1, y17.2.2.1, ()), ((24 : Int), (4 : Int), b, ()), ((0 : Int), (4 : Int), e, ())] : List (Int × Int × Int × Unit))).bind fun y18 =>
  some (y18.1, ()))
  else (isa_word.j14 n a b c d e i j (24 : Int) (4 : Int) b))))))
def g (a : Int) (b : Int) (c : Int) (d : Int) (e : Int) (i : Int) (j : Bool) : Option (Int × Unit) := f (1000 + a.toNat + b.toNat + c.toNat + d.toNat + e.toNat + i.toNat) a b c d e i j
end isa_word
namespace field_Get_1
def f (n : Nat) (a : Int) (b : Int) (c : Int) (d : Int) : Option (Int × Int × Unit) :=
  if a < 0 then none else
  (if b < 0 then none else
  (some ((bitsI .or .u32 c (IntKind.u32.wrap ((bitsI .and .u32 ((d).fdiv (2 ^ (min a.toNat IntKind.u32.bits))) (1 : Int)) * 2 ^ (min b.toNat IntKind.u32.bits)))), d, ())))
def g (a : Int) (b : Int) (c : Int) (d : Int) : Option (Int × Int × Unit) := f (1000 + a.toNat + b.toNat + c.toNat + d.toNat) a b c d
end field_Get_1
namespace field_each_c173
def l2 (n : Nat) : Nat → Int → Int → Int → Int → Int → Option (Int × Int × Unit)
 | 0, _, _, _, _, _ => none
 | m + 1, a, b, c, d, e =>
  if (decide (c < (32 : Int))) then
  (if (decide ((IntKind.i64.wrap (c - a)) < b)) then
  ((field_Get_1.g c (IntKind.i64.wrap (c - a)) d e).bind fun y1 =>
  (field_each_c173.l2 n m) a b (IntKind.i64.wrap (c + (1 : Int))) y1.1 y1.2.1)
  else (some (d, e, ())))
  else (some (d, e, ()))
def f (n : Nat) (a : Int) (b : Int) (c : Int) (d : Int) : Option (Int × Int × Unit) :=
  if (decide (b < (1 : Int))) = false then
  (if (decide ((32 : Int) ≤ a)) = false then
  (if (decide (a ≤ (IntKind.i64.wrap (0 - b)))) then (some (c, d, ()))
  else (field_each_c173.l2 n n a b (mx a (0 : Int)) c d))
  else (some (c, d, ())))
  else (some (c, d, ()))
def g (a : Int) (b : Int) (c : Int) (d : Int) : Option (Int × Int × Unit) := f (1000 + a.toNat + b.toNat + c.toNat + d.toNat) a b c d
end field_each_c173
namespace field_Get
def f (n : Nat) (a : Int) (b : Int) (c : Int) : Option (Int × Unit) :=
  (field_each_c173.g b c 0 a).bind fun y1 =>
  some (y1.1, ())
def g (a : Int) (b : Int) (c : Int) : Option (Int × Unit) := f (1000 + a.toNat + b.toNat + c.toNat) a b c
end field_Get
namespace isa_read_1
def f (n : Nat) (a : Int) (b : Int) (c : Int) : Option (Int × Unit) :=
  (field_Get.g c a b).bind fun y1 =>
  some ((IntKind.i64.wrap y1.1), ())
def g (a : Int) (b : Int) (c : Int) : Option (Int × Unit) := f (1000 + a.toNat + b.toNat + c.toNat) a b c
end isa_read_1
namespace field_known
def f (n : Nat) (a : Int) : Option (Int × Unit) :=
  some ((mn (mx a (1 : Int)) (32 : Int)), ())
def g (a : Int) : Option (Int × Unit) := f (1000 + a.toNat) a
end field_known
namespace field_Signed
def f (n : Nat) (a : Int) (b : Int) : Option (Int × Unit) :=
  (field_known.g b).bind fun y1 =>
  if (IntKind.i64.wrap ((32 : Int) - y1.1)) < 0 then none else
  (if (IntKind.i64.wrap ((32 : Int) - y1.1)) < 0 then none else
  (some ((IntKind.i64.wrap (((IntKind.i32.wrap (IntKind.u32.wrap (a * 2 ^ (min (IntKind.i64.wrap ((32 : Int) - y1.1)).toNat IntKind.u32.bits))))).fdiv (2 ^ (min (IntKind.i64.wrap ((32 : Int) - y1.1)).toNat IntKind.i32.bits)))), ())))
def g (a : Int) (b : Int) : Option (Int × Unit) := f (1000 + a.toNat + b.toNat) a b
end field_Signed
namespace isa_read
def j16 (n : Nat) (a : Int) (b : Int) (c : Int) (d : Int) (e : Int) (i : Int) (j : Bool) (k : Int) (l : Int) (o : Int) (p : Int) (q : Int) (r : Int) (s : Bool) : Option (Int × Int × Int × Int × Int × Int × Bool × Unit) :=
  some (k, l, o, p, q, r, s, ())
def f (n : Nat) (a : Int) : Option (Int × Int × Int × Int × Int × Int × Bool × Unit) :=
  (isa_read_1.g (29 : Int) (1 : Int) a).bind fun y1 =>
  (isa_read_1.g (28 : Int) (1 : Int) a).bind fun y2 =>
  (isa_read_1.g (24 : Int) (4 : Int) a).bind fun y3 =>
  (isa_read_1.g (20 : Int) (4 : Int) a).bind fun y4 =>
  (isa_read_1.g (16 : Int) (4 : Int) a).bind fun y5 =>
  (isa_read_1.g (30 : Int) (2 : Int) a).bind fun y6 =>
  if (decide (y6.1 = (0 : Int))) then
  ((isa_read_1.g (0 : Int) (4 : Int) a).bind fun y7 =>
  if (decide (y1.1 = (1 : Int))) then
  (if (decide (y5.1 = (0 : Int))) then
  ((isa_read_1.g (28 : Int) (1 : Int) a).bind fun y8 =>
  isa_read.j16 n 0 0 0 0 0 0 false (IntKind.i64.wrap ((3 : Int) + y8.1)) 0 y3.1 0 0 0 false)
  else
  (isa_read.j16 n 0 0 0 0 0 0 false (1 : Int) y5.1 y3.1 y4.1 y7.1 0 (decide (y1.1 = (1 : Int)))))
  else
  (isa_read.j16 n 0 0 0 0 0 0 false (1 : Int) y5.1 y3.1 y4.1 y7.1 0 (decide (y1.1 = (1 : Int)))))
  else
  (if (decide (y6.1 = (1 : Int))) then
  ((isa_read_1.g (0 : Int) (16 : Int) a).bind fun y9 =>
  (isa_read_1.g (28 : Int) (1 : Int) a).bind fun y10 =>
  isa_read.j16 n 0 0 0 0 0 0 false (2 : Int) y5.1 y3.1 y4.1 0 (IntKind.i64.wrap (y9.1 - (IntKind.i64.wrap (y10.1 * 2 ^ (min (16 : Int).toNat IntKind.i64.bits))))) (decide (y1.1 = (1 : Int))))
  else
  (if (decide (y6.1 = (2 : Int))) then
  ((isa_read_1.g (29 : Int) (1 : Int) a).bind fun y11 =>
  (isa_read_1.g (28 : Int) (1 : Int) a).bind fun y12 =>
  (field_Signed.g a (20 : Int)).bind fun y13 =>
  isa_read.j16 n 0 0 0 0 0 0 false (5 : Int) (IntKind.i64.wrap ((IntKind.i64.wrap (y11.1 * (2 : Int))) + y12.1)) y3.1 y4.1 0 y13.1 false)
  else
  ((isa_read_1.g (0 : Int) (4 : Int) a).bind fun y14 =>
  if (decide (y1.1 = (1 : Int))) then
  ((field_Signed.g a (24 : Int)).bind fun y15 =>
  isa_read.j16 n 0 0 0 0 0 0 false (7 : Int) y3.1 0 0 (0 : Int) y15.1 (decide (y2.1 = (1 : Int))))
  else
  (isa_read.j16 n 0 0 0 0 0 0 false (6 : Int) y3.1 0 0 y14.1 0 (decide (y2.1 = (1 : Int)))))))
def g (a : Int) : Option (Int × Int × Int × Int × Int × Int × Bool × Unit) := f (1000 + a.toNat) a
end isa_read
namespace isa_May
def j10 (n : Nat) (a : Int) (b : Int) (c : Int) (d : Int) (e : Int) (i : Int) (j : Bool) : Option (Bool × Unit) :=
  if (!j) = false then
  ((isa_between.g b (8 : Int) (10 : Int)).bind fun y1 =>
  some (y1.1, ()))
  else (some (true, ()))
def f (n : Nat) (a : Int) (b : Int) (c : Int) (d : Int) (e : Int) (i : Int) (j : Bool) : Option (Bool × Unit) :=
  (isa_between.g a (1 : Int) (7 : Int)).bind fun y1 =>
  if (!y1.1) = false then
  ((isa_between.g b (0 : Int) (15 : Int)).bind fun y2 =>
  if (!y2.1) = false then
  ((isa_word.g a b c d e i j).bind fun y3 =>
  (isa_read.g y3.1).bind fun y4 =>
  if (!(decide (a = y4.1) && (decide (b = y4.2.1) && (decide (c = y4.2.2.1) && (decide (d = y4.2.2.2.1) && (decide (e = y4.2.2.2.2.1) && (decide (i = y4.2.2.2.2.2.1) && ((j == y4.2.2.2.2.2.2.1) && true)))))))) then (some (false, ()))
  else
  (if (decide (a = (1 : Int))) then
  (if (decide (a = (1 : Int))) then
  (if (decide (b = (0 : Int))) then
  (if (decide (d = (0 : Int))) then
  (if (decide (a = (2 : Int))) = false then
  (if (!j) then
  (if (!j) = false then (some ((decide ((0 : Int) ≤ i)), ()))
  else (some (true, ())))
  else (some (false, ())))
  else
  (if (!j) = false then (some ((decide ((0 : Int) ≤ i)), ()))
  else (some (true, ()))))
  else (some (false, ())))
  else
  (if (decide ((11 : Int) < b)) then (some (false, ()))
  else (isa_May.j10 n a b c d e i j)))
  else (some (true, ())))
  else
  (if (decide (a = (2 : Int))) then
  (if (decide (b = (0 : Int))) then
  (if (decide (d = (0 : Int))) then
  (if (decide (a = (2 : Int))) = false then
  (if (!j) then
  (if (!j) = false then (some ((decide ((0 : Int) ≤ i)), ()))
  else (some (true, ())))
  else (some (false, ())))
  else
  (if (!j) = false then (some ((decide ((0 : Int) ≤ i)), ()))
  else (some (true, ()))))
  else (some (false, ())))
  else
  (if (decide ((11 : Int) < b)) then (some (false, ()))
  else (isa_May.j10 n a b c d e i j)))
  else (some (true, ())))))
  else (some (false, ())))
  else (some (false, ()))
def g (a : Int) (b : Int) (c : Int) (d : Int) (e : Int) (i : Int) (j : Bool) : Option (Bool × Unit) := f (1000 + a.toNat + b.toNat + c.toNat + d.toNat + e.toNat + i.toNat) a b c d e i j
end isa_May
namespace stmt_May
def j12 (n : Nat) (a : Int) (b : Int) (c : Int) (d : Int) (e : Int) (i : Int) (j : Bool) : Option (Bool × Unit) :=
  (isa_May.g a b c d e i j).bind fun y1 =>
  some (y1.1, ())
def j4 (n : Nat) (a : Int) (b : Int) (c : Int) (d : Int) (e : Int) (i : Bool) (j : List It) (k : Str) (l : Int) (o : Int) (p : Int) (q : Int) (r : Int) (s : Int) (t : Bool) : Option (Bool × Unit) :=
  if (decide (a = (0 : Int))) then
  (if (decide (a = (0 : Int))) then
  (some ((decide (l = a) && (decide (o = 0) && (decide (p = 0) && (decide (q = 0) && (decide (r = 0) && (decide (s = 0) && ((t == false) && true))))))), ()))
  else
  (if (decide (a = (10 : Int))) then
  (if (decide (l = a) && (decide (o = 0) && (decide (p = 0) && (decide (q = 0) && (decide (r = 0) && (decide (s = 0) && ((t == false) && true))))))) then
  ((le_Name.g k).bind fun y1 =>
  some (y1.1, ()))
  else (some (false, ())))
  else
  (if (decide (a = (8 : Int))) then
  (if (decide (l = a) && (decide (o = 0) && (decide (p = c) && (decide (q = 0) && (decide (r = 0) && (decide (s = 0) && ((t == false) && true))))))) then
  ((name_RegName.g c).bind fun y2 =>
  some ((!(decide (y2.1 = ([] : Str)))), ()))
  else (some (false, ())))
  else (stmt_May.j12 n l o p q r s t))))
  else
  (if (decide (a = (9 : Int))) then
  (some ((decide (l = a) && (decide (o = 0) && (decide (p = 0) && (decide (q = 0) && (decide (r = 0) && (decide (s = 0) && ((t == false) && true))))))), ()))
  else
  (if (decide (a = (10 : Int))) then
  (if (decide (l = a) && (decide (o = 0) && (decide (p = 0) && (decide (q = 0) && (decide (r = 0) && (decide (s = 0) && ((t == false) && true))))))) then
  ((le_Name.g k).bind fun y3 =>
  some (y3.1, ()))
  else (some (false, ())))
  else
  (if (decide (a = (8 : Int))) then
  (if (decide (l = a) && (decide (o = 0) && (decide (p = c) && (decide (q = 0) && (decide (r = 0) && (decide (s = 0) && ((t == false) && true))))))) then
  ((name_RegName.g c).bind fun y4 =>
  some ((!(decide (y4.1 = ([] : Str)))), ()))
  else (some (false, ())))
  else (stmt_May.j12 n l o p q r s t))))
def f (n : Nat) (a : Int) (b : Int) (c : Int) (d : Int) (e : Int) (i : Bool) (j : List It) (k : Str) : Option (Bool × Unit) :=
  (stmt_numbered.g a).bind fun y1 =>
  if (!(y1.1 == (decide ((0 : Int) < (j.length : Int))))) = false then
  ((stmt_numbered.g a).bind fun y2 =>
  if y2.1 then
  ((expr_Well.g j).bind fun y3 =>
  if (!y3.1) = false then
  (if (!((decide (a = (10 : Int))) == (!(decide (k = ([] : Str)))))) then (some (false, ()))
  else (stmt_May.j4 n a b c d e i j k a b c d e 0 i))
  else (some (false, ())))
  else
  (if (!((decide (a = (10 : Int))) == (!(decide (k = ([] : Str)))))) then (some (false, ()))
  else (stmt_May.j4 n a b c d e i j k a b c d e 0 i)))
  else (some (false, ()))
def g (a : Int) (b : Int) (c : Int) (d : Int) (e : Int) (i : Bool) (j : List It) (k : Str) : Option (Bool × Unit) := f (1000 + a.toNat + b.toNat + c.toNat + d.toNat + e.toNat + j.length + k.length) a b c d e i j k
end stmt_May
namespace stmt_head
def f (n : Nat) (a : Int) : Option (Int × Unit) :=
  if (decide (a = (2 : Int))) then (some ((1 : Int), ()))
  else
  (if (decide (a = (6 : Int))) then (some ((7 : Int), ()))
  else (some (a, ())))
def g (a : Int) : Option (Int × Unit) := f (1000 + a.toNat) a
end stmt_head
namespace stmt_register_2
def f (n : Nat) (a : Int) (b : Int) (c : Int) (d : Int) (e : Int) (i : Bool) (j : List It) (k : Str) (l : Fn) : Option (Str × Unit) :=
  if l = K.atA then ((stmt_operands_1.g a b c d e i j k).bind fun y1 =>
  (name_RegName.g y1.2.2.2.1).bind fun y2 =>
  some (y2.1, ()))
  else if l = K.atB then ((stmt_operands_2.g a b c d e i j k).bind fun y3 =>
  (name_RegName.g y3.2.2.2.2.1).bind fun y4 =>
  some (y4.1, ()))
  else if l = K.atC then ((stmt_operands_3.g a b c d e i j k).bind fun y5 =>
  (name_RegName.g y5.2.2.2.2.2.1).bind fun y6 =>
  some (y6.1, ()))
  else none
def g (a : Int) (b : Int) (c : Int) (d : Int) (e : Int) (i : Bool) (j : List It) (k : Str) (l : Fn) : Option (Str × Unit) := f (1000 + a.toNat + b.toNat + c.toNat + d.toNat + e.toNat + j.length + k.length) a b c d e i j k l
end stmt_register_2
namespace strings_trimLeftByte
def l1 (n : Nat) : Nat → Str → Int → Option (Str × Unit)
 | 0, _, _ => none
 | m + 1, a, b =>
  if (decide ((0 : Int) < (a.length : Int))) then
  (if 0 ≤ (0 : Int) ∧ (0 : Int) < (a.length : Int) then
  (if (decide ((bt a (0 : Int)) = b)) then
  (if 0 ≤ (1 : Int) ∧ (1 : Int) ≤ (a.length : Int) then
  ((strings_trimLeftByte.l1 n m) ((a.take (((a.length : Int)).toNat)).drop (((1 : Int)).toNat)) b) else none)
  else (some (a, ()))) else none)
  else (some (a, ()))
def f (n : Nat) (a : Str) (b : Int) : Option (Str × Unit) :=
  strings_trimLeftByte.l1 n n a b
def g (a : Str) (b : Int) : Option (Str × Unit) := f (1000 + a.length + b.toNat) a b
end strings_trimLeftByte
namespace strings_TrimLeft
def j5 (n : Nat) (a : Str) (b : Str) : Option (Str × Unit) :=
  none
def f (n : Nat) (a : Str) (b : Str) : Option (Str × Unit) :=
  if (decide (a = ([] : Str))) = false then
  (if (decide (b = ([] : Str))) then (some (a, ()))
  else
  (if (decide ((b.length : Int) = (1 : Int))) then
  (if 0 ≤ (0 : Int) ∧ (0 : Int) < (b.length : Int) then
  (if (decide ((bt b (0 : Int)) < (128 : Int))) then
  (if 0 ≤ (0 : Int) ∧ (0 : Int) < (b.length : Int) then
  ((strings_trimLeftByte.g a (bt b (0 : Int))).bind fun y1 =>
  some (y1.1, ())) else none)
  else (strings_TrimLeft.j5 n a b)) else none)
  else (strings_TrimLeft.j5 n a b)))
  else (some (a, ()))
def g (a : Str) (b : Str) : Option (Str × Unit) := f (1000 + a.length + b.length) a b
end strings_TrimLeft
namespace stmt_number_2
def f (n : Nat) (a : Int) (b : Int) (c : Int) (d : Int) (e : Int) (i : Bool) (j : List It) (k : Str) (l : Str) : Option (Str × Unit) :=
  (expr_Print.g j).bind fun y1 =>
  if l.length + ([32] : Str).length ≤ 9223372036854775807 then
  (if (l ++ ([32] : Str)).length + y1.1.length ≤ 9223372036854775807 then
  ((strings_TrimLeft.g ((l ++ ([32] : Str)) ++ y1.1) ([32] : Str)).bind fun y2 =>
  some (y2.1, ())) else none) else none
def g (a : Int) (b : Int) (c : Int) (d : Int) (e : Int) (i : Bool) (j : List It) (k : Str) (l : Str) : Option (Str × Unit) := f (1000 + a.toNat + b.toNat + c.toNat + d.toNat + e.toNat + j.length + k.length + l.length) a b c d e i j k l
end stmt_number_2
namespace stmt_operands_5
def f (n : Nat) (a : Int) (b : Int) (c : Int) (d : Int) (e : Int) (i : Bool) (j : List It) (k : Str) : Option (Str × Unit) :=
  some (k, ())
def g (a : Int) (b : Int) (c : Int) (d : Int) (e : Int) (i : Bool) (j : List It) (k : Str) : Option (Str × Unit) := f (1000 + a.toNat + b.toNat + c.toNat + d.toNat + e.toNat + j.length + k.length) a b c d e i j k
end stmt_operands_5
namespace stmt_Print
def j15 (n : Nat) (rl12 : (List Str) → Str → (List Str) → (List (Fn × Fn × Unit)) → Int → Int → Int → Int → Int → Int → Int → Bool → (List It) → Str → Option (Str × Int × Unit)) (a : List Str) (b : Str) (c : List Str) (d : List (Fn × Fn × Unit)) (e : Int) (i : Int) (j : Int) (k : Int) (l : Int) (o : Int) (p : Int) (q : Bool) (r : List It) (s : Str) : Option (Str × Int × Unit) :=
  rl12 a b c d e (IntKind.i64.wrap (i + (1 : Int))) j k l o p q r s
def j17 (n : Nat) (a : List Str) : Option (Str × Int × Unit) :=
  (L.sjoinO a ([32] : Str)).bind fun y1 =>
  some (y1.1, (0 : Int), ())
def l12 (n : Nat) : Nat → (List Str) → Str → (List Str) → (List (Fn × Fn × Unit)) → Int → Int → Int → Int → Int → Int → Int → Bool → (List It) → Str → Option (Str × Int × Unit)
 | 0, _, _, _, _, _, _, _, _, _, _, _, _, _, _ => none
 | m + 1, a, b, c, d, e, i, j, k, l, o, p, q, r, s =>
  if (decide (i < e)) then
  (if 0 ≤ i ∧ i < (d.length : Int) then
  (if ((d.getD (i).toNat (((0, []) : Fn), (((0, []) : Fn), ()))).2).1 = K.wrA then ((stmt_register_2.g j k l o p q r s K.atA).bind fun y1 =>
  if (c.length + ([y1.1] : List Str).length) * 16 ≤ 140737488355328 ∧ 0 < 16 ∧ 0 < 1 then
  (stmt_Print.j15 n (stmt_Print.l12 n m) a b (c ++ ([y1.1] : List Str)) d e i j k l o p q r s) else none)
  else if ((d.getD (i).toNat (((0, []) : Fn), (((0, []) : Fn), ()))).2).1 = K.wrB then ((stmt_register_2.g j k l o p q r s K.atB).bind fun y2 =>
  if (c.length + ([y2.1] : List Str).length) * 16 ≤ 140737488355328 ∧ 0 < 16 ∧ 0 < 1 then
  (stmt_Print.j15 n (stmt_Print.l12 n m) a b (c ++ ([y2.1] : List Str)) d e i j k l o p q r s) else none)
  else if ((d.getD (i).toNat (((0, []) : Fn), (((0, []) : Fn), ()))).2).1 = K.wrC then ((stmt_register_2.g j k l o p q r s K.atC).bind fun y3 =>
  if (c.length + ([y3.1] : List Str).length) * 16 ≤ 140737488355328 ∧ 0 < 16 ∧ 0 < 1 then
  (stmt_Print.j15 n (stmt_Print.l12 n m) a b (c ++ ([y3.1] : List Str)) d e i j k l o p q r s) else none)
  else if ((d.getD (i).toNat (((0, []) : Fn), (((0, []) : Fn), ()))).2).1 = K.wrE then ((stmt_number_2.g j k l o p q r s ([] : Str)).bind fun y4 =>
  if (c.length + ([y4.1] : List Str).length) * 16 ≤ 140737488355328 ∧ 0 < 16 ∧ 0 < 1 then
  (stmt_Print.j15 n (stmt_Print.l12 n m) a b (c ++ ([y4.1] : List Str)) d e i j k l o p q r s) else none)
  else if ((d.getD (i).toNat (((0, []) : Fn), (((0, []) : Fn), ()))).2).1 = K.wrQ then ((stmt_number_2.g j k l o p q r s ([61] : Str)).bind fun y5 =>
  if (c.length + ([y5.1] : List Str).length) * 16 ≤ 140737488355328 ∧ 0 < 16 ∧ 0 < 1 then
  (stmt_Print.j15 n (stmt_Print.l12 n m) a b (c ++ ([y5.1] : List Str)) d e i j k l o p q r s) else none)
  else if ((d.getD (i).toNat (((0, []) : Fn), (((0, []) : Fn), ()))).2).1 = K.wrN then ((stmt_operands_5.g j k l o p q r s).bind fun y6 =>
  if (c.length + ([y6.1] : List Str).length) * 16 ≤ 140737488355328 ∧ 0 < 16 ∧ 0 < 1 then
  (stmt_Print.j15 n (stmt_Print.l12 n m) a b (c ++ ([y6.1] : List Str)) d e i j k l o p q r s) else none)
  else none) else none)
  else
  ((L.sjoinO c ([44, 32] : Str)).bind fun y7 =>
  if (a.length + ([b, y7.1] : List Str).length) * 16 ≤ 140737488355328 ∧ 0 < 16 ∧ 0 < 1 then (stmt_Print.j17 n (a ++ ([b, y7.1] : List Str))) else none)
def j10 (n : Nat) (a : List Str) (b : Str) (c : Int) (d : Int) (e : Int) (i : Int) (j : Int) (k : Bool) (l : List It) (o : Str) : Option (Str × Int × Unit) :=
  stmt_Print.l12 n n a b ([]) (L.opsR c d) ((L.opsR c d).length : Int) (0 : Int) c d e i j k l o
def j6 (n : Nat) (a : List Str) (b : Int) (c : Int) (d : Int) (e : Int) (i : Int) (j : Bool) (k : List It) (l : Str) : Option (Str × Int × Unit) :=
  if (decide (b ≠ (0 : Int))) then
  ((stmt_head.g b).bind fun y1 =>
  (L.mnemO y1.1 c j).bind fun y2 =>
  (stmt_dotted.g b).bind fun y3 =>
  if y3.1 then
  (if ([46] : Str).length + y2.1.length ≤ 9223372036854775807 then (stmt_Print.j10 n a (([46] : Str) ++ y2.1) b c d e i j k l) else none)
  else (stmt_Print.j10 n a y2.1 b c d e i j k l))
  else (stmt_Print.j17 n a)
def j3 (n : Nat) (a : Str) (b : Int) (c : Int) (d : Int) (e : Int) (i : Int) (j : Bool) (k : List It) (l : Str) : Option (Str × Int × Unit) :=
  if (!(decide (a = ([] : Str)))) then
  (if a.length + ([58] : Str).length ≤ 9223372036854775807 then
  (if (([] : List Str).length + ([(a ++ ([58] : Str))] : List Str).length) * 16 ≤ 140737488355328 ∧ 0 < 16 ∧ 0 < 1 then
  (stmt_Print.j6 n (([] : List Str) ++ ([(a ++ ([58] : Str))] : List Str)) b c d e i j k l) else none) else none)
  else (stmt_Print.j6 n ([]) b c d e i j k l)
def f (n : Nat) (a : Str) (b : Int) (c : Int) (d : Int) (e : Int) (i : Int) (j : Bool) (k : List It) (l : Str) : Option (Str × Int × Unit) :=
  if (!(decide (a = ([] : Str)))) then
  ((name_Label.g a).bind fun y1 =>
  if (!y1.1) = false then
  ((stmt_May.g b c d e i j k l).bind fun y2 =>
  if (!y2.1) then (some (([] : Str), (22 : Int), ()))
  else (stmt_Print.j3 n a b c d e i j k l))
  else (some (([] : Str), (22 : Int), ())))
  else
  ((stmt_May.g b c d e i j k l).bind fun y3 =>
  if (!y3.1) then (some (([] : Str), (22 : Int), ()))
  else (stmt_Print.j3 n a b c d e i j k l))
def g (a : Str) (b : Int) (c : Int) (d : Int) (e : Int) (i : Int) (j : Bool) (k : List It) (l : Str) : Option (Str × Int × Unit) := f (1000 + a.length + b.toNat + c.toNat + d.toNat + e.toNat + i.toNat + k.length + l.length) a b c d e i j k l
end stmt_Print
end Rv
namespace Rv
open Go
set_option maxRecDepth 100000
namespace rivetref03_Fit
def j25 (n : Nat) (a : Int) (b : Int) (c : Int) (d : Int) (e : Int) (i : Int) (j : Bool) (k : Int) (l : Int) (o : Int) (p : Int) (q : Int) (r : Int) (s : Bool) : Option (Int × Int × Int × Int × Int × Int × Bool × Unit) :=
  some (k, l, o, p, q, r, s, ())
def j10 (n : Nat) (a : Int) (b : Int) (c : Int) (d : Int) (e : Int) (i : Int) (j : Int) (k : Bool) (l : Int) (o : Int) (p : Int) (q : Int) (r : Int) (s : Int) (t : Bool) (u : Int) (v : Int) (w : Int) (x : Int) (z : Int) (A : Int) (B : Bool) : Option (Int × Int × Int × Int × Int × Int × Bool × Unit) :=
  if (decide (u = (1 : Int))) then (some (u, v, w, x, (bitsI .and .i64 i (15 : Int)), A, B, ()))
  else
  (if (decide (a = (0 : Int))) then
  (if k then
  (rivetref03_Fit.j25 n l o p q r s t u v w x z (bitsI .and .i64 j (65535 : Int)) true)
  else
  (rivetref03_Fit.j25 n l o p q r s t u v w x z (IntKind.i64.wrap ((bitsI .and .i64 j (131071 : Int)) - (65536 : Int))) B))
  else
  (rivetref03_Fit.j25 n l o p q r s t u v w x z (IntKind.i64.wrap ((bitsI .and .i64 j (131071 : Int)) - (65536 : Int))) B))
def j9 (n : Nat) (a : Int) (b : Int) (c : Int) (d : Int) (e : Int) (i : Int) (j : Int) (k : Bool) (l : Int) (o : Int) (p : Int) (q : Int) (r : Int) (s : Int) (t : Bool) (u : Int) (v : Int) (w : Int) (x : Int) (z : Int) (A : Int) (B : Bool) : Option (Int × Int × Int × Int × Int × Int × Bool × Unit) :=
  if k then
  (if (decide ((8 : Int) ≤ a)) then
  (rivetref03_Fit.j10 n a b c d e i j k l o p q r s t u v w x z A (decide (a ≤ (10 : Int))))
  else
  (rivetref03_Fit.j10 n a b c d e i j k l o p q r s t u v w x z A false))
  else
  (rivetref03_Fit.j10 n a b c d e i j k l o p q r s t u v w x z A false)
def j7 (n : Nat) (a : Int) (b : Int) (c : Int) (d : Int) (e : Int) (i : Int) (j : Int) (k : Bool) (l : Int) (o : Int) (p : Int) (q : Int) (r : Int) (s : Int) (t : Bool) (u : Int) (v : Int) (w : Int) (x : Int) (z : Int) (A : Int) (B : Bool) : Option (Int × Int × Int × Int × Int × Int × Bool × Unit) :=
  if (decide (a ≠ (0 : Int))) then
  (rivetref03_Fit.j9 n a b c d e i j k l o p q r s t u v w (bitsI .and .i64 e (15 : Int)) z A B)
  else
  (rivetref03_Fit.j9 n a b c d e i j k l o p q r s t u v w x z A B)
def j19 (n : Nat) (a : Int) (b : Int) (c : Int) (d : Int) (e : Int) (i : Int) (j : Bool) (k : Int) (l : Int) (o : Int) (p : Int) (q : Int) (r : Int) (s : Bool) (t : Int) (u : Int) (v : Int) (w : Int) (x : Int) (z : Int) (A : Bool) : Option (Int × Int × Int × Int × Int × Int × Bool × Unit) :=
  rivetref03_Fit.j25 n k l o p q r s t u v (bitsI .and .i64 d (15 : Int)) x (IntKind.i64.wrap ((bitsI .and .i64 i (1048575 : Int)) - (524288 : Int))) A
def f (n : Nat) (a : Int) (b : Int) (c : Int) (d : Int) (e : Int) (i : Int) (j : Bool) : Option (Int × Int × Int × Int × Int × Int × Bool × Unit) :=
  if (decide ((IntKind.i64.wrap ((1 : Int) + (Int.tmod (IntKind.i64.wrap ((Int.tmod a (7 : Int)) + (7 : Int))) (7 : Int)))) = (1 : Int))) then
  (if (decide ((IntKind.i64.wrap ((1 : Int) + (Int.tmod (IntKind.i64.wrap ((Int.tmod a (7 : Int)) + (7 : Int))) (7 : Int)))) = (1 : Int))) then
  (rivetref03_Fit.j7 n (Int.tmod (IntKind.i64.wrap ((Int.tmod b (12 : Int)) + (12 : Int))) (12 : Int)) a b c d e i j 0 0 0 0 0 0 false (IntKind.i64.wrap ((1 : Int) + (Int.tmod (IntKind.i64.wrap ((Int.tmod a (7 : Int)) + (7 : Int))) (7 : Int)))) (Int.tmod (IntKind.i64.wrap ((Int.tmod b (12 : Int)) + (12 : Int))) (12 : Int)) (bitsI .and .i64 c (15 : Int)) 0 0 0 false)
  else
  (if (decide ((IntKind.i64.wrap ((1 : Int) + (Int.tmod (IntKind.i64.wrap ((Int.tmod a (7 : Int)) + (7 : Int))) (7 : Int)))) = (5 : Int))) then
  (rivetref03_Fit.j19 n a b c d e i j 0 0 0 0 0 0 false (IntKind.i64.wrap ((1 : Int) + (Int.tmod (IntKind.i64.wrap ((Int.tmod a (7 : Int)) + (7 : Int))) (7 : Int)))) (bitsI .and .i64 b (3 : Int)) (bitsI .and .i64 c (15 : Int)) 0 0 0 false)
  else
  (if (decide ((IntKind.i64.wrap ((1 : Int) + (Int.tmod (IntKind.i64.wrap ((Int.tmod a (7 : Int)) + (7 : Int))) (7 : Int)))) = (6 : Int))) then
  (rivetref03_Fit.j25 n 0 0 0 0 0 0 false (IntKind.i64.wrap ((1 : Int) + (Int.tmod (IntKind.i64.wrap ((Int.tmod a (7 : Int)) + (7 : Int))) (7 : Int)))) (bitsI .and .i64 b (15 : Int)) 0 0 (bitsI .and .i64 e (15 : Int)) 0 j)
  else
  (if (decide ((IntKind.i64.wrap ((1 : Int) + (Int.tmod (IntKind.i64.wrap ((Int.tmod a (7 : Int)) + (7 : Int))) (7 : Int)))) = (7 : Int))) then
  (rivetref03_Fit.j25 n 0 0 0 0 0 0 false (IntKind.i64.wrap ((1 : Int) + (Int.tmod (IntKind.i64.wrap ((Int.tmod a (7 : Int)) + (7 : Int))) (7 : Int)))) (bitsI .and .i64 b (15 : Int)) 0 0 0 (IntKind.i64.wrap ((bitsI .and .i64 i (16777215 : Int)) - (8388608 : Int))) j)
  else
  (rivetref03_Fit.j25 n 0 0 0 0 0 0 false (IntKind.i64.wrap ((1 : Int) + (Int.tmod (IntKind.i64.wrap ((Int.tmod a (7 : Int)) + (7 : Int))) (7 : Int)))) 0 (bitsI .and .i64 c (15 : Int)) 0 0 0 false)))))
  else
  (if (decide ((IntKind.i64.wrap ((1 : Int) + (Int.tmod (IntKind.i64.wrap ((Int.tmod a (7 : Int)) + (7 : Int))) (7 : Int)))) = (2 : Int))) then
  (rivetref03_Fit.j7 n (Int.tmod (IntKind.i64.wrap ((Int.tmod b (12 : Int)) + (12 : Int))) (12 : Int)) a b c d e i j 0 0 0 0 0 0 false (IntKind.i64.wrap ((1 : Int) + (Int.tmod (IntKind.i64.wrap ((Int.tmod a (7 : Int)) + (7 : Int))) (7 : Int)))) (Int.tmod (IntKind.i64.wrap ((Int.tmod b (12 : Int)) + (12 : Int))) (12 : Int)) (bitsI .and .i64 c (15 : Int)) 0 0 0 false)
  else
  (if (decide ((IntKind.i64.wrap ((1 : Int) + (Int.tmod (IntKind.i64.wrap ((Int.tmod a (7 : Int)) + (7 : Int))) (7 : Int)))) = (5 : Int))) then
  (rivetref03_Fit.j19 n a b c d e i j 0 0 0 0 0 0 false (IntKind.i64.wrap ((1 : Int) + (Int.tmod (IntKind.i64.wrap ((Int.tmod a (7 : Int)) + (7 : Int))) (7 : Int)))) (bitsI .and .i64 b (3 : Int)) (bitsI .and .i64 c (15 : Int)) 0 0 0 false)
  else
  (if (decide ((IntKind.i64.wrap ((1 : Int) + (Int.tmod (IntKind.i64.wrap ((Int.tmod a (7 : Int)) + (7 : Int))) (7 : Int)))) = (6 : Int))) then
  (rivetref03_Fit.j25 n 0 0 0 0 0 0 false (IntKind.i64.wrap ((1 : Int) + (Int.tmod (IntKind.i64.wrap ((Int.tmod a (7 : Int)) + (7 : Int))) (7 : Int)))) (bitsI .and .i64 b (15 : Int)) 0 0 (bitsI .and .i64 e (15 : Int)) 0 j)
  else
  (if (decide ((IntKind.i64.wrap ((1 : Int) + (Int.tmod (IntKind.i64.wrap ((Int.tmod a (7 : Int)) + (7 : Int))) (7 : Int)))) = (7 : Int))) then
  (rivetref03_Fit.j25 n 0 0 0 0 0 0 false (IntKind.i64.wrap ((1 : Int) + (Int.tmod (IntKind.i64.wrap ((Int.tmod a (7 : Int)) + (7 : Int))) (7 : Int)))) (bitsI .and .i64 b (15 : Int)) 0 0 0 (IntKind.i64.wrap ((bitsI .and .i64 i (16777215 : Int)) - (8388608 : Int))) j)
  else
  (rivetref03_Fit.j25 n 0 0 0 0 0 0 false (IntKind.i64.wrap ((1 : Int) + (Int.tmod (IntKind.i64.wrap ((Int.tmod a (7 : Int)) + (7 : Int))) (7 : Int)))) 0 (bitsI .and .i64 c (15 : Int)) 0 0 0 false)))))
def g (a : Int) (b : Int) (c : Int) (d : Int) (e : Int) (i : Int) (j : Bool) : Option (Int × Int × Int × Int × Int × Int × Bool × Unit) := f (1000 + a.toNat + b.toNat + c.toNat + d.toNat + e.toNat + i.toNat) a b c d e i j
end rivetref03_Fit
namespace rivetref17_Fit
def j8 (n : Nat) (a : Int) (b : Int) (c : Int) (d : Int) (e : Int) (i : Bool) (j : List It) (k : Str) (l : Int) (o : Int) (p : Int) (q : Int) (r : Int) (s : Bool) (t : List It) (u : Str) : Option Sn :=
  some (l, o, p, q, r, s, t, u, ())
def j9 (n : Nat) (a : Int) (b : List It) (c : Int) (d : Int) (e : Int) (i : Int) (j : Int) (k : Bool) (l : List It) (o : Str) (p : Int) (q : Int) (r : Int) (s : Int) (t : Int) (u : Bool) (v : List It) (w : Str) : Option Sn :=
  if (decide (a = (8 : Int))) then
  (some (a, 0, (bitsI .and .i64 e (15 : Int)), 0, 0, false, b, ([] : Str), ()))
  else
  (if (decide (a = (9 : Int))) then (some (a, 0, 0, 0, 0, false, b, ([] : Str), ()))
  else
  (if (decide (a = (10 : Int))) then
  (if 0 ≤ (mn (o.length : Int) (6 : Int)) ∧ (mn (o.length : Int) (6 : Int)) ≤ (o.length : Int) then
  ((rivetref07_Fit.g ((o.take (((mn (o.length : Int) (6 : Int))).toNat)).drop 0)).bind fun y1 =>
  some (a, 0, 0, 0, 0, false, [], y1.1, ())) else none)
  else (some (0, 0, 0, 0, 0, false, [], ([] : Str), ()))))
def f (n : Nat) (a : Int) (b : Int) (c : Int) (d : Int) (e : Int) (i : Bool) (j : List It) (k : Str) : Option Sn :=
  (rivetref15_Fit.g j).bind fun y1 =>
  if (decide ((1 : Int) ≤ (Int.tmod (IntKind.i64.wrap ((Int.tmod a (11 : Int)) + (11 : Int))) (11 : Int)))) then
  (if (decide ((Int.tmod (IntKind.i64.wrap ((Int.tmod a (11 : Int)) + (11 : Int))) (11 : Int)) ≤ (7 : Int))) then
  ((rivetref03_Fit.g (IntKind.i64.wrap ((Int.tmod (IntKind.i64.wrap ((Int.tmod a (11 : Int)) + (11 : Int))) (11 : Int)) - (1 : Int))) b c d e 0 i).bind fun y2 =>
  if (decide ((Int.tmod (IntKind.i64.wrap ((Int.tmod a (11 : Int)) + (11 : Int))) (11 : Int)) = (2 : Int))) = false then
  (if (decide ((Int.tmod (IntKind.i64.wrap ((Int.tmod a (11 : Int)) + (11 : Int))) (11 : Int)) = (5 : Int))) = false then
  (if (decide ((Int.tmod (IntKind.i64.wrap ((Int.tmod a (11 : Int)) + (11 : Int))) (11 : Int)) = (7 : Int))) then
  (rivetref17_Fit.j8 n 0 0 0 0 0 false ([]) ([] : Str) y2.1 y2.2.1 y2.2.2.1 y2.2.2.2.1 y2.2.2.2.2.1 y2.2.2.2.2.2.2.1 y1.1 ([] : Str))
  else
  (rivetref17_Fit.j8 n 0 0 0 0 0 false ([]) ([] : Str) y2.1 y2.2.1 y2.2.2.1 y2.2.2.2.1 y2.2.2.2.2.1 y2.2.2.2.2.2.2.1 ([]) ([] : Str)))
  else
  (rivetref17_Fit.j8 n 0 0 0 0 0 false ([]) ([] : Str) y2.1 y2.2.1 y2.2.2.1 y2.2.2.2.1 y2.2.2.2.2.1 y2.2.2.2.2.2.2.1 y1.1 ([] : Str)))
  else
  (rivetref17_Fit.j8 n 0 0 0 0 0 false ([]) ([] : Str) y2.1 y2.2.1 y2.2.2.1 y2.2.2.2.1 y2.2.2.2.2.1 y2.2.2.2.2.2.2.1 y1.1 ([] : Str)))
  else
  (rivetref17_Fit.j9 n (Int.tmod (IntKind.i64.wrap ((Int.tmod a (11 : Int)) + (11 : Int))) (11 : Int)) y1.1 a b c d e i j k 0 0 0 0 0 false ([]) ([] : Str)))
  else
  (rivetref17_Fit.j9 n (Int.tmod (IntKind.i64.wrap ((Int.tmod a (11 : Int)) + (11 : Int))) (11 : Int)) y1.1 a b c d e i j k 0 0 0 0 0 false ([]) ([] : Str))
def g (a : Int) (b : Int) (c : Int) (d : Int) (e : Int) (i : Bool) (j : List It) (k : Str) : Option Sn := f (1000 + a.toNat + b.toNat + c.toNat + d.toNat + e.toNat + j.length + k.length) a b c d e i j k
end rivetref17_Fit
namespace rivetref17_Instr
def f (n : Nat) (a : Int) (b : Int) (c : Int) (d : Int) (e : Int) (i : Bool) (j : List It) (k : Str) : Option (Int × Int × Int × Int × Int × Int × Bool × Unit) :=
  some (a, b, c, d, e, 0, i, ())
def g (a : Int) (b : Int) (c : Int) (d : Int) (e : Int) (i : Bool) (j : List It) (k : Str) : Option (Int × Int × Int × Int × Int × Int × Bool × Unit) := f (1000 + a.toNat + b.toNat + c.toNat + d.toNat + e.toNat + j.length + k.length) a b c d e i j k
end rivetref17_Instr
namespace rivetref17_Same
def f (n : Nat) (a : Int) (b : Int) (c : Int) (d : Int) (e : Int) (i : Bool) (j : List It) (k : Str) (l : Int) (o : Int) (p : Int) (q : Int) (r : Int) (s : Bool) (t : List It) (u : Str) : Option (Bool × Unit) :=
  (rivetref17_Instr.g a b c d e i j k).bind fun y1 =>
  (rivetref17_Instr.g l o p q r s t u).bind fun y2 =>
  if (decide (y1.1 = y2.1) && (decide (y1.2.1 = y2.2.1) && (decide (y1.2.2.1 = y2.2.2.1) && (decide (y1.2.2.2.1 = y2.2.2.2.1) && (decide (y1.2.2.2.2.1 = y2.2.2.2.2.1) && (decide (y1.2.2.2.2.2.1 = y2.2.2.2.2.2.1) && ((y1.2.2.2.2.2.2.1 == y2.2.2.2.2.2.2.1) && true))))))) then
  ((rivetref15_Same.g j t).bind fun y3 =>
  if y3.1 then (some ((decide (k = u)), ()))
  else (some (false, ())))
  else (some (false, ()))
def g (a : Int) (b : Int) (c : Int) (d : Int) (e : Int) (i : Bool) (j : List It) (k : Str) (l : Int) (o : Int) (p : Int) (q : Int) (r : Int) (s : Bool) (t : List It) (u : Str) : Option (Bool × Unit) := f (1000 + a.toNat + b.toNat + c.toNat + d.toNat + e.toNat + j.length + k.length + l.toNat + o.toNat + p.toNat + q.toNat + r.toNat + t.length + u.length) a b c d e i j k l o p q r s t u
end rivetref17_Same
end Rv
namespace Rv
open Go
set_option maxRecDepth 100000
namespace text_one
def f (n : Nat) (a : Str) : Option (Str × Int × Int × Int × Int × Int × Bool × (List It) × Str × Int × Unit) :=
  (scan_Line.g a).bind fun y1 =>
  if (decide (y1.2.1 ≠ (0 : Int))) then
  (some (([] : Str), 0, 0, 0, 0, 0, false, [], ([] : Str), y1.2.1, ()))
  else
  ((stmt_Parse.g y1.1).bind fun y2 =>
  some (y2.1, y2.2.1, y2.2.2.1, y2.2.2.2.1, y2.2.2.2.2.1, y2.2.2.2.2.2.1, y2.2.2.2.2.2.2.1, y2.2.2.2.2.2.2.2.1, y2.2.2.2.2.2.2.2.2.1, y2.2.2.2.2.2.2.2.2.2.1, ()))
def g (a : Str) : Option (Str × Int × Int × Int × Int × Int × Bool × (List It) × Str × Int × Unit) := f (1000 + a.length) a
end text_one
namespace text_each_string_api_Line
def l5 (n : Nat) : Nat → (List Ln) → (List Str) → Int → Int → Option ((List Ln) × Int × Int × Unit)
 | 0, _, _, _, _ => none
 | m + 1, a, b, c, d =>
  if (decide (d < c)) then
  (if 0 ≤ d ∧ d < (b.length : Int) then
  ((text_one.g (b.getD (d).toNat ([] : Str))).bind fun y1 =>
  if (decide (y1.2.2.2.2.2.2.2.2.2.1 ≠ (0 : Int))) then
  (some ([], (IntKind.i64.wrap (d + (1 : Int))), y1.2.2.2.2.2.2.2.2.2.1, ()))
  else
  (if (a.length + ([(y1.1, (y1.2.1, y1.2.2.1, y1.2.2.2.1, y1.2.2.2.2.1, y1.2.2.2.2.2.1, y1.2.2.2.2.2.2.1, y1.2.2.2.2.2.2.2.1, y1.2.2.2.2.2.2.2.2.1, ()), ())] : List Ln).length) * 104 ≤ 140737488355328 ∧ 0 < 104 ∧ 0 < 9 then
  ((text_each_string_api_Line.l5 n m) (a ++ ([(y1.1, (y1.2.1, y1.2.2.1, y1.2.2.2.1, y1.2.2.2.2.1, y1.2.2.2.2.2.1, y1.2.2.2.2.2.2.1, y1.2.2.2.2.2.2.2.1, y1.2.2.2.2.2.2.2.2.1, ()), ())] : List Ln)) b c (IntKind.i64.wrap (d + (1 : Int)))) else none)) else none)
  else (some (a, (0 : Int), (0 : Int), ()))
def f (n : Nat) (a : List Str) : Option ((List Ln) × Int × Int × Unit) :=
  if (decide ((4096 : Int) < (a.length : Int))) then (some ([], (0 : Int), (2 : Int), ()))
  else
  (text_each_string_api_Line.l5 n n ([]) a (a.length : Int) (0 : Int))
def g (a : List Str) : Option ((List Ln) × Int × Int × Unit) := f (1000 + a.length) a
end text_each_string_api_Line
namespace text_Parse
def j7 (n : Nat) (a : List Str) : Option ((List Ln) × Int × Int × Unit) :=
  (text_each_string_api_Line.g a).bind fun y1 =>
  some (y1.1, y1.2.1, y1.2.2.1, ())
def f (n : Nat) (a : Str) : Option ((List Ln) × Int × Int × Unit) :=
  if (decide ((262144 : Int) < (a.length : Int))) then (some ([], (0 : Int), (2 : Int), ()))
  else
  ((L.splitO a ([10] : Str)).bind fun y1 =>
  if 0 ≤ (IntKind.i64.wrap ((y1.1.length : Int) - (1 : Int))) ∧ (IntKind.i64.wrap ((y1.1.length : Int) - (1 : Int))) < (y1.1.length : Int) then
  (if (decide ((y1.1.getD ((IntKind.i64.wrap ((y1.1.length : Int) - (1 : Int)))).toNat ([] : Str)) = ([] : Str))) then
  (if 0 ≤ (IntKind.i64.wrap ((y1.1.length : Int) - (1 : Int))) ∧ (IntKind.i64.wrap ((y1.1.length : Int) - (1 : Int))) ≤ (y1.1.length : Int) then
  (text_Parse.j7 n ((y1.1.take (((IntKind.i64.wrap ((y1.1.length : Int) - (1 : Int)))).toNat)).drop 0)) else none)
  else (text_Parse.j7 n y1.1)) else none)
def g (a : Str) : Option ((List Ln) × Int × Int × Unit) := f (1000 + a.length) a
end text_Parse
namespace rivetref18_Fit
def j8 (n : Nat) (rl3 : (List Ln) → (List Ln) → Int → Option ((List Ln) × Unit)) (a : List Ln) (b : List Ln) (c : Int) (d : Str) (e : Int) (i : Int) (j : Int) (k : Int) (l : Int) (o : Bool) (p : List It) (q : Str) : Option ((List Ln) × Unit) :=
  if (b.length + ([(d, (e, i, j, k, l, o, p, q, ()), ())] : List Ln).length) * 104 ≤ 140737488355328 ∧ 0 < 104 ∧ 0 < 9 then
  (rl3 a (b ++ ([(d, (e, i, j, k, l, o, p, q, ()), ())] : List Ln)) (IntKind.i64.wrap (c + (1 : Int)))) else none
def l3 (n : Nat) : Nat → (List Ln) → (List Ln) → Int → Option ((List Ln) × Unit)
 | 0, _, _, _ => none
 | m + 1, a, b, c =>
  if (decide (c < (a.length : Int))) then
  (if (decide (c < (20 : Int))) then
  (if 0 ≤ c ∧ c < (a.length : Int) then
  ((rivetref17_Fit.g ((((a.getD (c).toNat zL).2).1).1) (((((a.getD (c).toNat zL).2).1).2).1) ((((((a.getD (c).toNat zL).2).1).2).2).1) (((((((a.getD (c).toNat zL).2).1).2).2).2).1) ((((((((a.getD (c).toNat zL).2).1).2).2).2).2).1) (((((((((a.getD (c).toNat zL).2).1).2).2).2).2).2).1) ((((((((((a.getD (c).toNat zL).2).1).2).2).2).2).2).2).1) (((((((((((a.getD (c).toNat zL).2).1).2).2).2).2).2).2).2).1)).bind fun y1 =>
  if 0 ≤ c ∧ c < (a.length : Int) then
  (if (decide ((2 : Int) < (((a.getD (c).toNat zL).1).length : Int))) then
  (if 0 ≤ c ∧ c < (a.length : Int) then
  (if 0 ≤ c ∧ c < (a.length : Int) then
  (if 0 ≤ (mn (((a.getD (c).toNat zL).1).length : Int) (20 : Int)) ∧ (mn (((a.getD (c).toNat zL).1).length : Int) (20 : Int)) ≤ (((a.getD (c).toNat zL).1).length : Int) then
  ((rivetref13_Fit.g ((((a.getD (c).toNat zL).1).take (((mn (((a.getD (c).toNat zL).1).length : Int) (20 : Int))).toNat)).drop 0)).bind fun y2 =>
  rivetref18_Fit.j8 n (rivetref18_Fit.l3 n m) a b c y2.1 y1.1 y1.2.1 y1.2.2.1 y1.2.2.2.1 y1.2.2.2.2.1 y1.2.2.2.2.2.1 y1.2.2.2.2.2.2.1 y1.2.2.2.2.2.2.2.1) else none) else none) else none)
  else
  (rivetref18_Fit.j8 n (rivetref18_Fit.l3 n m) a b c ([] : Str) y1.1 y1.2.1 y1.2.2.1 y1.2.2.2.1 y1.2.2.2.2.1 y1.2.2.2.2.2.1 y1.2.2.2.2.2.2.1 y1.2.2.2.2.2.2.2.1)) else none) else none)
  else (some (b, ())))
  else (some (b, ()))
def f (n : Nat) (a : List Ln) : Option ((List Ln) × Unit) :=
  rivetref18_Fit.l3 n n a ([] : List Ln) (0 : Int)
def g (a : List Ln) : Option ((List Ln) × Unit) := f (1000 + a.length) a
end rivetref18_Fit
namespace text_Print_1
def f (n : Nat) (a : Str) (b : Int) (c : Int) (d : Int) (e : Int) (i : Int) (j : Bool) (k : List It) (l : Str) : Option (Str × Int × Unit) :=
  (stmt_Print.g a b c d e i j k l).bind fun y1 =>
  some (y1.1, y1.2.1, ())
def g (a : Str) (b : Int) (c : Int) (d : Int) (e : Int) (i : Int) (j : Bool) (k : List It) (l : Str) : Option (Str × Int × Unit) := f (1000 + a.length + b.toNat + c.toNat + d.toNat + e.toNat + i.toNat + k.length + l.length) a b c d e i j k l
end text_Print_1
namespace text_each_api_Line_string
def l5 (n : Nat) : Nat → (List Str) → (List Ln) → Int → Int → Option ((List Str) × Int × Int × Unit)
 | 0, _, _, _, _ => none
 | m + 1, a, b, c, d =>
  if (decide (d < c)) then
  (if 0 ≤ d ∧ d < (b.length : Int) then
  ((text_Print_1.g ((b.getD (d).toNat zL).1) ((((b.getD (d).toNat zL).2).1).1) (((((b.getD (d).toNat zL).2).1).2).1) ((((((b.getD (d).toNat zL).2).1).2).2).1) (((((((b.getD (d).toNat zL).2).1).2).2).2).1) ((((((((b.getD (d).toNat zL).2).1).2).2).2).2).1) (((((((((b.getD (d).toNat zL).2).1).2).2).2).2).2).1) ((((((((((b.getD (d).toNat zL).2).1).2).2).2).2).2).2).1) (((((((((((b.getD (d).toNat zL).2).1).2).2).2).2).2).2).2).1)).bind fun y1 =>
  if (decide (y1.2.1 ≠ (0 : Int))) then (some ([], (IntKind.i64.wrap (d + (1 : Int))), y1.2.1, ()))
  else
  (if (a.length + ([y1.1] : List Str).length) * 16 ≤ 140737488355328 ∧ 0 < 16 ∧ 0 < 1 then
  ((text_each_api_Line_string.l5 n m) (a ++ ([y1.1] : List Str)) b c (IntKind.i64.wrap (d + (1 : Int)))) else none)) else none)
  else (some (a, (0 : Int), (0 : Int), ()))
def f (n : Nat) (a : List Ln) : Option ((List Str) × Int × Int × Unit) :=
  if (decide ((4096 : Int) < (a.length : Int))) then (some ([], (0 : Int), (2 : Int), ()))
  else
  (text_each_api_Line_string.l5 n n ([]) a (a.length : Int) (0 : Int))
def g (a : List Ln) : Option ((List Str) × Int × Int × Unit) := f (1000 + a.length) a
end text_each_api_Line_string
namespace text_Print
def f (n : Nat) (a : List Ln) : Option (Str × Int × Int × Unit) :=
  (text_each_api_Line_string.g a).bind fun y1 =>
  if (decide (y1.2.2.1 ≠ (0 : Int))) then (some (([] : Str), y1.2.1, y1.2.2.1, ()))
  else
  (if (y1.1.length + ([([] : Str)] : List Str).length) * 16 ≤ 140737488355328 ∧ 0 < 16 ∧ 0 < 1 then
  ((L.sjoinO (y1.1 ++ ([([] : Str)] : List Str)) ([10] : Str)).bind fun y2 =>
  some (y2.1, (0 : Int), (0 : Int), ())) else none)
def g (a : List Ln) : Option (Str × Int × Int × Unit) := f (1000 + a.length) a
end text_Print
namespace rivetref18_Same
def l4 (n : Nat) : Nat → (List Ln) → (List Ln) → Int → Option (Bool × Unit)
 | 0, _, _, _ => none
 | m + 1, a, b, c =>
  if (decide (c < (a.length : Int))) then
  (if 0 ≤ c ∧ c < (a.length : Int) then
  (if 0 ≤ c ∧ c < (b.length : Int) then
  ((rivetref17_Same.g ((((a.getD (c).toNat zL).2).1).1) (((((a.getD (c).toNat zL).2).1).2).1) ((((((a.getD (c).toNat zL).2).1).2).2).1) (((((((a.getD (c).toNat zL).2).1).2).2).2).1) ((((((((a.getD (c).toNat zL).2).1).2).2).2).2).1) (((((((((a.getD (c).toNat zL).2).1).2).2).2).2).2).1) ((((((((((a.getD (c).toNat zL).2).1).2).2).2).2).2).2).1) (((((((((((a.getD (c).toNat zL).2).1).2).2).2).2).2).2).2).1) ((((b.getD (c).toNat zL).2).1).1) (((((b.getD (c).toNat zL).2).1).2).1) ((((((b.getD (c).toNat zL).2).1).2).2).1) (((((((b.getD (c).toNat zL).2).1).2).2).2).1) ((((((((b.getD (c).toNat zL).2).1).2).2).2).2).1) (((((((((b.getD (c).toNat zL).2).1).2).2).2).2).2).1) ((((((((((b.getD (c).toNat zL).2).1).2).2).2).2).2).2).1) (((((((((((b.getD (c).toNat zL).2).1).2).2).2).2).2).2).2).1)).bind fun y1 =>
  if (!y1.1) = false then
  (if 0 ≤ c ∧ c < (a.length : Int) then
  (if 0 ≤ c ∧ c < (b.length : Int) then
  (if (!(decide ((a.getD (c).toNat zL).1 = (b.getD (c).toNat zL).1))) then (some (false, ()))
  else
  ((rivetref18_Same.l4 n m) a b (IntKind.i64.wrap (c + (1 : Int))))) else none) else none)
  else (some (false, ()))) else none) else none)
  else (some (true, ()))
def f (n : Nat) (a : List Ln) (b : List Ln) : Option (Bool × Unit) :=
  if (decide ((a.length : Int) ≠ (b.length : Int))) then (some (false, ()))
  else (rivetref18_Same.l4 n n a b (0 : Int))
def g (a : List Ln) (b : List Ln) : Option (Bool × Unit) := f (1000 + a.length + b.length) a b
end rivetref18_Same
end Rv
namespace Rv
open Go
set_option maxRecDepth 100000
namespace rivetlaw18_shown
def f (n : Nat) : Option (Bool × Unit) :=
  (text_Parse.g ([97, 58, 32, 77, 79, 86, 32, 82, 49, 44, 32, 49, 10, 66, 32, 43] : Str)).bind fun y1 =>
  (text_Parse.g ([97, 58, 32, 77, 79, 86, 32, 82, 49, 44, 32, 49, 10, 10] : Str)).bind fun y2 =>
  if (decide (y1.2.1 = (2 : Int))) then
  (if (decide (y1.2.2.1 = (23 : Int))) then
  (if (decide ((y2.1.length : Int) = (2 : Int))) then
  (if (decide (y2.2.1 = (0 : Int))) then (some ((decide (y2.2.2.1 = (0 : Int))), ()))
  else (some (false, ())))
  else (some (false, ())))
  else (some (false, ())))
  else (some (false, ()))
def g : Option (Bool × Unit) := f (1000)
end rivetlaw18_shown
namespace rivetlaw18_TextBack
def f (n : Nat) (a : List Ln) : Option (Bool × Unit) :=
  (rivetlaw18_shown.g).bind fun y1 =>
  (rivetref18_Fit.g a).bind fun y2 =>
  (text_Print.g y2.1).bind fun y3 =>
  (text_Parse.g y3.1).bind fun y4 =>
  if (!y1.1) = false then
  (if (decide (y3.2.1 ≠ (0 : Int))) = false then
  (if (decide (y3.2.2.1 ≠ (0 : Int))) then (some (false, ()))
  else
  (if (decide (y4.2.2.1 = (24 : Int))) then
  (if (decide ((1 : Int) ≤ y4.2.1)) then
  (if (decide (y4.2.1 ≤ (y2.1.length : Int))) then
  (if 0 ≤ (IntKind.i64.wrap (y4.2.1 - (1 : Int))) ∧ (IntKind.i64.wrap (y4.2.1 - (1 : Int))) < (y2.1.length : Int) then
  (some ((decide ((8 : Int) < (((((((((((y2.1.getD ((IntKind.i64.wrap (y4.2.1 - (1 : Int)))).toNat zL).2).1).2).2).2).2).2).2).1).length : Int))), ())) else none)
  else (some (false, ())))
  else (some (false, ())))
  else
  (if (decide (y4.2.2.1 = (0 : Int))) then
  (if (decide (y4.2.1 = (0 : Int))) then
  ((rivetref18_Same.g y4.1 y2.1).bind fun y5 =>
  some (y5.1, ()))
  else (some (false, ())))
  else (some (false, ())))))
  else (some (false, ())))
  else (some (false, ()))
def g (a : List Ln) : Option (Bool × Unit) := f (1000 + a.length) a
end rivetlaw18_TextBack
end Rv
namespace Rv
open Go Go.Proofs
noncomputable section
set_option maxRecDepth 100000
set_option maxHeartbeats 2000000
variable {ad : LQ}
abbrev u0 : Ty := .pair (.int .i64) (.pair (.int .i64) (.pair .str (.pair (.int .u32) .nil)))
abbrev u1 : Ty := .pair (.int .i64) (.pair (.int .u32) (.pair .str .nil))
abbrev u2 : Ty := .pair .str (.pair (.pair (.int .i64) (.pair (.int .i64) (.pair (.int .i64) (.pair (.int .i64) (.pair (.int .i64) (.pair .bool (.pair (.sl (.pair (.int .i64) (.pair (.int .u32) (.pair .str .nil)))) (.pair .str .nil)))))))) .nil)
abbrev u3 : Ty := .pair (.int .i64) (.pair (.int .i64) (.pair (.int .i64) .nil))
abbrev u4 : Ty := .pair .str (.pair (.int .i64) .nil)
abbrev u5 : Ty := .pair .fn (.pair .fn .nil)
abbrev u6 : Ty := .pair (.int .i64) (.pair (.int .i64) (.pair (.int .i64) (.pair (.int .i64) (.pair (.int .i64) (.pair .bool (.pair (.sl (.pair (.int .i64) (.pair (.int .u32) (.pair .str .nil)))) (.pair .str .nil)))))))
abbrev u7 : Ty := .pair (.int .i64) (.pair (.int .i64) (.pair (.int .i64) (.pair (.int .i64) (.pair (.int .i64) (.pair (.int .i64) (.pair .bool .nil))))))
abbrev u8 : Ty := .pair (.sl (.pair (.int .i64) (.pair (.int .i64) (.pair .str (.pair (.int .u32) .nil))))) (.pair (.int .i64) (.pair (.int .i64) .nil))
abbrev u9 : Ty := .pair (.sl (.pair (.int .i64) (.pair (.int .i64) (.pair .str (.pair (.int .u32) .nil))))) (.pair (.int .i64) (.pair (.sl (.pair (.int .i64) (.pair (.int .u32) (.pair .str .nil)))) (.pair (.int .i64) .nil)))
abbrev c0 : List CD := [ki, ki, ki, ki, ki, .bool, .sl u1, .str]
abbrev c1 : List CD := [.sl u0, ki, .row 54 u1, ki]
abbrev c2 : List CD := [.str, ki, ki, ki, ki, ki, .bool, .sl u1, .str]
abbrev c3 : List CD := [ki, ki, ki, ki, ki, ki, .bool]
def types : List (TypeId × TI) := [
 tI 2 .i64 8,
 tI 3 .i64 8,
 tB 4 1,
 tI 5 .u8 1,
 tS 9 16,
 tI 21 .i32 4,
 tL 24 39 u2,
 tI 25 .i64 8,
 tL 30 48 u0,
 tL 33 54 u1,
 (35, ⟨8, true, 88, [.int .i64 0, .int .i64 0, .int .i64 0, .int .i64 0, .int .i64 0, .bool false, .nilS, .str []], [(0, 1, false), (1, 1, false), (2, 1, false), (3, 1, false), (4, 1, false), (5, 1, false), (6, 1, false), (7, 1, false)], none, some u6, none, false, false, false, none, none⟩),
 (39, ⟨9, true, 104, [.str [], .int .i64 0, .int .i64 0, .int .i64 0, .int .i64 0, .int .i64 0, .bool false, .nilS, .str []], [(0, 1, false), (1, 8, true)], none, some u2, none, false, false, false, none, none⟩),
 tL 40 5 (.int .u8),
 tI 46 .u32 4,
 (48, ⟨4, true, 40, [.int .i64 0, .int .i64 0, .str [], .int .u32 0], [(0, 1, false), (1, 1, false), (2, 1, false), (3, 1, false)], none, some u0, none, false, false, false, none, none⟩),
 (54, ⟨3, true, 32, [.int .i64 0, .int .u32 0, .str []], [(0, 1, false), (1, 1, false), (2, 1, false)], none, some u1, none, false, false, false, some u1, none⟩),
 (57, ⟨7, true, 56, [.int .i64 0, .int .i64 0, .int .i64 0, .int .i64 0, .int .i64 0, .int .i64 0, .bool false], [(0, 1, false), (1, 1, false), (2, 1, false), (3, 1, false), (4, 1, false), (5, 1, false), (6, 1, false)], none, some u7, none, false, false, false, some u7, none⟩),
 tL 66 9 .str,
 (76, ⟨3, true, 40, [.nilS, .int .i64 0, .int .i64 0], [(0, 1, false), (1, 1, false), (2, 1, false)], none, some u8, none, false, false, false, none, none⟩),
 tL 82 90 u5,
 (87, ⟨1, false, 8, [.raw .nilFunc], [], none, some .fn, none, false, false, false, none, none⟩),
 (88, ⟨1, false, 8, [.raw .nilFunc], [], none, some .fn, none, false, false, false, none, none⟩),
 (90, ⟨2, true, 16, [.raw .nilFunc, .raw .nilFunc], [(0, 1, false), (1, 1, false)], none, some u5, none, false, false, false, none, none⟩),
 tI 106 .u64 8,
 (108, ⟨1, false, 16, [.raw .nilIface], [], none, none, none, false, true, false, none, none⟩),
 (118, ⟨1, false, 8, [.raw .nilFunc], [], none, some .fn, none, false, false, false, none, none⟩),
 tI 156 .u64 8,
 (158, ⟨3, true, 24, [.int .i64 0, .int .i64 0, .int .i64 0], [], none, some u3, none, false, false, false, none, some 3⟩),
 tI 168 .i64 8,
 (178, ⟨1, false, 8, [.raw (.pointer none)], [], none, none, none, false, false, false, none, none⟩),
 (180, ⟨4, true, 64, [.nilS, .int .i64 0, .nilS, .int .i64 0], [(0, 1, false), (1, 1, false), (2, 1, false), (3, 1, false)], none, some u9, none, false, false, false, none, none⟩),
 tL 181 183 u4,
 (183, ⟨2, true, 24, [.str [], .int .i64 0], [(0, 1, false), (1, 1, false)], none, some u4, none, false, false, false, none, none⟩),
 tL 191 158 u3]
theorem types_ok : (types.all fun p => checkTI P p.1 p.2) = true := by kernel_rfl
def internal_strconv_underscoreOK.T (ad : LQ) : TF P (LW ad) := ⟨153, [], internal_strconv_underscoreOK.sp, internal_strconv_underscoreOK.sat, internal_strconv_underscoreOK.enter⟩
def strconv_toError.T (ad : LQ) : TF P (LW ad) := ⟨107, [], strconv_toError.sp, strconv_toError.sat, strconv_toError.enter⟩
def strings_CutPrefix.T (ad : LQ) : TF P (LW ad) := ⟨67, [], strings_CutPrefix.sp, strings_CutPrefix.sat, strings_CutPrefix.enter⟩
def strings_Contains.T (ad : LQ) : TF P (LW ad) := ⟨68, [], strings_Contains.sp, strings_Contains.sat, strings_Contains.enter⟩
def strings_IndexByte.T (ad : LQ) : TF P (LW ad) := ⟨40, [], strings_IndexByte.sp, strings_IndexByte.sat, strings_IndexByte.enter⟩
def strings_Trim.T (ad : LQ) : TF P (LW ad) := ⟨71, [], strings_Trim.sp, strings_Trim.sat, strings_Trim.enter⟩
def strconv_Itoa.T (ad : LQ) : TF P (LW ad) := ⟨87, [], strconv_Itoa.sp, strconv_Itoa.sat, strconv_Itoa.enter⟩
def name_Of.T (ad : LQ) : TF P (LW ad) := ⟨43, [], name_Of.sp, name_Of.sat, name_Of.enter⟩
def stmt_operands.T (ad : LQ) : TF P (LW ad) := ⟨45, [], stmt_operands.sp, stmt_operands.sat, stmt_operands.enter⟩
def strings_Split.T (ad : LQ) : TF P (LW ad) := ⟨33, [], strings_Split.sp, strings_Split.sat, strings_Split.enter⟩
def internal_strconv_FormatUint.T (ad : LQ) : TF P (LW ad) := ⟨203, [], internal_strconv_FormatUint.sp, internal_strconv_FormatUint.sat, internal_strconv_FormatUint.enter⟩
def name_Mnemonic.T (ad : LQ) : TF P (LW ad) := ⟨50, [], name_Mnemonic.sp, name_Mnemonic.sat, name_Mnemonic.enter⟩
def strings_Join.T (ad : LQ) : TF P (LW ad) := ⟨52, [], strings_Join.sp, strings_Join.sat, strings_Join.enter⟩
def mkF (ad : LQ) := @mkT P (LW ad) types mixed types_ok maps maps_ok
def mkFa (ad : LQ) := @mkTa P (LW ad) types mixed types_ok maps maps_ok
namespace scan_letter
def sp : Spec := mkSp ⟨[(0, Sb)], []⟩ ⟨[(0, SB)], []⟩ g
noncomputable def T (ad : LQ) := mkF ad 36 [] sp [] t0 t0 t0 21 [] f (fun a => 1000 + a.toNat) (by kernel_rfl)
end scan_letter
namespace scan_digit
def sp : Spec := mkSp ⟨[(0, Sb)], []⟩ ⟨[(0, SB)], []⟩ g
noncomputable def T (ad : LQ) := mkF ad 38 [] sp [] t0 t0 t0 9 [] f (fun a => 1000 + a.toNat) (by kernel_rfl)
end scan_digit
namespace scan_word
def sp : Spec := mkSp ⟨[(0, Ss)], []⟩ ⟨[(0, Ss)], []⟩ g
noncomputable def T (ad : LQ) := mkF ad 37 [] sp [scan_letter.T ad, scan_digit.T ad] (fun n => tj 3 ⟨[(0, Ss), (3, Si)], []⟩ (fun ms => j3 n (l2 n ms.head!)) <| tj 4 ⟨[(0, Ss), (3, Si)], []⟩ (fun _ => j4 n) <| tn) (fun n => tl 2 ⟨[(0, Ss), (3, Si)], []⟩ (fun _ => l2 n) <| tn) t0 25 [] f (fun a => 1000 + a.length) (by kernel_rfl)
end scan_word
namespace internal_strconv_lower
def sp : Spec := mkSp ⟨[(0, Sb)], []⟩ ⟨[(0, Sb)], []⟩ g
noncomputable def T (ad : LQ) := mkF ad 152 [] sp [] t0 t0 t0 5 [] f (fun a => 1000 + a.toNat) (by kernel_rfl)
end internal_strconv_lower
namespace internal_strconv_ParseUint
def sp : Spec := mkSp ⟨[(0, Ss), (1, Si), (2, Si)], []⟩ ⟨[(0, .c kq), (1, .c (.ifo 168 .i64))], []⟩ g
noncomputable def T (ad : LQ) := mkF ad 106 [] sp [internal_strconv_lower.T ad, internal_strconv_underscoreOK.T ad] (fun n => tj 55 ⟨[(1, Si), (8, SB), (9, Ss), (10, .c kq), (11, .c kq), (12, SB), (13, .c kq), (99, .c (.sl (.int .u8))), (100, Si), (101, Si)], []⟩ (fun ms => j55 n (l36 n ms.head!)) <| tj 46 ⟨[(1, Si), (8, SB), (9, Ss), (10, .c kq), (11, .c kq), (12, SB), (13, .c kq), (16, Sb), (99, .c (.sl (.int .u8))), (100, Si), (101, Si)], []⟩ (fun ms => j46 n (l36 n ms.head!)) <| tj 32 ⟨[(0, Ss), (1, Si), (2, Si), (8, SB), (9, Ss), (10, .c kq)], []⟩ (fun _ => j32 n) <| tj 25 ⟨[(0, Ss), (1, Si), (2, Si), (8, SB), (9, Ss)], []⟩ (fun _ => j25 n) <| tj 21 ⟨[(0, Ss), (1, Si), (2, Si), (8, SB), (9, Ss)], []⟩ (fun _ => j21 n) <| tj 17 ⟨[(0, Ss), (1, Si), (2, Si), (8, SB), (9, Ss)], []⟩ (fun _ => j17 n) <| tj 20 ⟨[(0, Ss), (1, Si), (2, Si), (8, SB), (9, Ss)], []⟩ (fun _ => j20 n) <| tj 11 ⟨[(0, Ss), (1, Si), (2, Si), (8, SB), (9, Ss)], []⟩ (fun _ => j11 n) <| tj 9 ⟨[(0, Ss), (1, Si), (2, Si), (8, SB), (9, Ss)], []⟩ (fun _ => j9 n) <| tn) (fun n => tl 36 ⟨[(1, Si), (8, SB), (9, Ss), (10, .c kq), (11, .c kq), (12, SB), (13, .c kq), (99, .c (.sl (.int .u8))), (100, Si), (101, Si)], []⟩ (fun _ => l36 n) <| tn) t0 172 [] f (fun a b c => 1000 + a.length + b.toNat + c.toNat) (by kernel_rfl)
end internal_strconv_ParseUint
namespace strconv_ParseUint
def sp : Spec := mkSp ⟨[(0, Ss), (1, Si), (2, Si)], []⟩ ⟨[(0, .c kq), (1, Se)], []⟩ g
noncomputable def T (ad : LQ) := mkF ad 69 [] sp [internal_strconv_ParseUint.T ad, strconv_toError.T ad] t0 t0 t0 26 [] f (fun a b c => 1000 + a.length + b.toNat + c.toNat) (by kernel_rfl)
end strconv_ParseUint
namespace scan_number
def sp : Spec := mkSp ⟨[(0, Ss)], []⟩ ⟨[(0, Su), (1, SB)], []⟩ g
noncomputable def T (ad : LQ) := mkF ad 39 [] sp [strings_CutPrefix.T ad, strings_Contains.T ad, strconv_ParseUint.T ad] (fun n => tj 5 ⟨[(0, Ss), (4, Si)], []⟩ (fun _ => j5 n) <| tn) t0 t0 28 [] f (fun a => 1000 + a.length) (by kernel_rfl)
end scan_number
namespace scan_Line
def sp : Spec := mkSp ⟨[(0, Ss)], []⟩ ⟨[(0, .c (.row 48 u0)), (1, Si)], []⟩ g
noncomputable def T (ad : LQ) := mkF ad 18 [] sp [scan_letter.T ad, scan_word.T ad, scan_digit.T ad, scan_number.T ad, strings_IndexByte.T ad] (fun n => tj 23 ⟨[(0, Ss), (4, .c (.row 48 u0)), (5, Si), (6, Sp 0 0)], [(some 3, [ki, ki, .str, ku])]⟩ (fun ms => j23 n (g0 n ms.head!)) <| tn) t0 (fun n => tl 0 ⟨[(0, Ss), (4, .c (.row 48 u0)), (5, Si)], []⟩ (fun _ => g0 n) <| tn) 108 [] f (fun a => 1000 + a.length) (by kernel_rfl)
end scan_Line
namespace name_Label
def sp : Spec := mkSp ⟨[(0, Ss)], []⟩ ⟨[(0, SB)], []⟩ g
noncomputable def T (ad : LQ) := mkF ad 42 [] sp [strings_Trim.T ad] (fun n => tj 9 ⟨[(0, Ss), (24, Si), (25, Si)], []⟩ (fun ms => j9 n (l4 n ms.head!)) <| tj 3 ⟨[(0, Ss)], []⟩ (fun _ => j3 n) <| tn) (fun n => tl 4 ⟨[(0, Ss), (24, Si), (25, Si)], []⟩ (fun _ => l4 n) <| tn) t0 84 [] f (fun a => 1000 + a.length) (by kernel_rfl)
end name_Label
namespace stmt_parser_check
def sp : Spec := mkSp ⟨[(0, Sp 0 0), (1, SB)], [(some 0, [.sl u0, ki, ki])]⟩ ⟨[], [(none, [.sl u0, ki, ki])]⟩ g
noncomputable def T (ad : LQ) := mkF ad 41 [] sp [] t0 t0 t0 16 [] f (fun _ b c d => 1000 + b.length + c.toNat + d.toNat) (by kernel_rfl)
end stmt_parser_check
namespace stmt_dotted
def sp : Spec := mkSp ⟨[(0, Si)], []⟩ ⟨[(0, SB)], []⟩ g
noncomputable def T (ad : LQ) := mkF ad 44 [] sp [] t0 t0 t0 9 [] f (fun a => 1000 + a.toNat) (by kernel_rfl)
end stmt_dotted
namespace stmt_parser_peek
def sp : Spec := mkSp ⟨[(0, Sp 0 0), (1, Si)], [(some 0, [.sl u0, ki, ki])]⟩ ⟨[(0, Ss)], [(none, [.sl u0, ki, ki])]⟩ g
noncomputable def T (ad : LQ) := mkF ad 80 [] sp [] t0 t0 t0 48 [] f (fun a b c d => 1000 + a.toNat + b.length + c.toNat + d.toNat) (by kernel_rfl)
end stmt_parser_peek
namespace stmt_parser_take
def sp : Spec := mkSp ⟨[(0, Sp 0 0), (1, Si)], [(some 0, [.sl u0, ki, ki])]⟩ ⟨[(0, Ss)], [(none, [.sl u0, ki, ki])]⟩ g
noncomputable def T (ad : LQ) := mkF ad 46 [] sp [stmt_parser_peek.T ad] t0 t0 t0 17 [] f (fun a b c d => 1000 + a.toNat + b.length + c.toNat + d.toNat) (by kernel_rfl)
end stmt_parser_take
namespace internal_strconv_ParseInt
def sp : Spec := mkSp ⟨[(0, Ss), (1, Si), (2, Si)], []⟩ ⟨[(0, Si), (1, .c (.ifo 168 .i64))], []⟩ g
noncomputable def T (ad : LQ) := mkF ad 204 [] sp [internal_strconv_ParseUint.T ad] (fun n => tj 21 ⟨[(8, SB), (9, .c kq)], []⟩ (fun _ => j21 n) <| tj 19 ⟨[(8, SB), (9, .c kq), (10, .c kq)], []⟩ (fun _ => j19 n) <| tj 16 ⟨[(2, Si), (8, SB), (9, .c kq)], []⟩ (fun _ => j16 n) <| tj 14 ⟨[(2, Si), (8, SB), (9, .c kq)], []⟩ (fun _ => j14 n) <| tj 10 ⟨[(0, Ss), (1, Si), (2, Si), (8, SB)], []⟩ (fun _ => j10 n) <| tn) t0 t0 73 [] f (fun a b c => 1000 + a.length + b.toNat + c.toNat) (by kernel_rfl)
end internal_strconv_ParseInt
namespace internal_strconv_Atoi
def sp : Spec := mkSp ⟨[(0, Ss)], []⟩ ⟨[(0, Si), (1, .c (.ifo 168 .i64))], []⟩ g
noncomputable def T (ad : LQ) := mkF ad 168 [] sp [internal_strconv_ParseInt.T ad] (fun n => tj 8 ⟨[(0, Ss), (5, Ss)], []⟩ (fun _ => j8 n) <| tj 6 ⟨[(0, Ss), (5, Ss)], []⟩ (fun _ => j6 n) <| tj 20 ⟨[(0, Ss)], []⟩ (fun _ => j20 n) <| tn) (fun n => tl 10 ⟨[(5, Ss), (6, Si), (47, .c (.sl (.int .u8))), (48, Si), (49, Si)], []⟩ (fun _ => l10 n) <| tn) t0 77 [] f (fun a => 1000 + a.length) (by kernel_rfl)
end internal_strconv_Atoi
namespace strconv_Atoi
def sp : Spec := mkSp ⟨[(0, Ss)], []⟩ ⟨[(0, Si), (1, Se)], []⟩ g
noncomputable def T (ad : LQ) := mkF ad 126 [] sp [internal_strconv_Atoi.T ad, strconv_toError.T ad] t0 t0 t0 18 [] f (fun a => 1000 + a.length) (by kernel_rfl)
end strconv_Atoi
namespace name_RegName
def sp : Spec := mkSp ⟨[(0, Si)], []⟩ ⟨[(0, Ss)], []⟩ g
noncomputable def T (ad : LQ) := mkF ad 56 [] sp [strconv_Itoa.T ad] t0 t0 t0 12 [] f (fun a => 1000 + a.toNat) (by kernel_rfl)
end name_RegName
namespace name_Reg
def sp : Spec := mkSp ⟨[(0, Ss)], []⟩ ⟨[(0, Si), (1, SB)], []⟩ g
noncomputable def T (ad : LQ) := mkF ad 81 [] sp [strings_CutPrefix.T ad, strconv_Atoi.T ad, name_RegName.T ad] t0 t0 t0 31 [] f (fun a => 1000 + a.length) (by kernel_rfl)
end name_Reg
namespace stmt_parser_choose
def sp : Spec := mkSp ⟨[(0, Sp 0 0), (1, Sp 1 0)], [(some 0, [.sl u0, ki, ki]), (some 1, c0)]⟩ ⟨[], [(none, [.sl u0, ki, ki]), (none, c0)]⟩ g
noncomputable def T (ad : LQ) := mkF ad 47 [] sp [stmt_parser_peek.T ad, name_Reg.T ad] t0 t0 t0 50 [] f (fun a b c d e i j k _ o p => 1000 + a.length + b.toNat + c.toNat + d.toNat + e.toNat + i.toNat + j.toNat + k.toNat + o.length + p.length) (by kernel_rfl)
end stmt_parser_choose
namespace stmt_operands_1
def sp : Spec := mkSp ⟨[(0, Sp 0 0)], [(some 0, c0)]⟩ ⟨[(0, Sp 0 2)], [(none, c0)]⟩ g
noncomputable def T (ad : LQ) := mkF ad 74 [] sp [] t0 t0 t0 6 [] f (fun a b c d e _ j k => 1000 + a.toNat + b.toNat + c.toNat + d.toNat + e.toNat + j.length + k.length) (by kernel_rfl)
end stmt_operands_1
namespace stmt_operands_2
def sp : Spec := mkSp ⟨[(0, Sp 0 0)], [(some 0, c0)]⟩ ⟨[(0, Sp 0 3)], [(none, c0)]⟩ g
noncomputable def T (ad : LQ) := mkF ad 75 [] sp [] t0 t0 t0 6 [] f (fun a b c d e _ j k => 1000 + a.toNat + b.toNat + c.toNat + d.toNat + e.toNat + j.length + k.length) (by kernel_rfl)
end stmt_operands_2
namespace stmt_operands_3
def sp : Spec := mkSp ⟨[(0, Sp 0 0)], [(some 0, c0)]⟩ ⟨[(0, Sp 0 4)], [(none, c0)]⟩ g
noncomputable def T (ad : LQ) := mkF ad 76 [] sp [] t0 t0 t0 6 [] f (fun a b c d e _ j k => 1000 + a.toNat + b.toNat + c.toNat + d.toNat + e.toNat + j.length + k.length) (by kernel_rfl)
end stmt_operands_3
namespace stmt_register_1
def sp : Spec := mkSp ⟨[(0, Sp 0 0), (1, Sp 1 0), (2, .c (.pp .fn))], [(some 0, [.sl u0, ki, ki]), (some 1, c0)]⟩ ⟨[], [(none, [.sl u0, ki, ki]), (none, c0)]⟩ g
noncomputable def T (ad : LQ) := mkF ad 119 [] sp [stmt_parser_take.T ad, name_Reg.T ad, stmt_parser_check.T ad, stmt_operands_1.T ad, stmt_operands_2.T ad, stmt_operands_3.T ad] t0 t0 t0 21 [K.atA, K.atB, K.atC] f (fun _ b c d e i j k l _ p q => 1000 + b.length + c.toNat + d.toNat + e.toNat + i.toNat + j.toNat + k.toNat + l.toNat + p.length + q.length) (by kernel_rfl)
end stmt_register_1
namespace expr_parser_fail
def sp : Spec := mkSp ⟨[(0, Sp 0 0), (1, Si)], [(some 0, c1)]⟩ ⟨[], [(none, c1)]⟩ g
noncomputable def T (ad : LQ) := mkF ad 217 [] sp [] t0 t0 t0 13 [] f (fun a b c d e => 1000 + a.toNat + b.length + c.toNat + d.length + e.toNat) (by kernel_rfl)
end expr_parser_fail
namespace expr_parser_next
def sp : Spec := mkSp ⟨[(0, Sp 0 0)], [(some 0, c1)]⟩ ⟨[(0, .agg [ki, ki, .str, ku]), (1, SB)], [(none, c1)]⟩ g
noncomputable def T (ad : LQ) := mkF ad 218 [] sp [] t0 t0 t0 39 [] f (fun a b c d => 1000 + a.length + b.toNat + c.length + d.toNat) (by kernel_rfl)
end expr_parser_next
namespace expr_parser_sign
def sp : Spec := mkSp ⟨[(0, Sp 0 0), (1, .c (.sl .str))], [(some 0, c1)]⟩ ⟨[(0, Ss), (1, SB)], [(none, c1)]⟩ g
noncomputable def T (ad : LQ) := mkF ad 215 [] sp [expr_parser_next.T ad] (fun n => tj 8 ⟨[(0, Sp 0 0), (6, Sp 1 0), (7, SB), (15, .c (.sl .str)), (16, Si), (17, Si)], [(none, c1), (some 1, [ki, ki, .str, ku])]⟩ (fun ms => j8 n (l3 n ms.head!)) <| tn) (fun n => tl 3 ⟨[(0, Sp 0 0), (6, Sp 1 0), (7, SB), (15, .c (.sl .str)), (16, Si), (17, Si)], [(none, c1), (some 1, [ki, ki, .str, ku])]⟩ (fun _ => l3 n) <| tn) t0 42 [] f (fun a b c d e => 1000 + a.length + b.length + c.toNat + d.length + e.toNat) (by kernel_rfl)
end expr_parser_sign
namespace expr_parser_put
def sp : Spec := mkSp ⟨[(0, Sp 0 0), (1, .agg [ki, ku, .str])], [(some 0, c1)]⟩ ⟨[], [(none, c1)]⟩ g
noncomputable def T (ad : LQ) := mkF ad 216 [] sp [] t0 t0 t0 14 [] f (fun a b c d e i j => 1000 + a.toNat + b.toNat + c.length + d.length + e.toNat + i.length + j.toNat) (by kernel_rfl)
end expr_parser_put
def expr_parser_sum.spq (q : Nat) : Spec := mkSp ⟨[(0, Sp 0 0), (1, Si)], [(some 0, c1)]⟩ ⟨[], [(none, c1)]⟩ (rec_expr_parser_sum q).expr_parser_sum
def expr_parser_row_c200.spq (q : Nat) : Spec := mkSp ⟨[(0, Sp 0 0), (1, .clo 200 [.ptr 1 0, .ptr 2 0]), (2, .c (.sl .str))], [(some 0, c1), (some 1, [.ptr 0 0]), (some 2, [ki])]⟩ ⟨[], [(none, c1), (none, [.ptr 0 0]), (none, [ki])]⟩ (rec_expr_parser_sum q).expr_parser_row_c200
def expr_parser_sum_1.spq (q : Nat) : Spec := mkSp ⟨[(0, Sp 0 0), (1, Sp 1 0)], [(some 0, [.ptr 2 0]), (some 1, [ki]), (some 2, c1)]⟩ ⟨[], [(none, [.ptr 2 0]), (none, [ki]), (none, c1)]⟩ (rec_expr_parser_sum q).expr_parser_sum_1
def expr_parser_row_c201.spq (q : Nat) : Spec := mkSp ⟨[(0, Sp 0 0), (1, .clo 201 [.ptr 1 0, .ptr 2 0]), (2, .c (.sl .str))], [(some 0, c1), (some 1, [.ptr 0 0]), (some 2, [ki])]⟩ ⟨[], [(none, c1), (none, [.ptr 0 0]), (none, [ki])]⟩ (rec_expr_parser_sum q).expr_parser_row_c201
def expr_parser_sum_1_1.spq (q : Nat) : Spec := mkSp ⟨[(0, Sp 0 0), (1, Sp 1 0)], [(some 0, [.ptr 2 0]), (some 1, [ki]), (some 2, c1)]⟩ ⟨[], [(none, [.ptr 2 0]), (none, [ki]), (none, c1)]⟩ (rec_expr_parser_sum q).expr_parser_sum_1_1
def expr_parser_factor.spq (q : Nat) : Spec := mkSp ⟨[(0, Sp 0 0), (1, Si)], [(some 0, c1)]⟩ ⟨[], [(none, c1)]⟩ (rec_expr_parser_sum q).expr_parser_factor
namespace expr_parser_sum
theorem step (q : Nat) (ih : Sat P (LW ad) 165 (expr_parser_sum.spq q) ∧ Sat P (LW ad) 199 (expr_parser_row_c200.spq q) ∧ Sat P (LW ad) 200 (expr_parser_sum_1.spq q) ∧ Sat P (LW ad) 199 (expr_parser_row_c201.spq q) ∧ Sat P (LW ad) 201 (expr_parser_sum_1_1.spq q) ∧ Sat P (LW ad) 202 (expr_parser_factor.spq q) ∧ True) : Sat P (LW ad) 165 (spq (q + 1)) := sat_q mixed types_ok maps_ok 165 (spq (q + 1)) [((199, [200]), expr_parser_row_c200.spq q)] (specs_cons ih.2.1 (enter_of (by kernel_rfl)) specs_nil) t0 t0 t0 8 [] (fun n => f n (rec_expr_parser_sum q)) (fun a b c d e => 1000 + a.toNat + b.length + c.toNat + d.length + e.toNat) (by kernel_rfl) (by kernel_rfl)
end expr_parser_sum
namespace expr_parser_row_c200
theorem step (q : Nat) (ih : Sat P (LW ad) 165 (expr_parser_sum.spq q) ∧ Sat P (LW ad) 199 (expr_parser_row_c200.spq q) ∧ Sat P (LW ad) 200 (expr_parser_sum_1.spq q) ∧ Sat P (LW ad) 199 (expr_parser_row_c201.spq q) ∧ Sat P (LW ad) 201 (expr_parser_sum_1_1.spq q) ∧ Sat P (LW ad) 202 (expr_parser_factor.spq q) ∧ True) : Sat P (LW ad) 199 (spq (q + 1)) := sat_q mixed types_ok maps_ok 199 (spq (q + 1)) [((200, []), expr_parser_sum_1.spq q), (expr_parser_sign.T ad).kv, (expr_parser_put.T ad).kv] (specs_cons ih.2.2.1 (enter_of (by kernel_rfl)) (specs_T (expr_parser_sign.T ad) (specs_T (expr_parser_put.T ad) specs_nil))) t0 (fun n => tl 1 ⟨[(0, Sp 0 0), (1, .clo 200 [.ptr 1 0, .ptr 2 0]), (2, .c (.sl .str))], [(none, c1), (none, [.ptr 0 0]), (none, [ki])]⟩ (fun _ => l1 n (rec_expr_parser_sum q)) <| tn) t0 26 [] (fun n => f n (rec_expr_parser_sum q)) (fun a b c d e i => 1000 + a.length + b.length + c.toNat + d.length + e.toNat + i.toNat) (by kernel_rfl) (by kernel_rfl)
end expr_parser_row_c200
namespace expr_parser_sum_1
theorem step (q : Nat) (ih : Sat P (LW ad) 165 (expr_parser_sum.spq q) ∧ Sat P (LW ad) 199 (expr_parser_row_c200.spq q) ∧ Sat P (LW ad) 200 (expr_parser_sum_1.spq q) ∧ Sat P (LW ad) 199 (expr_parser_row_c201.spq q) ∧ Sat P (LW ad) 201 (expr_parser_sum_1_1.spq q) ∧ Sat P (LW ad) 202 (expr_parser_factor.spq q) ∧ True) : Sat P (LW ad) 200 (spq (q + 1)) := sat_q mixed types_ok maps_ok 200 (spq (q + 1)) [((199, [201]), expr_parser_row_c201.spq q)] (specs_cons ih.2.2.2.1 (enter_of (by kernel_rfl)) specs_nil) t0 t0 t0 6 [] (fun n => f n (rec_expr_parser_sum q)) (fun a b c d e => 1000 + a.toNat + b.length + c.toNat + d.length + e.toNat) (by kernel_rfl) (by kernel_rfl)
end expr_parser_sum_1
namespace expr_parser_row_c201
theorem step (q : Nat) (ih : Sat P (LW ad) 165 (expr_parser_sum.spq q) ∧ Sat P (LW ad) 199 (expr_parser_row_c200.spq q) ∧ Sat P (LW ad) 200 (expr_parser_sum_1.spq q) ∧ Sat P (LW ad) 199 (expr_parser_row_c201.spq q) ∧ Sat P (LW ad) 201 (expr_parser_sum_1_1.spq q) ∧ Sat P (LW ad) 202 (expr_parser_factor.spq q) ∧ True) : Sat P (LW ad) 199 (spq (q + 1)) := sat_q mixed types_ok maps_ok 199 (spq (q + 1)) [((201, []), expr_parser_sum_1_1.spq q), (expr_parser_sign.T ad).kv, (expr_parser_put.T ad).kv] (specs_cons ih.2.2.2.2.1 (enter_of (by kernel_rfl)) (specs_T (expr_parser_sign.T ad) (specs_T (expr_parser_put.T ad) specs_nil))) t0 (fun n => tl 1 ⟨[(0, Sp 0 0), (1, .clo 201 [.ptr 1 0, .ptr 2 0]), (2, .c (.sl .str))], [(none, c1), (none, [.ptr 0 0]), (none, [ki])]⟩ (fun _ => l1 n (rec_expr_parser_sum q)) <| tn) t0 26 [] (fun n => f n (rec_expr_parser_sum q)) (fun a b c d e i => 1000 + a.length + b.length + c.toNat + d.length + e.toNat + i.toNat) (by kernel_rfl) (by kernel_rfl)
end expr_parser_row_c201
namespace expr_parser_sum_1_1
theorem step (q : Nat) (ih : Sat P (LW ad) 165 (expr_parser_sum.spq q) ∧ Sat P (LW ad) 199 (expr_parser_row_c200.spq q) ∧ Sat P (LW ad) 200 (expr_parser_sum_1.spq q) ∧ Sat P (LW ad) 199 (expr_parser_row_c201.spq q) ∧ Sat P (LW ad) 201 (expr_parser_sum_1_1.spq q) ∧ Sat P (LW ad) 202 (expr_parser_factor.spq q) ∧ True) : Sat P (LW ad) 201 (spq (q + 1)) := sat_q mixed types_ok maps_ok 201 (spq (q + 1)) [((202, []), expr_parser_factor.spq q)] (specs_cons ih.2.2.2.2.2.1 (enter_of (by kernel_rfl)) specs_nil) t0 t0 t0 5 [] (fun n => f n (rec_expr_parser_sum q)) (fun a b c d e => 1000 + a.toNat + b.length + c.toNat + d.length + e.toNat) (by kernel_rfl) (by kernel_rfl)
end expr_parser_sum_1_1
namespace expr_parser_factor
theorem step (q : Nat) (ih : Sat P (LW ad) 165 (expr_parser_sum.spq q) ∧ Sat P (LW ad) 199 (expr_parser_row_c200.spq q) ∧ Sat P (LW ad) 200 (expr_parser_sum_1.spq q) ∧ Sat P (LW ad) 199 (expr_parser_row_c201.spq q) ∧ Sat P (LW ad) 201 (expr_parser_sum_1_1.spq q) ∧ Sat P (LW ad) 202 (expr_parser_factor.spq q) ∧ True) : Sat P (LW ad) 202 (spq (q + 1)) := sat_q mixed types_ok maps_ok 202 (spq (q + 1)) [(expr_parser_fail.T ad).kv, (expr_parser_sign.T ad).kv, ((202, []), expr_parser_factor.spq q), (expr_parser_put.T ad).kv, ((165, []), expr_parser_sum.spq q), (expr_parser_next.T ad).kv, (name_Label.T ad).kv] (specs_T (expr_parser_fail.T ad) (specs_T (expr_parser_sign.T ad) (specs_cons ih.2.2.2.2.2.1 (enter_of (by kernel_rfl)) (specs_T (expr_parser_put.T ad) (specs_cons ih.1 (enter_of (by kernel_rfl)) (specs_T (expr_parser_next.T ad) (specs_T (name_Label.T ad) specs_nil))))))) (fun n => tj 19 ⟨[(0, Sp 0 0)], [(none, c1)]⟩ (fun _ => j19 n (rec_expr_parser_sum q)) <| tn) t0 t0 94 [] (fun n => f n (rec_expr_parser_sum q)) (fun a b c d e => 1000 + a.toNat + b.length + c.toNat + d.length + e.toNat) (by kernel_rfl) (by kernel_rfl)
end expr_parser_factor
theorem rec_expr_parser_sum_sat : ∀ q, Sat P (LW ad) 165 (expr_parser_sum.spq q) ∧ Sat P (LW ad) 199 (expr_parser_row_c200.spq q) ∧ Sat P (LW ad) 200 (expr_parser_sum_1.spq q) ∧ Sat P (LW ad) 199 (expr_parser_row_c201.spq q) ∧ Sat P (LW ad) 201 (expr_parser_sum_1_1.spq q) ∧ Sat P (LW ad) 202 (expr_parser_factor.spq q) ∧ True
 | 0 => ⟨sat_none fun _ => rfl, sat_none fun _ => rfl, sat_none fun _ => rfl, sat_none fun _ => rfl, sat_none fun _ => rfl, sat_none fun _ => rfl, trivial⟩
 | q + 1 => ⟨expr_parser_sum.step q (rec_expr_parser_sum_sat q), expr_parser_row_c200.step q (rec_expr_parser_sum_sat q), expr_parser_sum_1.step q (rec_expr_parser_sum_sat q), expr_parser_row_c201.step q (rec_expr_parser_sum_sat q), expr_parser_sum_1_1.step q (rec_expr_parser_sum_sat q), expr_parser_factor.step q (rec_expr_parser_sum_sat q), trivial⟩
def expr_parser_sum.sp : Spec := mkSp ⟨[(0, Sp 0 0), (1, Si)], [(some 0, c1)]⟩ ⟨[], [(none, c1)]⟩ expr_parser_sum.g
noncomputable def expr_parser_sum.T (ad : LQ) : TF P (LW ad) := ⟨165, [], expr_parser_sum.sp, sat_fq (F := fun q => (rec_expr_parser_sum q).expr_parser_sum) (fun a b c d e => 1000 + a.toNat + b.length + c.toNat + d.length + e.toNat) (fun q => (rec_expr_parser_sum_sat q).1) (fun _ => by kernel_rfl), enter_of (by kernel_rfl)⟩
def expr_parser_row_c200.sp : Spec := mkSp ⟨[(0, Sp 0 0), (1, .clo 200 [.ptr 1 0, .ptr 2 0]), (2, .c (.sl .str))], [(some 0, c1), (some 1, [.ptr 0 0]), (some 2, [ki])]⟩ ⟨[], [(none, c1), (none, [.ptr 0 0]), (none, [ki])]⟩ expr_parser_row_c200.g
noncomputable def expr_parser_row_c200.T (ad : LQ) : TF P (LW ad) := ⟨199, [200], expr_parser_row_c200.sp, sat_fq (F := fun q => (rec_expr_parser_sum q).expr_parser_row_c200) (fun a b c d e i => 1000 + a.length + b.length + c.toNat + d.length + e.toNat + i.toNat) (fun q => (rec_expr_parser_sum_sat q).2.1) (fun _ => by kernel_rfl), enter_of (by kernel_rfl)⟩
def expr_parser_sum_1.sp : Spec := mkSp ⟨[(0, Sp 0 0), (1, Sp 1 0)], [(some 0, [.ptr 2 0]), (some 1, [ki]), (some 2, c1)]⟩ ⟨[], [(none, [.ptr 2 0]), (none, [ki]), (none, c1)]⟩ expr_parser_sum_1.g
noncomputable def expr_parser_sum_1.T (ad : LQ) : TF P (LW ad) := ⟨200, [], expr_parser_sum_1.sp, sat_fq (F := fun q => (rec_expr_parser_sum q).expr_parser_sum_1) (fun a b c d e => 1000 + a.toNat + b.length + c.toNat + d.length + e.toNat) (fun q => (rec_expr_parser_sum_sat q).2.2.1) (fun _ => by kernel_rfl), enter_of (by kernel_rfl)⟩
def expr_parser_row_c201.sp : Spec := mkSp ⟨[(0, Sp 0 0), (1, .clo 201 [.ptr 1 0, .ptr 2 0]), (2, .c (.sl .str))], [(some 0, c1), (some 1, [.ptr 0 0]), (some 2, [ki])]⟩ ⟨[], [(none, c1), (none, [.ptr 0 0]), (none, [ki])]⟩ expr_parser_row_c201.g
noncomputable def expr_parser_row_c201.T (ad : LQ) : TF P (LW ad) := ⟨199, [201], expr_parser_row_c201.sp, sat_fq (F := fun q => (rec_expr_parser_sum q).expr_parser_row_c201) (fun a b c d e i => 1000 + a.length + b.length + c.toNat + d.length + e.toNat + i.toNat) (fun q => (rec_expr_parser_sum_sat q).2.2.2.1) (fun _ => by kernel_rfl), enter_of (by kernel_rfl)⟩
def expr_parser_sum_1_1.sp : Spec := mkSp ⟨[(0, Sp 0 0), (1, Sp 1 0)], [(some 0, [.ptr 2 0]), (some 1, [ki]), (some 2, c1)]⟩ ⟨[], [(none, [.ptr 2 0]), (none, [ki]), (none, c1)]⟩ expr_parser_sum_1_1.g
noncomputable def expr_parser_sum_1_1.T (ad : LQ) : TF P (LW ad) := ⟨201, [], expr_parser_sum_1_1.sp, sat_fq (F := fun q => (rec_expr_parser_sum q).expr_parser_sum_1_1) (fun a b c d e => 1000 + a.toNat + b.length + c.toNat + d.length + e.toNat) (fun q => (rec_expr_parser_sum_sat q).2.2.2.2.1) (fun _ => by kernel_rfl), enter_of (by kernel_rfl)⟩
def expr_parser_factor.sp : Spec := mkSp ⟨[(0, Sp 0 0), (1, Si)], [(some 0, c1)]⟩ ⟨[], [(none, c1)]⟩ expr_parser_factor.g
noncomputable def expr_parser_factor.T (ad : LQ) : TF P (LW ad) := ⟨202, [], expr_parser_factor.sp, sat_fq (F := fun q => (rec_expr_parser_sum q).expr_parser_factor) (fun a b c d e => 1000 + a.toNat + b.length + c.toNat + d.length + e.toNat) (fun q => (rec_expr_parser_sum_sat q).2.2.2.2.2.1) (fun _ => by kernel_rfl), enter_of (by kernel_rfl)⟩
namespace expr_Parse
def sp : Spec := mkSp ⟨[(0, .c (.sl u0)), (1, Si)], []⟩ ⟨[(0, .c (.row 54 u1)), (1, Si), (2, Si)], []⟩ g
noncomputable def T (ad : LQ) := mkF ad 122 [] sp [expr_parser_sum.T ad] (fun n => tj 5 ⟨[(7, Sp 0 0)], [(some 0, c1)]⟩ (fun _ => j5 n) <| tn) t0 t0 47 [] f (fun a b => 1000 + a.length + b.toNat) (by kernel_rfl)
end expr_Parse
namespace stmt_number_1
def sp : Spec := mkSp ⟨[(0, Sp 0 0), (1, Sp 1 0), (2, .c (.pp .str))], [(some 0, [.sl u0, ki, ki]), (some 1, c0)]⟩ ⟨[], [(none, [.sl u0, ki, ki]), (none, c0)]⟩ g
noncomputable def T (ad : LQ) := mkF ad 121 [] sp [stmt_parser_take.T ad, stmt_parser_check.T ad, expr_Parse.T ad] (fun n => tj 2 ⟨[(0, Sp 0 0), (1, Sp 1 0)], [(none, [.sl u0, ki, ki]), (none, c0)]⟩ (fun _ => j2 n) <| tn) t0 t0 40 [] f (fun a b c d e i j k l _ p q => 1000 + a.length + b.length + c.toNat + d.toNat + e.toNat + i.toNat + j.toNat + k.toNat + l.toNat + p.length + q.length) (by kernel_rfl)
end stmt_number_1
namespace le_is
def sp : Spec := mkSp ⟨[(0, Sb), (1, SB)], []⟩ ⟨[(0, SB)], []⟩ g
noncomputable def T (ad : LQ) := mkF ad 86 [] sp [] (fun n => tj 4 ⟨[(0, Sb), (1, SB)], []⟩ (fun _ => j4 n) <| tn) t0 t0 32 [] f (fun a _ => 1000 + a.toNat) (by kernel_rfl)
end le_is
namespace le_Name
def sp : Spec := mkSp ⟨[(0, Ss)], []⟩ ⟨[(0, SB)], []⟩ g
noncomputable def T (ad : LQ) := mkF ad 55 [] sp [le_is.T ad, strings_Trim.T ad] t0 (fun n => tl 4 ⟨[(0, Ss), (14, Si), (15, Si)], []⟩ (fun _ => l4 n) <| tn) t0 47 [] f (fun a => 1000 + a.length) (by kernel_rfl)
end le_Name
namespace stmt_operands_4
def sp : Spec := mkSp ⟨[(0, Sp 0 0), (1, Sp 1 0)], [(some 0, [.sl u0, ki, ki]), (some 1, c0)]⟩ ⟨[], [(none, [.sl u0, ki, ki]), (none, c0)]⟩ g
noncomputable def T (ad : LQ) := mkF ad 78 [] sp [stmt_parser_take.T ad, le_Name.T ad, stmt_parser_check.T ad] t0 t0 t0 16 [] f (fun a b c d e i j k _ o p => 1000 + a.length + b.toNat + c.toNat + d.toNat + e.toNat + i.toNat + j.toNat + k.toNat + o.length + p.length) (by kernel_rfl)
end stmt_operands_4
namespace stmt_Parse
def sp : Spec := mkSp ⟨[(0, .c (.sl u0))], []⟩ ⟨[(0, Ss), (1, .agg c0), (2, Si)], []⟩ g
noncomputable def T (ad : LQ) := mkF ad 19 [] sp [name_Label.T ad, stmt_parser_check.T ad, name_Of.T ad, stmt_dotted.T ad, stmt_operands.T ad, stmt_parser_take.T ad, stmt_parser_choose.T ad, stmt_register_1.T ad, stmt_number_1.T ad, stmt_operands_4.T ad] (fun n => tj 20 ⟨[(0, .c (.sl u0)), (2, Ss), (3, Sp 0 0), (5, Sp 1 0), (8, Si), (11, Si), (116, Si), (117, Si)], [(some 2, c0), (some 3, [.sl u0, ki, ki])]⟩ (fun ms => j20 n (l13 n ms.head!)) <| tj 19 ⟨[(0, .c (.sl u0)), (2, Ss), (3, Sp 0 0), (5, Sp 1 0), (8, Si), (11, Si), (12, Si), (116, Si), (117, Si)], [(some 2, c0), (some 3, [.sl u0, ki, ki])]⟩ (fun ms => j19 n (l13 n ms.head!)) <| tj 17 ⟨[(0, .c (.sl u0)), (2, Ss), (3, Sp 0 0), (5, Sp 1 0), (8, Si), (11, Si), (12, Si), (116, Si), (117, Si)], [(some 2, c0), (some 3, [.sl u0, ki, ki])]⟩ (fun ms => j17 n (l13 n ms.head!)) <| tj 22 ⟨[(2, Ss), (3, Sp 0 0), (5, Sp 1 0)], [(some 1, c0), (some 2, [.sl u0, ki, ki])]⟩ (fun _ => j22 n) <| tj 9 ⟨[(0, .c (.sl u0)), (2, Ss), (3, Sp 0 0), (5, Sp 1 0), (7, Si), (8, Si), (9, SB)], [(some 2, c0), (some 3, [.sl u0, ki, ki])]⟩ (fun _ => j9 n) <| tj 5 ⟨[(0, .c (.sl u0)), (2, Ss), (3, Sp 0 0), (5, Sp 1 0)], [(some 2, c0), (some 3, [.sl u0, ki, ki])]⟩ (fun _ => j5 n) <| tn) (fun n => tl 13 ⟨[(0, .c (.sl u0)), (2, Ss), (3, Sp 0 0), (5, Sp 1 0), (8, Si), (11, Si), (116, Si), (117, Si)], [(some 2, c0), (some 3, [.sl u0, ki, ki])]⟩ (fun _ => l13 n) <| tn) t0 165 [K.rdA, K.rdB, K.rdC, K.rdE, K.rdQ, K.rdN] f (fun a => 1000 + a.length) (by kernel_rfl)
end stmt_Parse
namespace text_one
def sp : Spec := mkSp ⟨[(0, Ss)], []⟩ ⟨[(0, .agg c2), (1, Si)], []⟩ g
noncomputable def T (ad : LQ) := mkF ad 35 [] sp [scan_Line.T ad, stmt_Parse.T ad] t0 t0 t0 27 [] f (fun a => 1000 + a.length) (by kernel_rfl)
end text_one
namespace text_each_string_api_Line
def sp : Spec := mkSp ⟨[(0, .c (.sl .str)), (1, .c (.raw (.func (.func 35) #[] #[])))], []⟩ ⟨[(0, .c (.row 39 u2)), (1, Si), (2, Si)], []⟩ g
noncomputable def T (ad : LQ) := mkF ad 34 [] sp [text_one.T ad] t0 (fun n => tl 5 ⟨[(1, .c (.raw (.func (.func 35) #[] #[]))), (7, .c (.row 39 u2)), (15, .c (.sl .str)), (16, Si), (17, Si)], []⟩ (fun _ => l5 n) <| tn) t0 39 [] f (fun a => 1000 + a.length) (by kernel_rfl)
end text_each_string_api_Line
namespace text_Parse
def sp : Spec := mkSp ⟨[(0, Ss)], []⟩ ⟨[(0, .c (.row 39 u2)), (1, Si), (2, Si)], []⟩ g
noncomputable def T (ad : LQ) := mkF ad 16 [] sp [strings_Split.T ad, text_each_string_api_Line.T ad] (fun n => tj 7 ⟨[(5, .c (.sl .str))], []⟩ (fun _ => j7 n) <| tn) t0 t0 28 [] f (fun a => 1000 + a.length) (by kernel_rfl)
end text_Parse
namespace rivetlaw18_shown
def sp : Spec := mkSp ⟨[], []⟩ ⟨[(0, SB)], []⟩ g
noncomputable def T (ad : LQ) := mkF ad 14 [] sp [text_Parse.T ad] t0 t0 t0 36 [] f (1000 : Nat) (by kernel_rfl)
end rivetlaw18_shown
namespace rivetref07_Fit
def sp : Spec := mkSp ⟨[(0, Ss)], []⟩ ⟨[(0, Ss)], []⟩ g
noncomputable def T (ad : LQ) := mkF ad 49 [] sp [] t0 (fun n => tl 4 ⟨[(0, Ss), (3, Ss), (4, Ss), (5, Si)], []⟩ (fun _ => l4 n) <| tn) t0 39 [] f (fun a => 1000 + a.length) (by kernel_rfl)
end rivetref07_Fit
namespace rivetref13_Fit
def sp : Spec := mkSp ⟨[(0, Ss)], []⟩ ⟨[(0, Ss)], []⟩ g
noncomputable def T (ad : LQ) := mkF ad 22 [] sp [rivetref07_Fit.T ad] t0 t0 t0 17 [] f (fun a => 1000 + a.length) (by kernel_rfl)
end rivetref13_Fit
namespace rivetref15_Fit
def sp : Spec := mkSp ⟨[(0, .c (.sl u1))], []⟩ ⟨[(0, .c (.row 54 u1))], []⟩ g
noncomputable def T (ad : LQ) := mkF ad 48 [] sp [rivetref13_Fit.T ad] (fun n => tj 18 ⟨[(0, .c (.sl u1)), (3, .c (.row 54 u1)), (4, Si), (5, Si), (6, Sp 0 0)], [(some 4, [ki, ku, .str])]⟩ (fun ms => j18 n (l4 n ms.head!)) <| tj 9 ⟨[(0, .c (.sl u1)), (3, .c (.row 54 u1)), (4, Si), (5, Si), (6, Sp 0 0)], [(some 4, [ki, ku, .str])]⟩ (fun ms => j9 n (l4 n ms.head!)) <| tj 19 ⟨[(3, .c (.row 54 u1)), (4, Si)], []⟩ (fun _ => j19 n) <| tn) (fun n => tl 21 ⟨[(3, .c (.row 54 u1)), (4, Si)], []⟩ (fun _ => l21 n) <| tl 4 ⟨[(0, .c (.sl u1)), (3, .c (.row 54 u1)), (4, Si), (5, Si)], []⟩ (fun _ => l4 n) <| tn) t0 97 [] f (fun a => 1000 + a.length) (by kernel_rfl)
end rivetref15_Fit
namespace rivetref03_Fit
def sp : Spec := mkSp ⟨[(0, .agg c3)], []⟩ ⟨[(0, .agg c3)], []⟩ g
noncomputable def T (ad : LQ) := mkF ad 27 [] sp [] (fun n => tj 25 ⟨[(2, Sp 0 0), (3, Sp 1 0)], [(some 0, c3), (some 1, c3)]⟩ (fun _ => j25 n) <| tj 10 ⟨[(1, Sp 0 0), (2, Sp 1 0), (3, Sp 2 0), (4, Si)], [(some 0, c3), (some 1, c3), (some 2, c3)]⟩ (fun _ => j10 n) <| tj 9 ⟨[(1, Sp 0 0), (2, Sp 1 0), (3, Sp 2 0), (4, Si)], [(some 0, c3), (some 1, c3), (some 2, c3)]⟩ (fun _ => j9 n) <| tj 7 ⟨[(1, Sp 0 0), (2, Sp 1 0), (3, Sp 2 0), (4, Si)], [(some 0, c3), (some 1, c3), (some 2, c3)]⟩ (fun _ => j7 n) <| tj 19 ⟨[(1, Sp 0 0), (2, Sp 1 0), (3, Sp 2 0)], [(some 0, c3), (some 1, c3), (some 2, c3)]⟩ (fun _ => j19 n) <| tn) t0 t0 111 [] f (fun a b c d e i _ => 1000 + a.toNat + b.toNat + c.toNat + d.toNat + e.toNat + i.toNat) (by kernel_rfl)
end rivetref03_Fit
namespace rivetref17_Fit
def sp : Spec := mkSp ⟨[(0, .agg c0)], []⟩ ⟨[(0, .agg c0)], []⟩ g
noncomputable def T (ad : LQ) := mkF ad 21 [] sp [rivetref15_Fit.T ad, rivetref03_Fit.T ad, rivetref07_Fit.T ad] (fun n => tj 8 ⟨[(2, Sp 0 0), (6, Sp 1 0)], [(some 0, c0), (some 1, c0)]⟩ (fun _ => j8 n) <| tj 9 ⟨[(1, Sp 0 0), (2, Sp 1 0), (3, Si), (4, .c (.row 54 u1))], [(some 0, c0), (some 1, c0)]⟩ (fun _ => j9 n) <| tn) t0 t0 88 [] f (fun a b c d e _ j k => 1000 + a.toNat + b.toNat + c.toNat + d.toNat + e.toNat + j.length + k.length) (by kernel_rfl)
end rivetref17_Fit
namespace rivetref18_Fit
def sp : Spec := mkSp ⟨[(0, .c (.sl u2))], []⟩ ⟨[(0, .c (.row 39 u2))], []⟩ g
noncomputable def T (ad : LQ) := mkF ad 32 [] sp [rivetref17_Fit.T ad, rivetref13_Fit.T ad] (fun n => tj 8 ⟨[(0, .c (.sl u2)), (3, .c (.row 39 u2)), (4, Si), (5, Sp 0 0)], [(some 3, c2)]⟩ (fun ms => j8 n (l3 n ms.head!)) <| tn) (fun n => tl 3 ⟨[(0, .c (.sl u2)), (3, .c (.row 39 u2)), (4, Si)], []⟩ (fun _ => l3 n) <| tn) t0 51 [] f (fun a => 1000 + a.length) (by kernel_rfl)
end rivetref18_Fit
namespace stmt_numbered
def sp : Spec := mkSp ⟨[(0, Si)], []⟩ ⟨[(0, SB)], []⟩ g
noncomputable def T (ad : LQ) := mkF ad 53 [] sp [] t0 t0 t0 10 [] f (fun a => 1000 + a.toNat) (by kernel_rfl)
end stmt_numbered
namespace expr_needs
def sp : Spec := mkSp ⟨[(0, .agg [ki, ku, .str])], []⟩ ⟨[(0, Si), (1, SB)], []⟩ g
noncomputable def T (ad : LQ) := mkF ad 85 [] sp [name_Label.T ad] (fun n => tj 2 ⟨[(1, Sp 0 0), (4, SB)], [(some 0, [ki, ku, .str])]⟩ (fun _ => j2 n) <| tn) t0 t0 38 [] f (fun a b c => 1000 + a.toNat + b.toNat + c.length) (by kernel_rfl)
end expr_needs
namespace expr_Well
def sp : Spec := mkSp ⟨[(0, .c (.sl u1))], []⟩ ⟨[(0, SB)], []⟩ g
noncomputable def T (ad : LQ) := mkF ad 54 [] sp [expr_needs.T ad] t0 (fun n => tl 3 ⟨[(0, .c (.sl u1)), (3, Si), (8, .c (.sl u1)), (9, Si), (10, Si)], []⟩ (fun _ => l3 n) <| tn) t0 38 [] f (fun a => 1000 + a.length) (by kernel_rfl)
end expr_Well
namespace isa_between
def sp : Spec := mkSp ⟨[(0, Si), (1, Si), (2, Si)], []⟩ ⟨[(0, SB)], []⟩ g
noncomputable def T (ad : LQ) := mkF ad 88 [] sp [] t0 t0 t0 15 [] f (fun a b c => 1000 + a.toNat + b.toNat + c.toNat) (by kernel_rfl)
end isa_between
namespace isa_bit
def sp : Spec := mkSp ⟨[(0, SB)], []⟩ ⟨[(0, Su)], []⟩ g
noncomputable def T (ad : LQ) := mkF ad 176 [] sp [] t0 t0 t0 4 [] f (fun _ => (1000 : Nat)) (by kernel_rfl)
end isa_bit
namespace isa_head
def sp : Spec := mkSp ⟨[(0, Si), (1, SB), (2, SB)], []⟩ ⟨[(0, .agg [ki, ki, ki])], []⟩ g
noncomputable def T (ad : LQ) := mkF ad 134 [] sp [isa_bit.T ad] t0 t0 t0 19 [] f (fun a _ _ => 1000 + a.toNat) (by kernel_rfl)
end isa_head
namespace field_Set_1
def sp : Spec := mkSp ⟨[(0, Si), (1, Si), (2, Sp 0 0), (3, Sp 1 0)], [(some 2, [ku]), (some 3, [ku])]⟩ ⟨[], [(none, [ku]), (none, [ku])]⟩ g
noncomputable def T (ad : LQ) := mkF ad 209 [] sp [] t0 t0 t0 17 [] f (fun a b c d => 1000 + a.toNat + b.toNat + c.toNat + d.toNat) (by kernel_rfl)
end field_Set_1
namespace field_each_c209
def sp : Spec := mkSp ⟨[(0, Si), (1, Si), (2, .clo 209 [.ptr 0 0, .ptr 1 0])], [(some 2, [ku]), (some 3, [ku])]⟩ ⟨[], [(none, [ku]), (none, [ku])]⟩ g
noncomputable def T (ad : LQ) := mkF ad 172 [209] sp [field_Set_1.T ad] t0 (fun n => tl 2 ⟨[(0, Si), (1, Si), (2, .clo 209 [.ptr 0 0, .ptr 1 0]), (6, Si)], [(none, [ku]), (none, [ku])]⟩ (fun _ => l2 n) <| tn) t0 38 [] f (fun a b c d => 1000 + a.toNat + b.toNat + c.toNat + d.toNat) (by kernel_rfl)
end field_each_c209
namespace field_Set
def sp : Spec := mkSp ⟨[(0, Su), (1, Si), (2, Si), (3, Su)], []⟩ ⟨[(0, Su)], []⟩ g
noncomputable def T (ad : LQ) := mkF ad 175 [] sp [field_each_c209.T ad] t0 t0 t0 14 [] f (fun a b c d => 1000 + a.toNat + b.toNat + c.toNat + d.toNat) (by kernel_rfl)
end field_Set
namespace isa_lay
def sp : Spec := mkSp ⟨[(0, .c (.sl u3))], []⟩ ⟨[(0, Su)], []⟩ g
noncomputable def T (ad : LQ) := mkF ad 133 [] sp [field_Set.T ad] t0 (fun n => tl 3 ⟨[(3, Su), (6, .c (.sl u3)), (7, Si), (8, Si)], []⟩ (fun _ => l3 n) <| tn) t0 23 [] f (fun a => 1000 + a.length) (by kernel_rfl)
end isa_lay
namespace isa_word
def sp : Spec := mkSp ⟨[(0, .agg c3)], []⟩ ⟨[(0, Su)], []⟩ g
noncomputable def T (ad : LQ) := mkF ad 90 [] sp [isa_head.T ad, isa_lay.T ad] (fun n => tj 14 ⟨[(1, Sp 0 0), (6, Sp 1 0)], [(some 0, c3), (some 1, [ki, ki, ki])]⟩ (fun _ => j14 n) <| tn) t0 t0 97 [] f (fun a b c d e i _ => 1000 + a.toNat + b.toNat + c.toNat + d.toNat + e.toNat + i.toNat) (by kernel_rfl)
end isa_word
namespace field_Get_1
def sp : Spec := mkSp ⟨[(0, Si), (1, Si), (2, Sp 0 0), (3, Sp 1 0)], [(some 2, [ku]), (some 3, [ku])]⟩ ⟨[], [(none, [ku]), (none, [ku])]⟩ g
noncomputable def T (ad : LQ) := mkF ad 173 [] sp [] t0 t0 t0 14 [] f (fun a b c d => 1000 + a.toNat + b.toNat + c.toNat + d.toNat) (by kernel_rfl)
end field_Get_1
namespace field_each_c173
def sp : Spec := mkSp ⟨[(0, Si), (1, Si), (2, .clo 173 [.ptr 0 0, .ptr 1 0])], [(some 2, [ku]), (some 3, [ku])]⟩ ⟨[], [(none, [ku]), (none, [ku])]⟩ g
noncomputable def T (ad : LQ) := mkF ad 172 [173] sp [field_Get_1.T ad] t0 (fun n => tl 2 ⟨[(0, Si), (1, Si), (2, .clo 173 [.ptr 0 0, .ptr 1 0]), (6, Si)], [(none, [ku]), (none, [ku])]⟩ (fun _ => l2 n) <| tn) t0 38 [] f (fun a b c d => 1000 + a.toNat + b.toNat + c.toNat + d.toNat) (by kernel_rfl)
end field_each_c173
namespace field_Get
def sp : Spec := mkSp ⟨[(0, Su), (1, Si), (2, Si)], []⟩ ⟨[(0, Su)], []⟩ g
noncomputable def T (ad : LQ) := mkF ad 131 [] sp [field_each_c173.T ad] t0 t0 t0 13 [] f (fun a b c => 1000 + a.toNat + b.toNat + c.toNat) (by kernel_rfl)
end field_Get
namespace isa_read_1
def sp : Spec := mkSp ⟨[(0, Si), (1, Si), (2, .c (.pp (.int .u32)))], []⟩ ⟨[(0, Si)], []⟩ g
noncomputable def T (ad : LQ) := mkF ad 130 [] sp [field_Get.T ad] t0 t0 t0 11 [] f (fun a b c => 1000 + a.toNat + b.toNat + c.toNat) (by kernel_rfl)
end isa_read_1
namespace field_known
def sp : Spec := mkSp ⟨[(0, Si)], []⟩ ⟨[(0, Si)], []⟩ g
noncomputable def T (ad : LQ) := mkF ad 174 [] sp [] t0 t0 t0 6 [] f (fun a => 1000 + a.toNat) (by kernel_rfl)
end field_known
namespace field_Signed
def sp : Spec := mkSp ⟨[(0, Su), (1, Si)], []⟩ ⟨[(0, Si)], []⟩ g
noncomputable def T (ad : LQ) := mkF ad 132 [] sp [field_known.T ad] t0 t0 t0 16 [] f (fun a b => 1000 + a.toNat + b.toNat) (by kernel_rfl)
end field_Signed
namespace isa_read
def sp : Spec := mkSp ⟨[(0, Su)], []⟩ ⟨[(0, .agg c3)], []⟩ g
noncomputable def T (ad : LQ) := mkF ad 89 [] sp [isa_read_1.T ad, field_Signed.T ad] (fun n => tj 16 ⟨[(2, Sp 0 0), (6, Sp 1 0)], [(some 0, c3), (some 1, c3)]⟩ (fun _ => j16 n) <| tn) t0 t0 80 [] f (fun a => 1000 + a.toNat) (by kernel_rfl)
end isa_read
namespace isa_May
def sp : Spec := mkSp ⟨[(0, .agg c3)], []⟩ ⟨[(0, SB)], []⟩ g
noncomputable def T (ad : LQ) := mkF ad 57 [] sp [isa_between.T ad, isa_word.T ad, isa_read.T ad] (fun n => tj 10 ⟨[(1, Sp 0 0)], [(some 0, c3)]⟩ (fun _ => j10 n) <| tn) t0 t0 64 [] f (fun a b c d e i _ => 1000 + a.toNat + b.toNat + c.toNat + d.toNat + e.toNat + i.toNat) (by kernel_rfl)
end isa_May
namespace stmt_May
def sp : Spec := mkSp ⟨[(0, .agg c0)], []⟩ ⟨[(0, SB)], []⟩ g
noncomputable def T (ad : LQ) := mkF ad 24 [] sp [stmt_numbered.T ad, expr_Well.T ad, le_Name.T ad, name_RegName.T ad, isa_May.T ad] (fun n => tj 12 ⟨[(3, Sp 0 0)], [(some 0, c3)]⟩ (fun _ => j12 n) <| tj 4 ⟨[(1, Sp 0 0), (3, Sp 1 0)], [(some 0, c0), (some 1, c3)]⟩ (fun _ => j4 n) <| tn) t0 t0 84 [] f (fun a b c d e _ j k => 1000 + a.toNat + b.toNat + c.toNat + d.toNat + e.toNat + j.length + k.length) (by kernel_rfl)
end stmt_May
namespace stmt_head
def sp : Spec := mkSp ⟨[(0, Si)], []⟩ ⟨[(0, Si)], []⟩ g
noncomputable def T (ad : LQ) := mkF ad 51 [] sp [] t0 t0 t0 9 [] f (fun a => 1000 + a.toNat) (by kernel_rfl)
end stmt_head
namespace stmt_register_2
def sp : Spec := mkSp ⟨[(0, .agg c0), (1, .c (.pp .fn))], []⟩ ⟨[(0, Ss)], []⟩ g
noncomputable def T (ad : LQ) := mkF ad 120 [] sp [stmt_operands_1.T ad, name_RegName.T ad, stmt_operands_2.T ad, stmt_operands_3.T ad] t0 t0 t0 9 [K.atA, K.atB, K.atC] f (fun a b c d e _ j k _ => 1000 + a.toNat + b.toNat + c.toNat + d.toNat + e.toNat + j.length + k.length) (by kernel_rfl)
end stmt_register_2
namespace strconv_FormatUint
def sp : Spec := mkSp ⟨[(0, .c kq), (1, Si)], []⟩ ⟨[(0, Ss)], []⟩ g
noncomputable def T (ad : LQ) := mkF ad 166 [] sp [internal_strconv_FormatUint.T ad] t0 t0 t0 8 [] f (fun a b => 1000 + a.toNat + b.toNat) (by kernel_rfl)
end strconv_FormatUint
namespace expr_part_at
def sp : Spec := mkSp ⟨[(0, .agg [.str, ki]), (1, Si)], []⟩ ⟨[(0, Ss)], []⟩ g
noncomputable def T (ad : LQ) := mkF ad 167 [] sp [] t0 t0 t0 15 [] f (fun a b c => 1000 + a.length + b.toNat + c.toNat) (by kernel_rfl)
end expr_part_at
namespace expr_Print
def sp : Spec := mkSp ⟨[(0, .c (.sl u1))], []⟩ ⟨[(0, Ss), (1, Si)], []⟩ g
noncomputable def T (ad : LQ) := mkF ad 124 [] sp [expr_Well.T ad, expr_needs.T ad, strconv_FormatUint.T ad, expr_part_at.T ad] (fun n => tj 23 ⟨[(4, .c (.row 183 u4)), (7, Si), (10, Sp 0 0), (14, .c (.sl u1)), (15, Si), (16, Si)], [(some 2, [.str, ki])]⟩ (fun ms => j23 n (l5 n ms.head!)) <| tn) (fun n => tl 5 ⟨[(4, .c (.row 183 u4)), (14, .c (.sl u1)), (15, Si), (16, Si)], []⟩ (fun _ => l5 n) <| tn) t0 106 [] f (fun a => 1000 + a.length) (by kernel_rfl)
end expr_Print
namespace strings_trimLeftByte
def sp : Spec := mkSp ⟨[(0, Ss), (1, Sb)], []⟩ ⟨[(0, Ss)], []⟩ g
noncomputable def T (ad : LQ) := mkF ad 109 [] sp [] t0 (fun n => tl 1 ⟨[(0, Ss), (1, Sb)], []⟩ (fun _ => l1 n) <| tn) t0 17 [] f (fun a b => 1000 + a.length + b.toNat) (by kernel_rfl)
end strings_trimLeftByte
namespace strings_TrimLeft
def sp : Spec := mkSp ⟨[(0, Ss), (1, Ss)], []⟩ ⟨[(0, Ss)], []⟩ g
noncomputable def T (ad : LQ) := mkF ad 125 [] sp [strings_trimLeftByte.T ad] (fun n => tj 5 ⟨[(0, Ss), (1, Ss)], []⟩ (fun _ => j5 n) <| tn) t0 t0 37 [] f (fun a b => 1000 + a.length + b.length) (by kernel_rfl)
end strings_TrimLeft
namespace stmt_number_2
def sp : Spec := mkSp ⟨[(0, .agg c0), (1, .c (.pp .str))], []⟩ ⟨[(0, Ss)], []⟩ g
noncomputable def T (ad : LQ) := mkF ad 123 [] sp [expr_Print.T ad, strings_TrimLeft.T ad] t0 t0 t0 17 [] f (fun a b c d e _ j k l => 1000 + a.toNat + b.toNat + c.toNat + d.toNat + e.toNat + j.length + k.length + l.length) (by kernel_rfl)
end stmt_number_2
namespace stmt_operands_5
def sp : Spec := mkSp ⟨[(0, .agg c0)], []⟩ ⟨[(0, Ss)], []⟩ g
noncomputable def T (ad : LQ) := mkF ad 79 [] sp [] t0 t0 t0 5 [] f (fun a b c d e _ j k => 1000 + a.toNat + b.toNat + c.toNat + d.toNat + e.toNat + j.length + k.length) (by kernel_rfl)
end stmt_operands_5
namespace stmt_Print
def sp : Spec := mkSp ⟨[(0, Ss), (1, .agg c0)], []⟩ ⟨[(0, Ss), (1, Si)], []⟩ g
noncomputable def T (ad : LQ) := mkF ad 23 [] sp [name_Label.T ad, stmt_May.T ad, stmt_head.T ad, name_Mnemonic.T ad, stmt_dotted.T ad, stmt_operands.T ad, strings_Join.T ad, stmt_register_2.T ad, stmt_number_2.T ad, stmt_operands_5.T ad] (fun n => tj 15 ⟨[(3, Sp 0 0), (6, .c (.row 9 .str)), (7, Ss), (8, .c (.row 9 .str)), (50, .c (.sl u5)), (51, Si), (52, Si)], [(some 0, c0)]⟩ (fun ms => j15 n (l12 n ms.head!)) <| tj 17 ⟨[(6, .c (.row 9 .str))], []⟩ (fun _ => j17 n) <| tj 10 ⟨[(3, Sp 0 0), (6, .c (.row 9 .str)), (7, Ss)], [(some 0, c0)]⟩ (fun _ => j10 n) <| tj 6 ⟨[(3, Sp 0 0), (6, .c (.row 9 .str))], [(some 0, c0)]⟩ (fun _ => j6 n) <| tj 3 ⟨[(0, Ss), (3, Sp 0 0)], [(some 1, c0)]⟩ (fun _ => j3 n) <| tn) (fun n => tl 12 ⟨[(3, Sp 0 0), (6, .c (.row 9 .str)), (7, Ss), (8, .c (.row 9 .str)), (50, .c (.sl u5)), (51, Si), (52, Si)], [(some 0, c0)]⟩ (fun _ => l12 n) <| tn) t0 72 [K.wrA, K.wrB, K.wrC, K.wrE, K.wrQ, K.wrN] f (fun a b c d e i _ k l => 1000 + a.length + b.toNat + c.toNat + d.toNat + e.toNat + i.toNat + k.length + l.length) (by kernel_rfl)
end stmt_Print
namespace text_Print_1
def sp : Spec := mkSp ⟨[(0, .agg c2)], []⟩ ⟨[(0, Ss), (1, Si)], []⟩ g
noncomputable def T (ad : LQ) := mkF ad 64 [] sp [stmt_Print.T ad] t0 t0 t0 11 [] f (fun a b c d e i _ k l => 1000 + a.length + b.toNat + c.toNat + d.toNat + e.toNat + i.toNat + k.length + l.length) (by kernel_rfl)
end text_Print_1
namespace text_each_api_Line_string
def sp : Spec := mkSp ⟨[(0, .c (.sl u2)), (1, .c (.raw (.func (.func 64) #[] #[])))], []⟩ ⟨[(0, .c (.row 9 .str)), (1, Si), (2, Si)], []⟩ g
noncomputable def T (ad : LQ) := mkF ad 63 [] sp [text_Print_1.T ad] t0 (fun n => tl 5 ⟨[(1, .c (.raw (.func (.func 64) #[] #[]))), (7, .c (.row 9 .str)), (15, .c (.sl u2)), (16, Si), (17, Si)], []⟩ (fun _ => l5 n) <| tn) t0 39 [] f (fun a => 1000 + a.length) (by kernel_rfl)
end text_each_api_Line_string
namespace text_Print
def sp : Spec := mkSp ⟨[(0, .c (.sl u2))], []⟩ ⟨[(0, Ss), (1, Si), (2, Si)], []⟩ g
noncomputable def T (ad : LQ) := mkF ad 29 [] sp [text_each_api_Line_string.T ad, strings_Join.T ad] t0 t0 t0 20 [] f (fun a => 1000 + a.length) (by kernel_rfl)
end text_Print
namespace rivetref17_Instr
def sp : Spec := mkSp ⟨[(0, .agg c0)], []⟩ ⟨[(0, .agg c3)], []⟩ g
noncomputable def T (ad : LQ) := mkF ad 58 [] sp [] t0 t0 t0 16 [] f (fun a b c d e _ j k => 1000 + a.toNat + b.toNat + c.toNat + d.toNat + e.toNat + j.length + k.length) (by kernel_rfl)
end rivetref17_Instr
namespace rivetref15_Same
def sp : Spec := mkSp ⟨[(0, .c (.sl u1)), (1, .c (.sl u1))], []⟩ ⟨[(0, SB)], []⟩ g
noncomputable def T (ad : LQ) := mkF ad 59 [] sp [] t0 (fun n => tl 4 ⟨[(0, .c (.sl u1)), (1, .c (.sl u1)), (5, Si)], []⟩ (fun _ => l4 n) <| tn) t0 26 [] f (fun a b => 1000 + a.length + b.length) (by kernel_rfl)
end rivetref15_Same
namespace rivetref17_Same
def sp : Spec := mkSp ⟨[(0, .agg c0), (1, .agg c0)], []⟩ ⟨[(0, SB)], []⟩ g
noncomputable def T (ad : LQ) := mkF ad 25 [] sp [rivetref17_Instr.T ad, rivetref15_Same.T ad] t0 t0 t0 24 [] f (fun a b c d e _ j k l o p q r _ t u => 1000 + a.toNat + b.toNat + c.toNat + d.toNat + e.toNat + j.length + k.length + l.toNat + o.toNat + p.toNat + q.toNat + r.toNat + t.length + u.length) (by kernel_rfl)
end rivetref17_Same
namespace rivetref18_Same
def sp : Spec := mkSp ⟨[(0, .c (.sl u2)), (1, .c (.sl u2))], []⟩ ⟨[(0, SB)], []⟩ g
noncomputable def T (ad : LQ) := mkF ad 17 [] sp [rivetref17_Same.T ad] t0 (fun n => tl 4 ⟨[(0, .c (.sl u2)), (1, .c (.sl u2)), (5, Si)], []⟩ (fun _ => l4 n) <| tn) t0 44 [] f (fun a b => 1000 + a.length + b.length) (by kernel_rfl)
end rivetref18_Same
namespace rivetlaw18_TextBack
def sp : Spec := mkSp ⟨[(0, .c (.sl u2))], []⟩ ⟨[(0, SB)], []⟩ g
noncomputable def T (ad : LQ) := mkF ad 13 [] sp [rivetlaw18_shown.T ad, rivetref18_Fit.T ad, text_Print.T ad, text_Parse.T ad, rivetref18_Same.T ad] t0 t0 t0 68 [] f (fun a => 1000 + a.length) (by kernel_rfl)
end rivetlaw18_TextBack
theorem rivetlaw18_TextBack.sat : Sat P (LW ad) 13 rivetlaw18_TextBack.sp := (rivetlaw18_TextBack.T ad).sat
end
end Rv
namespace Rv
open Go
theorem w64 {x : Int} (h : -9223372036854775808 ≤ x ∧ x ≤ 9223372036854775807) : IntKind.i64.wrap x = x := IntWalk.i64_in _ h
theorem w32u {x : Int} (h : 0 ≤ x ∧ x ≤ 4294967295) : IntKind.u32.wrap x = x := IntWalk.u32_in _ h
theorem w8u {x : Int} (h : 0 ≤ x ∧ x ≤ 255) : IntKind.u8.wrap x = x := IntWalk.u8_in _ h
theorem w64u {x : Int} (h : 0 ≤ x ∧ x ≤ 18446744073709551615) : IntKind.u64.wrap x = x := IntWalk.u64_in _ h
theorem dt {p : Prop} [Decidable p] : (decide p = true) = p := by simp
theorem df {p : Prop} [Decidable p] : (decide p = false) = ¬ p := by simp
theorem bt_nat (s : Str) (k : Nat) : bt s (k : Int) = ((s.getD k 0).toNat : Int) := rfl
theorem byte_lt (b : UInt8) : (b.toNat : Int) < 256 := by have := b.toNat_lt; omega
theorem drop_cons {s : Str} {k : Nat} (h : k < s.length) : s.drop k = s.getD k 0 :: s.drop (k + 1) := by
 rw [List.drop_eq_getElem_cons h]
 congr 1
 simp [List.getD, h]
theorem byte_is (b : UInt8) (n : Nat) (hn : n < 256) : ((b.toNat : Int) = (n : Int)) = (b = UInt8.ofNat n) := by
 apply propext
 constructor
 ·intro h
  apply UInt8.toNat_inj.1
  rw [UInt8.toNat_ofNat', Nat.mod_eq_of_lt hn]
  omega
 ·intro h
  rw [h, UInt8.toNat_ofNat', Nat.mod_eq_of_lt hn]
theorem wfU32 {n : Int} (h : (Lit.int .u32 n).wf = true) : 0 ≤ n ∧ n ≤ 4294967295 := by
 simp [Lit.wf, IntKind.min, IntKind.max, IntKind.signed, IntKind.bits] at h; omega
theorem wfLen {n : Nat} (h : n ≤ maxLen) : n ≤ 9223372036854775807 := by unfold maxLen at h; omega
end Rv
