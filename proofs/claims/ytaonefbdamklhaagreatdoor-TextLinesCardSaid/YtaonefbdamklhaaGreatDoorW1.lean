/- Texts put together. -/
import Derived.Test.YtaonefbdamklhaaGreatDoorC1
import Derived.Test.YtaonefbdamklhaaGreatDoorC6
import Derived.IntWalk
set_option linter.all false
namespace Rv
open Go
set_option maxRecDepth 100000
def K.atA : Fn := (74, [])
def K.rdA : Fn := (119, [.cf (74, [])])
def K.wrA : Fn := (120, [.cf (74, [])])
def K.atB : Fn := (75, [])
def K.rdB : Fn := (119, [.cf (75, [])])
def K.wrB : Fn := (120, [.cf (75, [])])
def K.atC : Fn := (76, [])
def K.rdC : Fn := (119, [.cf (76, [])])
def K.wrC : Fn := (120, [.cf (76, [])])
def K.rdE : Fn := (121, [.c0 (.cs ([] : Str))])
def K.wrE : Fn := (123, [.c0 (.cs ([] : Str))])
def K.rdQ : Fn := (121, [.c0 (.cs ([61] : Str))])
def K.wrQ : Fn := (123, [.c0 (.cs ([61] : Str))])
def K.rdN : Fn := (78, [])
def K.wrN : Fn := (79, [])
abbrev It := Int × Int × Str × Unit
abbrev Tk := Int × Int × Str × Int × Unit
abbrev Sn := Int × Int × Int × Int × Int × Bool × (List It) × Str × Unit
abbrev Ln := Str × Sn × Unit
abbrev zI : It := ((0 : Int), ((0 : Int), (([] : Str), ())))
abbrev zT : Tk := ((0 : Int), ((0 : Int), (([] : Str), ((0 : Int), ()))))
abbrev zL : Ln := (([] : Str), (((0 : Int), ((0 : Int), ((0 : Int), ((0 : Int), ((0 : Int), (false, ([], (([] : Str), ())))))))), ()))
def L.opsR (k o : Int) : List (Fn × Fn × Unit) :=
 if k = 1 then (if o = 0 then [(K.rdA, K.wrA, ()), (K.rdC, K.wrC, ())] else [(K.rdA, K.wrA, ()), (K.rdB, K.wrB, ()), (K.rdC, K.wrC, ())]) else
 if k = 2 then (if o = 0 then [(K.rdA, K.wrA, ()), (K.rdE, K.wrE, ())] else [(K.rdA, K.wrA, ()), (K.rdB, K.wrB, ()), (K.rdE, K.wrE, ())]) else
 if k = 3 ∨ k = 4 then [(K.rdA, K.wrA, ())] else
 if k = 5 then [(K.rdA, K.wrA, ()), (K.rdB, K.wrB, ()), (K.rdE, K.wrE, ())] else
 if k = 6 then [(K.rdC, K.wrC, ())] else
 if k = 7 ∨ k = 9 then [(K.rdE, K.wrE, ())] else
 if k = 8 then [(K.rdA, K.wrA, ()), (K.rdQ, K.wrQ, ())] else
 if k = 10 then [(K.rdN, K.wrN, ())] else []
namespace scan_letter
def f (n : Nat) (a : Int) : Option (Bool × Unit) :=
  if (decide ((65 : Int) ≤ a)) then
  (if (decide (a ≤ (90 : Int))) = false then
  (if (decide ((97 : Int) ≤ a)) then
  (if (decide (a ≤ (122 : Int))) = false then (some ((decide (a = (95 : Int))), ()))
  else (some (true, ())))
  else (some ((decide (a = (95 : Int))), ())))
  else (some (true, ())))
  else
  (if (decide ((97 : Int) ≤ a)) then
  (if (decide (a ≤ (122 : Int))) = false then (some ((decide (a = (95 : Int))), ()))
  else (some (true, ())))
  else (some ((decide (a = (95 : Int))), ())))
def g (a : Int) : Option (Bool × Unit) := f (1000 + a.toNat) a
end scan_letter
namespace scan_digit
def f (n : Nat) (a : Int) : Option (Bool × Unit) :=
  if (decide ((48 : Int) ≤ a)) then (some ((decide (a ≤ (57 : Int))), ()))
  else (some (false, ()))
def g (a : Int) : Option (Bool × Unit) := f (1000 + a.toNat) a
end scan_digit
namespace scan_word
def j3 (n : Nat) (rl2 : Str → Int → Option (Str × Unit)) (a : Str) (b : Int) : Option (Str × Unit) :=
  rl2 a (IntKind.i64.wrap (b + (1 : Int)))
def j4 (n : Nat) (a : Str) (b : Int) : Option (Str × Unit) :=
  if 0 ≤ b ∧ b ≤ (a.length : Int) then (some (((a.take ((b).toNat)).drop 0), ())) else none
def l2 (n : Nat) : Nat → Str → Int → Option (Str × Unit)
 | 0, _, _ => none
 | m + 1, a, b =>
  if (decide (b < (a.length : Int))) then
  (if 0 ≤ b ∧ b < (a.length : Int) then
  ((scan_letter.g (bt a b)).bind fun y1 =>
  if y1.1 = false then
  (if 0 ≤ b ∧ b < (a.length : Int) then
  ((scan_digit.g (bt a b)).bind fun y2 =>
  if y2.1 then (scan_word.j3 n (scan_word.l2 n m) a b)
  else (scan_word.j4 n a b)) else none)
  else (scan_word.j3 n (scan_word.l2 n m) a b)) else none)
  else (scan_word.j4 n a b)
def f (n : Nat) (a : Str) : Option (Str × Unit) :=
  scan_word.l2 n n a (0 : Int)
def g (a : Str) : Option (Str × Unit) := f (1000 + a.length) a
end scan_word
namespace internal_strconv_lower
def f (n : Nat) (a : Int) : Option (Int × Unit) :=
  some ((bitsI .or .u8 a (32 : Int)), ())
def g (a : Int) : Option (Int × Unit) := f (1000 + a.toNat) a
end internal_strconv_lower
namespace internal_strconv_ParseUint
def j55 (n : Nat) (rl36 : Int → Bool → Str → Int → Int → Bool → Int → (List Int) → Int → Int → Option (Int × (Option Int) × Unit)) (a : Int) (b : Bool) (c : Str) (d : Int) (e : Int) (i : Bool) (j : Int) (k : List Int) (l : Int) (o : Int) : Option (Int × (Option Int) × Unit) :=
  rl36 a b c d e i j k l (IntKind.i64.wrap (o + (1 : Int)))
def j46 (n : Nat) (rl36 : Int → Bool → Str → Int → Int → Bool → Int → (List Int) → Int → Int → Option (Int × (Option Int) × Unit)) (a : Int) (b : Bool) (c : Str) (d : Int) (e : Int) (i : Bool) (j : Int) (k : Int) (l : List Int) (o : Int) (p : Int) : Option (Int × (Option Int) × Unit) :=
  if (decide ((IntKind.u8.wrap a) ≤ k)) then (some ((0 : Int), (some (2 : Int)), ()))
  else
  (if (decide (d ≤ j)) then (some (e, (some (1 : Int)), ()))
  else
  (if (decide ((IntKind.u64.wrap ((IntKind.u64.wrap (j * (IntKind.u64.wrap a))) + (IntKind.u64.wrap k))) < (IntKind.u64.wrap (j * (IntKind.u64.wrap a))))) = false then
  (if (decide (e < (IntKind.u64.wrap ((IntKind.u64.wrap (j * (IntKind.u64.wrap a))) + (IntKind.u64.wrap k))))) then (some (e, (some (1 : Int)), ()))
  else
  (internal_strconv_ParseUint.j55 n rl36 a b c d e i (IntKind.u64.wrap ((IntKind.u64.wrap (j * (IntKind.u64.wrap a))) + (IntKind.u64.wrap k))) l o p))
  else (some (e, (some (1 : Int)), ()))))
def l36 (n : Nat) : Nat → Int → Bool → Str → Int → Int → Bool → Int → (List Int) → Int → Int → Option (Int × (Option Int) × Unit)
 | 0, _, _, _, _, _, _, _, _, _, _ => none
 | m + 1, a, b, c, d, e, i, j, k, l, o =>
  if (decide (o < l)) then
  (if 0 ≤ o ∧ o < (k.length : Int) then
  (if (decide ((k.getD (o).toNat (0 : Int)) = (95 : Int))) then
  (if b then
  (internal_strconv_ParseUint.j55 n (internal_strconv_ParseUint.l36 n m) a b c d e true j k l o)
  else
  (if (decide ((48 : Int) ≤ (k.getD (o).toNat (0 : Int)))) then
  (if (decide ((k.getD (o).toNat (0 : Int)) ≤ (57 : Int))) then
  (internal_strconv_ParseUint.j46 n (internal_strconv_ParseUint.l36 n m) a b c d e i j (IntKind.u8.wrap ((k.getD (o).toNat (0 : Int)) - (48 : Int))) k l o)
  else
  ((internal_strconv_lower.g (k.getD (o).toNat (0 : Int))).bind fun y1 =>
  if (decide ((97 : Int) ≤ y1.1)) then
  ((internal_strconv_lower.g (k.getD (o).toNat (0 : Int))).bind fun y2 =>
  if (decide (y2.1 ≤ (122 : Int))) then
  ((internal_strconv_lower.g (k.getD (o).toNat (0 : Int))).bind fun y3 =>
  internal_strconv_ParseUint.j46 n (internal_strconv_ParseUint.l36 n m) a b c d e i j (IntKind.u8.wrap ((IntKind.u8.wrap (y3.1 - (97 : Int))) + (10 : Int))) k l o)
  else (some ((0 : Int), (some (2 : Int)), ())))
  else (some ((0 : Int), (some (2 : Int)), ()))))
  else
  ((internal_strconv_lower.g (k.getD (o).toNat (0 : Int))).bind fun y4 =>
  if (decide ((97 : Int) ≤ y4.1)) then
  ((internal_strconv_lower.g (k.getD (o).toNat (0 : Int))).bind fun y5 =>
  if (decide (y5.1 ≤ (122 : Int))) then
  ((internal_strconv_lower.g (k.getD (o).toNat (0 : Int))).bind fun y6 =>
  internal_strconv_ParseUint.j46 n (internal_strconv_ParseUint.l36 n m) a b c d e i j (IntKind.u8.wrap ((IntKind.u8.wrap (y6.1 - (97 : Int))) + (10 : Int))) k l o)
  else (some ((0 : Int), (some (2 : Int)), ())))
  else (some ((0 : Int), (some (2 : Int)), ())))))
  else
  (if (decide ((48 : Int) ≤ (k.getD (o).toNat (0 : Int)))) then
  (if (decide ((k.getD (o).toNat (0 : Int)) ≤ (57 : Int))) then
  (internal_strconv_ParseUint.j46 n (internal_strconv_ParseUint.l36 n m) a b c d e i j (IntKind.u8.wrap ((k.getD (o).toNat (0 : Int)) - (48 : Int))) k l o)
  else
  ((internal_strconv_lower.g (k.getD (o).toNat (0 : Int))).bind fun y7 =>
  if (decide ((97 : Int) ≤ y7.1)) then
  ((internal_strconv_lower.g (k.getD (o).toNat (0 : Int))).bind fun y8 =>
  if (decide (y8.1 ≤ (122 : Int))) then
  ((internal_strconv_lower.g (k.getD (o).toNat (0 : Int))).bind fun y9 =>
  internal_strconv_ParseUint.j46 n (internal_strconv_ParseUint.l36 n m) a b c d e i j (IntKind.u8.wrap ((IntKind.u8.wrap (y9.1 - (97 : Int))) + (10 : Int))) k l o)
  else (some ((0 : Int), (some (2 : Int)), ())))
  else (some ((0 : Int), (some (2 : Int)), ()))))
  else
  ((internal_strconv_lower.g (k.getD (o).toNat (0 : Int))).bind fun y10 =>
  if (decide ((97 : Int) ≤ y10.1)) then
  ((internal_strconv_lower.g (k.getD (o).toNat (0 : Int))).bind fun y11 =>
  if (decide (y11.1 ≤ (122 : Int))) then
  ((internal_strconv_lower.g (k.getD (o).toNat (0 : Int))).bind fun y12 =>
  internal_strconv_ParseUint.j46 n (internal_strconv_ParseUint.l36 n m) a b c d e i j (IntKind.u8.wrap ((IntKind.u8.wrap (y12.1 - (97 : Int))) + (10 : Int))) k l o)
  else (some ((0 : Int), (some (2 : Int)), ())))
  else (some ((0 : Int), (some (2 : Int)), ()))))) else none)
  else
  (if i then
  ((L.underscoreO c).bind fun y13 =>
  if (!y13.1) then (some ((0 : Int), (some (2 : Int)), ()))
  else (some (j, none, ())))
  else (some (j, none, ())))
def j32 (n : Nat) (a : Str) (b : Int) (c : Int) (d : Bool) (e : Str) (i : Int) : Option (Int × (Option Int) × Unit) :=
  if (IntKind.u64.wrap c) < 0 then none else
  (internal_strconv_ParseUint.l36 n n b d e i (IntKind.u64.wrap ((IntKind.u64.wrap ((1 : Int) * 2 ^ (min (IntKind.u64.wrap c).toNat IntKind.u64.bits))) - (1 : Int))) false (0 : Int) (a.map fun b => (b.toNat : Int)) ((a.map fun b => (b.toNat : Int)).length : Int) (0 : Int))
def j25 (n : Nat) (a : Str) (b : Int) (c : Int) (d : Bool) (e : Str) : Option (Int × (Option Int) × Unit) :=
  if (decide (b = (10 : Int))) then
  (internal_strconv_ParseUint.j32 n a b c d e (1844674407370955162 : Int))
  else
  (if (decide (b = (16 : Int))) then
  (internal_strconv_ParseUint.j32 n a b c d e (1152921504606846976 : Int))
  else
  (if (IntKind.u64.wrap b) = 0 then none else
  (internal_strconv_ParseUint.j32 n a b c d e (IntKind.u64.wrap ((IntKind.u64.wrap (Int.tdiv (18446744073709551615 : Int) (IntKind.u64.wrap b))) + (1 : Int))))))
def j21 (n : Nat) (a : Str) (b : Int) (c : Int) (d : Bool) (e : Str) : Option (Int × (Option Int) × Unit) :=
  if (decide (c = (0 : Int))) then (internal_strconv_ParseUint.j25 n a b (64 : Int) d e)
  else
  (if (decide (c < (0 : Int))) = false then
  (if (decide ((64 : Int) < c)) then (some ((0 : Int), (some (4 : Int)), ()))
  else (internal_strconv_ParseUint.j25 n a b c d e))
  else (some ((0 : Int), (some (4 : Int)), ())))
def j17 (n : Nat) (a : Str) (b : Int) (c : Int) (d : Bool) (e : Str) : Option (Int × (Option Int) × Unit) :=
  if 0 ≤ (2 : Int) ∧ (2 : Int) ≤ (a.length : Int) then
  (internal_strconv_ParseUint.j21 n ((a.take (((a.length : Int)).toNat)).drop (((2 : Int)).toNat)) b c d e) else none
def j20 (n : Nat) (a : Str) (b : Int) (c : Int) (d : Bool) (e : Str) : Option (Int × (Option Int) × Unit) :=
  if 0 ≤ (2 : Int) ∧ (2 : Int) ≤ (a.length : Int) then
  (internal_strconv_ParseUint.j21 n ((a.take (((a.length : Int)).toNat)).drop (((2 : Int)).toNat)) b c d e) else none
def j11 (n : Nat) (a : Str) (b : Int) (c : Int) (d : Bool) (e : Str) : Option (Int × (Option Int) × Unit) :=
  if 0 ≤ (1 : Int) ∧ (1 : Int) ≤ (a.length : Int) then
  (internal_strconv_ParseUint.j21 n ((a.take (((a.length : Int)).toNat)).drop (((1 : Int)).toNat)) b c d e) else none
def j9 (n : Nat) (a : Str) (b : Int) (c : Int) (d : Bool) (e : Str) : Option (Int × (Option Int) × Unit) :=
  if 0 ≤ (0 : Int) ∧ (0 : Int) < (a.length : Int) then
  (if (decide ((bt a (0 : Int)) = (48 : Int))) then
  (if (decide ((3 : Int) ≤ (a.length : Int))) then
  (if 0 ≤ (1 : Int) ∧ (1 : Int) < (a.length : Int) then
  ((internal_strconv_lower.g (bt a (1 : Int))).bind fun y1 =>
  if (decide (y1.1 = (98 : Int))) then
  (if 0 ≤ (2 : Int) ∧ (2 : Int) ≤ (a.length : Int) then
  (internal_strconv_ParseUint.j21 n ((a.take (((a.length : Int)).toNat)).drop (((2 : Int)).toNat)) (2 : Int) c d e) else none)
  else
  (if (decide ((3 : Int) ≤ (a.length : Int))) then
  (if 0 ≤ (1 : Int) ∧ (1 : Int) < (a.length : Int) then
  ((internal_strconv_lower.g (bt a (1 : Int))).bind fun y2 =>
  if (decide (y2.1 = (111 : Int))) then (internal_strconv_ParseUint.j17 n a (8 : Int) c d e)
  else
  (if (decide ((3 : Int) ≤ (a.length : Int))) then
  (if 0 ≤ (1 : Int) ∧ (1 : Int) < (a.length : Int) then
  ((internal_strconv_lower.g (bt a (1 : Int))).bind fun y3 =>
  if (decide (y3.1 = (120 : Int))) then (internal_strconv_ParseUint.j20 n a (16 : Int) c d e)
  else (internal_strconv_ParseUint.j11 n a (8 : Int) c d e)) else none)
  else (internal_strconv_ParseUint.j11 n a (8 : Int) c d e))) else none)
  else
  (if (decide ((3 : Int) ≤ (a.length : Int))) then
  (if 0 ≤ (1 : Int) ∧ (1 : Int) < (a.length : Int) then
  ((internal_strconv_lower.g (bt a (1 : Int))).bind fun y4 =>
  if (decide (y4.1 = (120 : Int))) then (internal_strconv_ParseUint.j20 n a (16 : Int) c d e)
  else (internal_strconv_ParseUint.j11 n a (8 : Int) c d e)) else none)
  else (internal_strconv_ParseUint.j11 n a (8 : Int) c d e)))) else none)
  else
  (if (decide ((3 : Int) ≤ (a.length : Int))) then
  (if 0 ≤ (1 : Int) ∧ (1 : Int) < (a.length : Int) then
  ((internal_strconv_lower.g (bt a (1 : Int))).bind fun y5 =>
  if (decide (y5.1 = (111 : Int))) then (internal_strconv_ParseUint.j17 n a (8 : Int) c d e)
  else
  (if (decide ((3 : Int) ≤ (a.length : Int))) then
  (if 0 ≤ (1 : Int) ∧ (1 : Int) < (a.length : Int) then
  ((internal_strconv_lower.g (bt a (1 : Int))).bind fun y6 =>
  if (decide (y6.1 = (120 : Int))) then (internal_strconv_ParseUint.j20 n a (16 : Int) c d e)
  else (internal_strconv_ParseUint.j11 n a (8 : Int) c d e)) else none)
  else (internal_strconv_ParseUint.j11 n a (8 : Int) c d e))) else none)
  else
  (if (decide ((3 : Int) ≤ (a.length : Int))) then
  (if 0 ≤ (1 : Int) ∧ (1 : Int) < (a.length : Int) then
  ((internal_strconv_lower.g (bt a (1 : Int))).bind fun y7 =>
  if (decide (y7.1 = (120 : Int))) then (internal_strconv_ParseUint.j20 n a (16 : Int) c d e)
  else (internal_strconv_ParseUint.j11 n a (8 : Int) c d e)) else none)
  else (internal_strconv_ParseUint.j11 n a (8 : Int) c d e))))
  else (internal_strconv_ParseUint.j21 n a b c d e)) else none
def f (n : Nat) (a : Str) (b : Int) (c : Int) : Option (Int × (Option Int) × Unit) :=
  if (decide (a = ([] : Str))) then (some ((0 : Int), (some (2 : Int)), ()))
  else
  (if (decide ((2 : Int) ≤ b)) then
  (if (decide (b ≤ (36 : Int))) then
  (internal_strconv_ParseUint.j21 n a b c (decide (b = (0 : Int))) a)
  else
  (if (decide (b = (0 : Int))) then
  (internal_strconv_ParseUint.j9 n a (10 : Int) c (decide (b = (0 : Int))) a)
  else (some ((0 : Int), (some (3 : Int)), ()))))
  else
  (if (decide (b = (0 : Int))) then
  (internal_strconv_ParseUint.j9 n a (10 : Int) c (decide (b = (0 : Int))) a)
  else (some ((0 : Int), (some (3 : Int)), ()))))
def g (a : Str) (b : Int) (c : Int) : Option (Int × (Option Int) × Unit) := f (1000 + a.length + b.toNat + c.toNat) a b c
end internal_strconv_ParseUint
namespace strconv_ParseUint
def f (n : Nat) (a : Str) (b : Int) (c : Int) : Option (Int × Bool × Unit) :=
  (internal_strconv_ParseUint.g a b c).bind fun y1 =>
  if (!y1.2.1.isNone) then
  ((L.toErrorO ([80, 97, 114, 115, 101, 85, 105, 110, 116] : Str) a b c y1.2.1).bind fun y2 =>
  some (y1.1, y2.1, ()))
  else (some (y1.1, true, ()))
def g (a : Str) (b : Int) (c : Int) : Option (Int × Bool × Unit) := f (1000 + a.length + b.toNat + c.toNat) a b c
end strconv_ParseUint
namespace scan_number
def j5 (n : Nat) (a : Str) (b : Int) : Option (Int × Bool × Unit) :=
  (L.containsO a ([95] : Str)).bind fun y1 =>
  if y1.1 then (some ((0 : Int), false, ()))
  else
  ((strconv_ParseUint.g a b (32 : Int)).bind fun y2 =>
  some ((IntKind.u32.wrap y2.1), y2.2.1, ()))
def f (n : Nat) (a : Str) : Option (Int × Bool × Unit) :=
  if (L.cutIs a ([48, 120] : Str)) then
  (scan_number.j5 n (L.cutRest a ([48, 120] : Str)) (16 : Int))
  else (scan_number.j5 n a (10 : Int))
def g (a : Str) : Option (Int × Bool × Unit) := f (1000 + a.length) a
end scan_number
namespace scan_Line
def j23 (n : Nat) (rg0 : Str → (List Tk) → Int → Option ((List Tk) × Int × Unit)) (a : Str) (b : List Tk) (c : Int) (d : Int) (e : Int) (i : Str) (j : Int) : Option ((List Tk) × Int × Unit) :=
  if (b.length + ([(d, e, i, j, ())] : List Tk).length) * 40 ≤ 140737488355328 ∧ 0 < 40 ∧ 0 < 4 then
  (rg0 a (b ++ ([(d, e, i, j, ())] : List Tk)) (IntKind.i64.wrap (c + (i.length : Int)))) else none
def g0 (n : Nat) : Nat → Str → (List Tk) → Int → Option ((List Tk) × Int × Unit)
 | 0, _, _, _ => none
 | m + 1, a, b, c =>
  if (decide ((a.length : Int) ≤ c)) = false then
  (if 0 ≤ c ∧ c < (a.length : Int) then
  (if (decide ((bt a c) = (59 : Int))) then (some (b, (0 : Int), ()))
  else
  (if 0 ≤ c ∧ c < (a.length : Int) then
  (if (decide ((bt a c) = (32 : Int))) = false then
  (if (decide ((bt a c) = (9 : Int))) then ((scan_Line.g0 n m) a b (IntKind.i64.wrap (c + (1 : Int))))
  else
  ((scan_letter.g (bt a c)).bind fun y1 =>
  if y1.1 then
  (if 0 ≤ c ∧ c ≤ (a.length : Int) then
  ((scan_word.g ((a.take (((a.length : Int)).toNat)).drop ((c).toNat))).bind fun y2 =>
  scan_Line.j23 n (scan_Line.g0 n m) a b c (1 : Int) c y2.1 0) else none)
  else
  ((scan_digit.g (bt a c)).bind fun y3 =>
  if y3.1 then
  (if 0 ≤ c ∧ c ≤ (a.length : Int) then
  ((scan_word.g ((a.take (((a.length : Int)).toNat)).drop ((c).toNat))).bind fun y4 =>
  (scan_number.g y4.1).bind fun y5 =>
  if (!y5.2.1) then (some ([], (21 : Int), ()))
  else
  (scan_Line.j23 n (scan_Line.g0 n m) a b c (2 : Int) c y4.1 y5.1)) else none)
  else
  (if (decide ((bt a c) = (46 : Int))) then
  (if (decide ((IntKind.i64.wrap (c + (1 : Int))) < (a.length : Int))) then
  (if 0 ≤ (IntKind.i64.wrap (c + (1 : Int))) ∧ (IntKind.i64.wrap (c + (1 : Int))) < (a.length : Int) then
  ((scan_letter.g (bt a (IntKind.i64.wrap (c + (1 : Int))))).bind fun y6 =>
  if y6.1 then
  (if 0 ≤ (IntKind.i64.wrap (c + (1 : Int))) ∧ (IntKind.i64.wrap (c + (1 : Int))) ≤ (a.length : Int) then
  ((scan_word.g ((a.take (((a.length : Int)).toNat)).drop (((IntKind.i64.wrap (c + (1 : Int)))).toNat))).bind fun y7 =>
  scan_Line.j23 n (scan_Line.g0 n m) a b (IntKind.i64.wrap (c + (1 : Int))) (4 : Int) c y7.1 0) else none)
  else
  (if (decide ((0 : Int) ≤ (L.indexByte ([44, 58, 43, 45, 42, 40, 41, 61] : Str) (bt a c)))) then
  (if 0 ≤ (IntKind.i64.wrap (c + (1 : Int))) ∧ (IntKind.i64.wrap (c + (1 : Int))) ≤ (a.length : Int) then
  (if 0 ≤ c ∧ c ≤ (IntKind.i64.wrap (c + (1 : Int))) then
  (scan_Line.j23 n (scan_Line.g0 n m) a b c (3 : Int) c ((a.take (((IntKind.i64.wrap (c + (1 : Int)))).toNat)).drop ((c).toNat)) 0) else none) else none)
  else (some ([], (20 : Int), ())))) else none)
  else
  (if (decide ((0 : Int) ≤ (L.indexByte ([44, 58, 43, 45, 42, 40, 41, 61] : Str) (bt a c)))) then
  (if 0 ≤ (IntKind.i64.wrap (c + (1 : Int))) ∧ (IntKind.i64.wrap (c + (1 : Int))) ≤ (a.length : Int) then
  (if 0 ≤ c ∧ c ≤ (IntKind.i64.wrap (c + (1 : Int))) then
  (scan_Line.j23 n (scan_Line.g0 n m) a b c (3 : Int) c ((a.take (((IntKind.i64.wrap (c + (1 : Int)))).toNat)).drop ((c).toNat)) 0) else none) else none)
  else (some ([], (20 : Int), ()))))
  else
  (if (decide ((0 : Int) ≤ (L.indexByte ([44, 58, 43, 45, 42, 40, 41, 61] : Str) (bt a c)))) then
  (if 0 ≤ (IntKind.i64.wrap (c + (1 : Int))) ∧ (IntKind.i64.wrap (c + (1 : Int))) ≤ (a.length : Int) then
  (if 0 ≤ c ∧ c ≤ (IntKind.i64.wrap (c + (1 : Int))) then
  (scan_Line.j23 n (scan_Line.g0 n m) a b c (3 : Int) c ((a.take (((IntKind.i64.wrap (c + (1 : Int)))).toNat)).drop ((c).toNat)) 0) else none) else none)
  else (some ([], (20 : Int), ())))))))
  else ((scan_Line.g0 n m) a b (IntKind.i64.wrap (c + (1 : Int))))) else none)) else none)
  else (some (b, (0 : Int), ()))
def f (n : Nat) (a : Str) : Option ((List Tk) × Int × Unit) :=
  scan_Line.g0 n n a ([]) (0 : Int)
def g (a : Str) : Option ((List Tk) × Int × Unit) := f (1000 + a.length) a
end scan_Line
namespace name_Label
def j9 (n : Nat) (rl4 : Str → Int → Int → Option (Bool × Unit)) (a : Str) (b : Int) (c : Int) : Option (Bool × Unit) :=
  rl4 a b (IntKind.i64.wrap (c + (1 : Int)))
def l4 (n : Nat) : Nat → Str → Int → Int → Option (Bool × Unit)
 | 0, _, _, _ => none
 | m + 1, a, b, c =>
  if (decide (c < b)) then
  (if 0 ≤ c ∧ c < (a.length : Int) then
  (if (decide ((bitsI .or .u8 (bt a c) (32 : Int)) < (97 : Int))) = false then
  (if (decide ((122 : Int) < (bitsI .or .u8 (bt a c) (32 : Int)))) = false then
  (if 0 ≤ c ∧ c < (a.length : Int) then
  (if (decide ((bt a c) < (65 : Int))) then
  (if 0 ≤ c ∧ c < (a.length : Int) then
  (if (decide ((bt a c) ≠ (95 : Int))) then
  (if 0 ≤ c ∧ c < (a.length : Int) then
  (if (decide ((bt a c) < (48 : Int))) = false then
  (if 0 ≤ c ∧ c < (a.length : Int) then
  (if (decide ((57 : Int) < (bt a c))) then (some (false, ()))
  else (name_Label.j9 n (name_Label.l4 n m) a b c)) else none)
  else (some (false, ()))) else none)
  else (name_Label.j9 n (name_Label.l4 n m) a b c)) else none)
  else (name_Label.j9 n (name_Label.l4 n m) a b c)) else none)
  else
  (if 0 ≤ c ∧ c < (a.length : Int) then
  (if (decide ((bt a c) ≠ (95 : Int))) then
  (if 0 ≤ c ∧ c < (a.length : Int) then
  (if (decide ((bt a c) < (48 : Int))) = false then
  (if 0 ≤ c ∧ c < (a.length : Int) then
  (if (decide ((57 : Int) < (bt a c))) then (some (false, ()))
  else (name_Label.j9 n (name_Label.l4 n m) a b c)) else none)
  else (some (false, ()))) else none)
  else (name_Label.j9 n (name_Label.l4 n m) a b c)) else none))
  else
  (if 0 ≤ c ∧ c < (a.length : Int) then
  (if (decide ((bt a c) ≠ (95 : Int))) then
  (if 0 ≤ c ∧ c < (a.length : Int) then
  (if (decide ((bt a c) < (48 : Int))) = false then
  (if 0 ≤ c ∧ c < (a.length : Int) then
  (if (decide ((57 : Int) < (bt a c))) then (some (false, ()))
  else (name_Label.j9 n (name_Label.l4 n m) a b c)) else none)
  else (some (false, ()))) else none)
  else (name_Label.j9 n (name_Label.l4 n m) a b c)) else none)) else none)
  else
  (if 0 ≤ (0 : Int) ∧ (0 : Int) < (a.length : Int) then
  (if (decide ((bt a (0 : Int)) = (82 : Int))) then
  (if (decide ((a.length : Int) = (2 : Int))) = false then
  (if (decide ((a.length : Int) = (3 : Int))) then
  (if 0 ≤ (1 : Int) ∧ (1 : Int) ≤ (a.length : Int) then
  ((L.trimO ((a.take (((a.length : Int)).toNat)).drop (((1 : Int)).toNat)) ([48, 49, 50, 51, 52, 53, 54, 55, 56, 57] : Str)).bind fun y1 =>
  some ((!(decide (y1.1 = ([] : Str)))), ())) else none)
  else (some (true, ())))
  else
  (if 0 ≤ (1 : Int) ∧ (1 : Int) ≤ (a.length : Int) then
  ((L.trimO ((a.take (((a.length : Int)).toNat)).drop (((1 : Int)).toNat)) ([48, 49, 50, 51, 52, 53, 54, 55, 56, 57] : Str)).bind fun y2 =>
  some ((!(decide (y2.1 = ([] : Str)))), ())) else none))
  else (some (true, ()))) else none)
def j3 (n : Nat) (a : Str) : Option (Bool × Unit) :=
  name_Label.l4 n n a (a.length : Int) (0 : Int)
def f (n : Nat) (a : Str) : Option (Bool × Unit) :=
  if (decide (a = ([] : Str))) = false then
  (if (decide ((12 : Int) < (a.length : Int))) = false then
  (if 0 ≤ (0 : Int) ∧ (0 : Int) < (a.length : Int) then
  (if (decide ((48 : Int) ≤ (bt a (0 : Int)))) then
  (if 0 ≤ (0 : Int) ∧ (0 : Int) < (a.length : Int) then
  (if (decide ((bt a (0 : Int)) ≤ (57 : Int))) then (some (false, ()))
  else (name_Label.j3 n a)) else none)
  else (name_Label.j3 n a)) else none)
  else (some (false, ())))
  else (some (false, ()))
def g (a : Str) : Option (Bool × Unit) := f (1000 + a.length) a
end name_Label
namespace internal_strconv_ParseInt
def j21 (n : Nat) (a : Bool) (b : Int) : Option (Int × (Option Int) × Unit) :=
  if a then
  (some ((IntKind.i64.wrap (0 - (IntKind.i64.wrap b))), none, ()))
  else (some ((IntKind.i64.wrap b), none, ()))
def j19 (n : Nat) (a : Bool) (b : Int) (c : Int) : Option (Int × (Option Int) × Unit) :=
  if a then
  (if (decide (c < b)) then
  (some ((IntKind.i64.wrap (0 - (IntKind.i64.wrap c))), (some (1 : Int)), ()))
  else (internal_strconv_ParseInt.j21 n a b))
  else (internal_strconv_ParseInt.j21 n a b)
def j16 (n : Nat) (a : Int) (b : Bool) (c : Int) : Option (Int × (Option Int) × Unit) :=
  if (IntKind.u64.wrap (IntKind.i64.wrap (a - (1 : Int)))) < 0 then none else
  (if (!b) then
  (if (decide ((IntKind.u64.wrap ((1 : Int) * 2 ^ (min (IntKind.u64.wrap (IntKind.i64.wrap (a - (1 : Int)))).toNat IntKind.u64.bits))) ≤ c)) then
  (some ((IntKind.i64.wrap (IntKind.u64.wrap ((IntKind.u64.wrap ((1 : Int) * 2 ^ (min (IntKind.u64.wrap (IntKind.i64.wrap (a - (1 : Int)))).toNat IntKind.u64.bits))) - (1 : Int)))), (some (1 : Int)), ()))
  else
  (internal_strconv_ParseInt.j19 n b c (IntKind.u64.wrap ((1 : Int) * 2 ^ (min (IntKind.u64.wrap (IntKind.i64.wrap (a - (1 : Int)))).toNat IntKind.u64.bits)))))
  else
  (internal_strconv_ParseInt.j19 n b c (IntKind.u64.wrap ((1 : Int) * 2 ^ (min (IntKind.u64.wrap (IntKind.i64.wrap (a - (1 : Int)))).toNat IntKind.u64.bits)))))
def j14 (n : Nat) (a : Int) (b : Bool) (c : Int) : Option (Int × (Option Int) × Unit) :=
  if (decide (a = (0 : Int))) then (internal_strconv_ParseInt.j16 n (64 : Int) b c)
  else (internal_strconv_ParseInt.j16 n a b c)
def j10 (n : Nat) (a : Str) (b : Int) (c : Int) (d : Bool) : Option (Int × (Option Int) × Unit) :=
  (internal_strconv_ParseUint.g a b c).bind fun y1 =>
  if (!y1.2.1.isNone) then
  (if (!(decide (y1.2.1 = (some (1 : Int))))) then (some ((0 : Int), y1.2.1, ()))
  else (internal_strconv_ParseInt.j14 n c d y1.1))
  else (internal_strconv_ParseInt.j14 n c d y1.1)
def f (n : Nat) (a : Str) (b : Int) (c : Int) : Option (Int × (Option Int) × Unit) :=
  if (decide (a = ([] : Str))) then (some ((0 : Int), (some (2 : Int)), ()))
  else
  (if 0 ≤ (0 : Int) ∧ (0 : Int) < (a.length : Int) then
  (if (decide ((bt a (0 : Int)) = (43 : Int))) then
  (if 0 ≤ (1 : Int) ∧ (1 : Int) ≤ (a.length : Int) then
  (internal_strconv_ParseInt.j10 n ((a.take (((a.length : Int)).toNat)).drop (((1 : Int)).toNat)) b c false) else none)
  else
  (if (decide ((bt a (0 : Int)) = (45 : Int))) then
  (if 0 ≤ (1 : Int) ∧ (1 : Int) ≤ (a.length : Int) then
  (internal_strconv_ParseInt.j10 n ((a.take (((a.length : Int)).toNat)).drop (((1 : Int)).toNat)) b c true) else none)
  else (internal_strconv_ParseInt.j10 n a b c false))) else none)
def g (a : Str) (b : Int) (c : Int) : Option (Int × (Option Int) × Unit) := f (1000 + a.length + b.toNat + c.toNat) a b c
end internal_strconv_ParseInt
namespace internal_strconv_Atoi
def l10 (n : Nat) : Nat → Str → Int → (List Int) → Int → Int → Option (Int × (Option Int) × Unit)
 | 0, _, _, _, _, _ => none
 | m + 1, a, b, c, d, e =>
  if (decide (e < d)) then
  (if 0 ≤ e ∧ e < (c.length : Int) then
  (if (decide ((9 : Int) < (IntKind.u8.wrap ((c.getD (e).toNat (0 : Int)) - (48 : Int))))) then (some ((0 : Int), (some (2 : Int)), ()))
  else
  ((internal_strconv_Atoi.l10 n m) a (IntKind.i64.wrap ((IntKind.i64.wrap (b * (10 : Int))) + (IntKind.i64.wrap (IntKind.u8.wrap ((c.getD (e).toNat (0 : Int)) - (48 : Int)))))) c d (IntKind.i64.wrap (e + (1 : Int))))) else none)
  else
  (if 0 ≤ (0 : Int) ∧ (0 : Int) < (a.length : Int) then
  (if (decide ((bt a (0 : Int)) = (45 : Int))) then (some ((IntKind.i64.wrap (0 - b)), none, ()))
  else (some (b, none, ()))) else none)
def j8 (n : Nat) (a : Str) (b : Str) : Option (Int × (Option Int) × Unit) :=
  internal_strconv_Atoi.l10 n n b (0 : Int) (a.map fun b => (b.toNat : Int)) ((a.map fun b => (b.toNat : Int)).length : Int) (0 : Int)
def j6 (n : Nat) (a : Str) (b : Str) : Option (Int × (Option Int) × Unit) :=
  if (decide ((a.length : Int) < (1 : Int))) then (some ((0 : Int), (some (2 : Int)), ()))
  else (internal_strconv_Atoi.j8 n a b)
def j20 (n : Nat) (a : Str) : Option (Int × (Option Int) × Unit) :=
  (internal_strconv_ParseInt.g a (10 : Int) (0 : Int)).bind fun y1 =>
  some (y1.1, y1.2.1, ())
def f (n : Nat) (a : Str) : Option (Int × (Option Int) × Unit) :=
  if (decide ((0 : Int) < (a.length : Int))) then
  (if (decide ((a.length : Int) < (19 : Int))) then
  (if 0 ≤ (0 : Int) ∧ (0 : Int) < (a.length : Int) then
  (if (decide ((bt a (0 : Int)) = (45 : Int))) = false then
  (if 0 ≤ (0 : Int) ∧ (0 : Int) < (a.length : Int) then
  (if (decide ((bt a (0 : Int)) = (43 : Int))) then
  (if 0 ≤ (1 : Int) ∧ (1 : Int) ≤ (a.length : Int) then
  (internal_strconv_Atoi.j6 n ((a.take (((a.length : Int)).toNat)).drop (((1 : Int)).toNat)) a) else none)
  else (internal_strconv_Atoi.j8 n a a)) else none)
  else
  (if 0 ≤ (1 : Int) ∧ (1 : Int) ≤ (a.length : Int) then
  (internal_strconv_Atoi.j6 n ((a.take (((a.length : Int)).toNat)).drop (((1 : Int)).toNat)) a) else none)) else none)
  else (internal_strconv_Atoi.j20 n a))
  else (internal_strconv_Atoi.j20 n a)
def g (a : Str) : Option (Int × (Option Int) × Unit) := f (1000 + a.length) a
end internal_strconv_Atoi
namespace strconv_Atoi
def f (n : Nat) (a : Str) : Option (Int × Bool × Unit) :=
  (internal_strconv_Atoi.g a).bind fun y1 =>
  if (!y1.2.1.isNone) then
  ((L.toErrorO ([65, 116, 111, 105] : Str) a (0 : Int) (0 : Int) y1.2.1).bind fun y2 =>
  some (y1.1, y2.1, ()))
  else (some (y1.1, true, ()))
def g (a : Str) : Option (Int × Bool × Unit) := f (1000 + a.length) a
end strconv_Atoi
namespace name_RegName
def f (n : Nat) (a : Int) : Option (Str × Unit) :=
  if (decide (a < (0 : Int))) = false then
  (if (decide ((16 : Int) ≤ a)) then (some (([] : Str), ()))
  else
  ((L.itoaO a).bind fun y1 =>
  if ([82] : Str).length + y1.1.length ≤ 9223372036854775807 then (some ((([82] : Str) ++ y1.1), ())) else none))
  else (some (([] : Str), ()))
def g (a : Int) : Option (Str × Unit) := f (1000 + a.toNat) a
end name_RegName
namespace name_Reg
def f (n : Nat) (a : Str) : Option (Int × Bool × Unit) :=
  (strconv_Atoi.g (L.cutRest a ([82] : Str))).bind fun y2 =>
  if (!(L.cutIs a ([82] : Str))) = false then
  (if (!y2.2.1) = false then
  ((name_RegName.g y2.1).bind fun y3 =>
  if (!(decide (y3.1 = a))) then (some ((0 : Int), false, ()))
  else (some (y2.1, true, ())))
  else (some ((0 : Int), false, ())))
  else (some ((0 : Int), false, ()))
def g (a : Str) : Option (Int × Bool × Unit) := f (1000 + a.length) a
end name_Reg
namespace expr_parser_fail
def f (n : Nat) (a : Int) (b : List Tk) (c : Int) (d : List It) (e : Int) : Option ((List Tk) × Int × (List It) × Int × Unit) :=
  if (decide (e = (0 : Int))) then (some (b, c, d, a, ()))
  else (some (b, c, d, e, ()))
def g (a : Int) (b : List Tk) (c : Int) (d : List It) (e : Int) : Option ((List Tk) × Int × (List It) × Int × Unit) := f (1000 + a.toNat + b.length + c.toNat + d.length + e.toNat) a b c d e
end expr_parser_fail
namespace expr_parser_next
def f (n : Nat) (a : List Tk) (b : Int) (c : List It) (d : Int) : Option (Int × Int × Str × Int × Bool × (List Tk) × Int × (List It) × Int × Unit) :=
  if (decide (d ≠ (0 : Int))) = false then
  (if (decide (b < (0 : Int))) = false then
  (if (decide ((a.length : Int) ≤ b)) then (some (0, 0, ([] : Str), 0, false, a, b, c, d, ()))
  else
  (if 0 ≤ b ∧ b < (a.length : Int) then
  (some ((a.getD (b).toNat zT).1, ((a.getD (b).toNat zT).2).1, (((a.getD (b).toNat zT).2).2).1, ((((a.getD (b).toNat zT).2).2).2).1, true, a, b, c, d, ())) else none))
  else (some (0, 0, ([] : Str), 0, false, a, b, c, d, ())))
  else (some (0, 0, ([] : Str), 0, false, a, b, c, d, ()))
def g (a : List Tk) (b : Int) (c : List It) (d : Int) : Option (Int × Int × Str × Int × Bool × (List Tk) × Int × (List It) × Int × Unit) := f (1000 + a.length + b.toNat + c.length + d.toNat) a b c d
end expr_parser_next
namespace expr_parser_sign
def j8 (n : Nat) (rl3 : Bool → (List Str) → Int → Int → (List Tk) → Int → (List It) → Int → Int → Int → Str → Int → Option (Str × Bool × (List Tk) × Int × (List It) × Int × Unit)) (a : Bool) (b : List Str) (c : Int) (d : Int) (e : List Tk) (i : Int) (j : List It) (k : Int) (l : Int) (o : Int) (p : Str) (q : Int) : Option (Str × Bool × (List Tk) × Int × (List It) × Int × Unit) :=
  rl3 a b c (IntKind.i64.wrap (d + (1 : Int))) e i j k l o p q
def l3 (n : Nat) : Nat → Bool → (List Str) → Int → Int → (List Tk) → Int → (List It) → Int → Int → Int → Str → Int → Option (Str × Bool × (List Tk) × Int × (List It) × Int × Unit)
 | 0, _, _, _, _, _, _, _, _, _, _, _, _ => none
 | m + 1, a, b, c, d, e, i, j, k, l, o, p, q =>
  if (decide (d < c)) then
  (if 0 ≤ d ∧ d < (b.length : Int) then
  (if a then
  (if (decide (l = (3 : Int))) then
  (if (decide (p = (b.getD (d).toNat ([] : Str)))) then
  (some ((b.getD (d).toNat ([] : Str)), true, e, (IntKind.i64.wrap (i + (1 : Int))), j, k, ()))
  else
  (expr_parser_sign.j8 n (expr_parser_sign.l3 n m) a b c d e i j k l o p q))
  else
  (expr_parser_sign.j8 n (expr_parser_sign.l3 n m) a b c d e i j k l o p q))
  else
  (expr_parser_sign.j8 n (expr_parser_sign.l3 n m) a b c d e i j k l o p q)) else none)
  else (some (([] : Str), false, e, i, j, k, ()))
def f (n : Nat) (a : List Str) (b : List Tk) (c : Int) (d : List It) (e : Int) : Option (Str × Bool × (List Tk) × Int × (List It) × Int × Unit) :=
  (expr_parser_next.g b c d e).bind fun y1 =>
  expr_parser_sign.l3 n n y1.2.2.2.2.1 a (a.length : Int) (0 : Int) y1.2.2.2.2.2.1 y1.2.2.2.2.2.2.1 y1.2.2.2.2.2.2.2.1 y1.2.2.2.2.2.2.2.2.1 y1.1 y1.2.1 y1.2.2.1 y1.2.2.2.1
def g (a : List Str) (b : List Tk) (c : Int) (d : List It) (e : Int) : Option (Str × Bool × (List Tk) × Int × (List It) × Int × Unit) := f (1000 + a.length + b.length + c.toNat + d.length + e.toNat) a b c d e
end expr_parser_sign
namespace expr_parser_put
def f (n : Nat) (a : Int) (b : Int) (c : Str) (d : List Tk) (e : Int) (i : List It) (j : Int) : Option ((List Tk) × Int × (List It) × Int × Unit) :=
  if (i.length + ([(a, b, c, ())] : List It).length) * 32 ≤ 140737488355328 ∧ 0 < 32 ∧ 0 < 3 then
  (some (d, e, (i ++ ([(a, b, c, ())] : List It)), j, ())) else none
def g (a : Int) (b : Int) (c : Str) (d : List Tk) (e : Int) (i : List It) (j : Int) : Option ((List Tk) × Int × (List It) × Int × Unit) := f (1000 + a.toNat + b.toNat + c.length + d.length + e.toNat + i.length + j.toNat) a b c d e i j
end expr_parser_put
structure Rec_expr_parser_sum where
 expr_parser_sum : Int → (List Tk) → Int → (List It) → Int → Option ((List Tk) × Int × (List It) × Int × Unit)
 expr_parser_row_c200 : (List Str) → (List Tk) → Int → (List It) → Int → Int → Option ((List Tk) × Int × (List It) × Int × Unit × Int × Unit)
 expr_parser_sum_1 : Int → (List Tk) → Int → (List It) → Int → Option (Unit × Int × (List Tk) × Int × (List It) × Int × Unit)
 expr_parser_row_c201 : (List Str) → (List Tk) → Int → (List It) → Int → Int → Option ((List Tk) × Int × (List It) × Int × Unit × Int × Unit)
 expr_parser_sum_1_1 : Int → (List Tk) → Int → (List It) → Int → Option (Unit × Int × (List Tk) × Int × (List It) × Int × Unit)
 expr_parser_factor : Int → (List Tk) → Int → (List It) → Int → Option ((List Tk) × Int × (List It) × Int × Unit)
namespace expr_parser_sum
def f (n : Nat) (R : Rec_expr_parser_sum) (a : Int) (b : List Tk) (c : Int) (d : List It) (e : Int) : Option ((List Tk) × Int × (List It) × Int × Unit) :=
  (R.expr_parser_row_c200 ([([43] : Str), ([45] : Str)] : List Str) b c d e a).bind fun y1 =>
  some (y1.1, y1.2.1, y1.2.2.1, y1.2.2.2.1, ())
def h (R : Rec_expr_parser_sum) (a : Int) (b : List Tk) (c : Int) (d : List It) (e : Int) : Option ((List Tk) × Int × (List It) × Int × Unit) := f (1000 + a.toNat + b.length + c.toNat + d.length + e.toNat) R a b c d e
end expr_parser_sum
namespace expr_parser_row_c200
def l1 (n : Nat) (R : Rec_expr_parser_sum) : Nat → (List Str) → (List Tk) → Int → (List It) → Int → Int → Option ((List Tk) × Int × (List It) × Int × Unit × Int × Unit)
 | 0, _, _, _, _, _, _ => none
 | m + 1, a, b, c, d, e, i =>
  (expr_parser_sign.g a b c d e).bind fun y1 =>
  if (!y1.2.1) then
  (some (y1.2.2.1, y1.2.2.2.1, y1.2.2.2.2.1, y1.2.2.2.2.2.1, (), i, ()))
  else
  ((R.expr_parser_sum_1 i y1.2.2.1 y1.2.2.2.1 y1.2.2.2.2.1 y1.2.2.2.2.2.1).bind fun y2 =>
  (expr_parser_put.g ((L.kinds y1.1).1) 0 ([] : Str) y2.2.2.1 y2.2.2.2.1 y2.2.2.2.2.1 y2.2.2.2.2.2.1).bind fun y3 =>
  (expr_parser_row_c200.l1 n R m) a y3.1 y3.2.1 y3.2.2.1 y3.2.2.2.1 y2.2.1)
def f (n : Nat) (R : Rec_expr_parser_sum) (a : List Str) (b : List Tk) (c : Int) (d : List It) (e : Int) (i : Int) : Option ((List Tk) × Int × (List It) × Int × Unit × Int × Unit) :=
  (R.expr_parser_sum_1 i b c d e).bind fun y1 =>
  expr_parser_row_c200.l1 n R n a y1.2.2.1 y1.2.2.2.1 y1.2.2.2.2.1 y1.2.2.2.2.2.1 y1.2.1
def h (R : Rec_expr_parser_sum) (a : List Str) (b : List Tk) (c : Int) (d : List It) (e : Int) (i : Int) : Option ((List Tk) × Int × (List It) × Int × Unit × Int × Unit) := f (1000 + a.length + b.length + c.toNat + d.length + e.toNat + i.toNat) R a b c d e i
end expr_parser_row_c200
namespace expr_parser_sum_1
def f (n : Nat) (R : Rec_expr_parser_sum) (a : Int) (b : List Tk) (c : Int) (d : List It) (e : Int) : Option (Unit × Int × (List Tk) × Int × (List It) × Int × Unit) :=
  (R.expr_parser_row_c201 ([([42] : Str)] : List Str) b c d e a).bind fun y1 =>
  some ((), y1.2.2.2.2.2.1, y1.1, y1.2.1, y1.2.2.1, y1.2.2.2.1, ())
def h (R : Rec_expr_parser_sum) (a : Int) (b : List Tk) (c : Int) (d : List It) (e : Int) : Option (Unit × Int × (List Tk) × Int × (List It) × Int × Unit) := f (1000 + a.toNat + b.length + c.toNat + d.length + e.toNat) R a b c d e
end expr_parser_sum_1
namespace expr_parser_row_c201
def l1 (n : Nat) (R : Rec_expr_parser_sum) : Nat → (List Str) → (List Tk) → Int → (List It) → Int → Int → Option ((List Tk) × Int × (List It) × Int × Unit × Int × Unit)
 | 0, _, _, _, _, _, _ => none
 | m + 1, a, b, c, d, e, i =>
  (expr_parser_sign.g a b c d e).bind fun y1 =>
  if (!y1.2.1) then
  (some (y1.2.2.1, y1.2.2.2.1, y1.2.2.2.2.1, y1.2.2.2.2.2.1, (), i, ()))
  else
  ((R.expr_parser_sum_1_1 i y1.2.2.1 y1.2.2.2.1 y1.2.2.2.2.1 y1.2.2.2.2.2.1).bind fun y2 =>
  (expr_parser_put.g ((L.kinds y1.1).1) 0 ([] : Str) y2.2.2.1 y2.2.2.2.1 y2.2.2.2.2.1 y2.2.2.2.2.2.1).bind fun y3 =>
  (expr_parser_row_c201.l1 n R m) a y3.1 y3.2.1 y3.2.2.1 y3.2.2.2.1 y2.2.1)
def f (n : Nat) (R : Rec_expr_parser_sum) (a : List Str) (b : List Tk) (c : Int) (d : List It) (e : Int) (i : Int) : Option ((List Tk) × Int × (List It) × Int × Unit × Int × Unit) :=
  (R.expr_parser_sum_1_1 i b c d e).bind fun y1 =>
  expr_parser_row_c201.l1 n R n a y1.2.2.1 y1.2.2.2.1 y1.2.2.2.2.1 y1.2.2.2.2.2.1 y1.2.1
def h (R : Rec_expr_parser_sum) (a : List Str) (b : List Tk) (c : Int) (d : List It) (e : Int) (i : Int) : Option ((List Tk) × Int × (List It) × Int × Unit × Int × Unit) := f (1000 + a.length + b.length + c.toNat + d.length + e.toNat + i.toNat) R a b c d e i
end expr_parser_row_c201
namespace expr_parser_sum_1_1
def f (n : Nat) (R : Rec_expr_parser_sum) (a : Int) (b : List Tk) (c : Int) (d : List It) (e : Int) : Option (Unit × Int × (List Tk) × Int × (List It) × Int × Unit) :=
  (R.expr_parser_factor a b c d e).bind fun y1 =>
  some ((), a, y1.1, y1.2.1, y1.2.2.1, y1.2.2.2.1, ())
def h (R : Rec_expr_parser_sum) (a : Int) (b : List Tk) (c : Int) (d : List It) (e : Int) : Option (Unit × Int × (List Tk) × Int × (List It) × Int × Unit) := f (1000 + a.toNat + b.length + c.toNat + d.length + e.toNat) R a b c d e
end expr_parser_sum_1_1
namespace expr_parser_factor
def j19 (n : Nat) (R : Rec_expr_parser_sum) (a : List Tk) (b : Int) (c : List It) (d : Int) : Option ((List Tk) × Int × (List It) × Int × Unit) :=
  some (a, (IntKind.i64.wrap (b + (1 : Int))), c, d, ())
def f (n : Nat) (R : Rec_expr_parser_sum) (a : Int) (b : List Tk) (c : Int) (d : List It) (e : Int) : Option ((List Tk) × Int × (List It) × Int × Unit) :=
  if (decide (e ≠ (0 : Int))) then (some (b, c, d, e, ()))
  else
  (if (decide ((8 : Int) < a)) then
  ((expr_parser_fail.g (24 : Int) b c d e).bind fun y1 =>
  some (y1.1, y1.2.1, y1.2.2.1, y1.2.2.2.1, ()))
  else
  ((expr_parser_sign.g ([([45] : Str), ([40] : Str)] : List Str) b c d e).bind fun y2 =>
  if (decide (y2.1 = ([45] : Str))) then
  ((R.expr_parser_factor (IntKind.i64.wrap (a + (1 : Int))) y2.2.2.1 y2.2.2.2.1 y2.2.2.2.2.1 y2.2.2.2.2.2.1).bind fun y3 =>
  (expr_parser_put.g (3 : Int) 0 ([] : Str) y3.1 y3.2.1 y3.2.2.1 y3.2.2.2.1).bind fun y4 =>
  some (y4.1, y4.2.1, y4.2.2.1, y4.2.2.2.1, ()))
  else
  (if (decide (y2.1 = ([40] : Str))) then
  ((R.expr_parser_sum (IntKind.i64.wrap (a + (1 : Int))) y2.2.2.1 y2.2.2.2.1 y2.2.2.2.2.1 y2.2.2.2.2.2.1).bind fun y5 =>
  (expr_parser_sign.g ([([41] : Str)] : List Str) y5.1 y5.2.1 y5.2.2.1 y5.2.2.2.1).bind fun y6 =>
  if (!y6.2.1) then
  ((expr_parser_fail.g (23 : Int) y6.2.2.1 y6.2.2.2.1 y6.2.2.2.2.1 y6.2.2.2.2.2.1).bind fun y7 =>
  some (y7.1, y7.2.1, y7.2.2.1, y7.2.2.2.1, ()))
  else
  (some (y6.2.2.1, y6.2.2.2.1, y6.2.2.2.2.1, y6.2.2.2.2.2.1, ())))
  else
  ((expr_parser_next.g y2.2.2.1 y2.2.2.2.1 y2.2.2.2.2.1 y2.2.2.2.2.2.1).bind fun y8 =>
  if y8.2.2.2.2.1 then
  (if (decide (y8.1 = (2 : Int))) then
  ((expr_parser_put.g (1 : Int) y8.2.2.2.1 ([] : Str) y8.2.2.2.2.2.1 y8.2.2.2.2.2.2.1 y8.2.2.2.2.2.2.2.1 y8.2.2.2.2.2.2.2.2.1).bind fun y9 =>
  expr_parser_factor.j19 n R y9.1 y9.2.1 y9.2.2.1 y9.2.2.2.1)
  else
  (if y8.2.2.2.2.1 then
  (if (decide (y8.1 = (1 : Int))) then
  ((name_Label.g y8.2.2.1).bind fun y10 =>
  if y10.1 then
  ((expr_parser_put.g (2 : Int) 0 y8.2.2.1 y8.2.2.2.2.2.1 y8.2.2.2.2.2.2.1 y8.2.2.2.2.2.2.2.1 y8.2.2.2.2.2.2.2.2.1).bind fun y11 =>
  expr_parser_factor.j19 n R y11.1 y11.2.1 y11.2.2.1 y11.2.2.2.1)
  else
  ((expr_parser_fail.g (23 : Int) y8.2.2.2.2.2.1 y8.2.2.2.2.2.2.1 y8.2.2.2.2.2.2.2.1 y8.2.2.2.2.2.2.2.2.1).bind fun y12 =>
  expr_parser_factor.j19 n R y12.1 y12.2.1 y12.2.2.1 y12.2.2.2.1))
  else
  ((expr_parser_fail.g (23 : Int) y8.2.2.2.2.2.1 y8.2.2.2.2.2.2.1 y8.2.2.2.2.2.2.2.1 y8.2.2.2.2.2.2.2.2.1).bind fun y13 =>
  expr_parser_factor.j19 n R y13.1 y13.2.1 y13.2.2.1 y13.2.2.2.1))
  else
  ((expr_parser_fail.g (23 : Int) y8.2.2.2.2.2.1 y8.2.2.2.2.2.2.1 y8.2.2.2.2.2.2.2.1 y8.2.2.2.2.2.2.2.2.1).bind fun y14 =>
  expr_parser_factor.j19 n R y14.1 y14.2.1 y14.2.2.1 y14.2.2.2.1)))
  else
  (if y8.2.2.2.2.1 then
  (if (decide (y8.1 = (1 : Int))) then
  ((name_Label.g y8.2.2.1).bind fun y15 =>
  if y15.1 then
  ((expr_parser_put.g (2 : Int) 0 y8.2.2.1 y8.2.2.2.2.2.1 y8.2.2.2.2.2.2.1 y8.2.2.2.2.2.2.2.1 y8.2.2.2.2.2.2.2.2.1).bind fun y16 =>
  expr_parser_factor.j19 n R y16.1 y16.2.1 y16.2.2.1 y16.2.2.2.1)
  else
  ((expr_parser_fail.g (23 : Int) y8.2.2.2.2.2.1 y8.2.2.2.2.2.2.1 y8.2.2.2.2.2.2.2.1 y8.2.2.2.2.2.2.2.2.1).bind fun y17 =>
  expr_parser_factor.j19 n R y17.1 y17.2.1 y17.2.2.1 y17.2.2.2.1))
  else
  ((expr_parser_fail.g (23 : Int) y8.2.2.2.2.2.1 y8.2.2.2.2.2.2.1 y8.2.2.2.2.2.2.2.1 y8.2.2.2.2.2.2.2.2.1).bind fun y18 =>
  expr_parser_factor.j19 n R y18.1 y18.2.1 y18.2.2.1 y18.2.2.2.1))
  else
  ((expr_parser_fail.g (23 : Int) y8.2.2.2.2.2.1 y8.2.2.2.2.2.2.1 y8.2.2.2.2.2.2.2.1 y8.2.2.2.2.2.2.2.2.1).bind fun y19 =>
  expr_parser_factor.j19 n R y19.1 y19.2.1 y19.2.2.1 y19.2.2.2.1))))))
def h (R : Rec_expr_parser_sum) (a : Int) (b : List Tk) (c : Int) (d : List It) (e : Int) : Option ((List Tk) × Int × (List It) × Int × Unit) := f (1000 + a.toNat + b.length + c.toNat + d.length + e.toNat) R a b c d e
end expr_parser_factor
def rec_expr_parser_sum : Nat → Rec_expr_parser_sum
 | 0 => ⟨fun _ _ _ _ _ => none, fun _ _ _ _ _ _ => none, fun _ _ _ _ _ => none, fun _ _ _ _ _ _ => none, fun _ _ _ _ _ => none, fun _ _ _ _ _ => none⟩
 | q + 1 => ⟨expr_parser_sum.h (rec_expr_parser_sum q), expr_parser_row_c200.h (rec_expr_parser_sum q), expr_parser_sum_1.h (rec_expr_parser_sum q), expr_parser_row_c201.h (rec_expr_parser_sum q), expr_parser_sum_1_1.h (rec_expr_parser_sum q), expr_parser_factor.h (rec_expr_parser_sum q)⟩
def expr_parser_sum.g (a : Int) (b : List Tk) (c : Int) (d : List It) (e : Int) : Option ((List Tk) × Int × (List It) × Int × Unit) := (rec_expr_parser_sum (1000 + a.toNat + b.length + c.toNat + d.length + e.toNat)).expr_parser_sum a b c d e
def expr_parser_row_c200.g (a : List Str) (b : List Tk) (c : Int) (d : List It) (e : Int) (i : Int) : Option ((List Tk) × Int × (List It) × Int × Unit × Int × Unit) := (rec_expr_parser_sum (1000 + a.length + b.length + c.toNat + d.length + e.toNat + i.toNat)).expr_parser_row_c200 a b c d e i
def expr_parser_sum_1.g (a : Int) (b : List Tk) (c : Int) (d : List It) (e : Int) : Option (Unit × Int × (List Tk) × Int × (List It) × Int × Unit) := (rec_expr_parser_sum (1000 + a.toNat + b.length + c.toNat + d.length + e.toNat)).expr_parser_sum_1 a b c d e
def expr_parser_row_c201.g (a : List Str) (b : List Tk) (c : Int) (d : List It) (e : Int) (i : Int) : Option ((List Tk) × Int × (List It) × Int × Unit × Int × Unit) := (rec_expr_parser_sum (1000 + a.length + b.length + c.toNat + d.length + e.toNat + i.toNat)).expr_parser_row_c201 a b c d e i
def expr_parser_sum_1_1.g (a : Int) (b : List Tk) (c : Int) (d : List It) (e : Int) : Option (Unit × Int × (List Tk) × Int × (List It) × Int × Unit) := (rec_expr_parser_sum (1000 + a.toNat + b.length + c.toNat + d.length + e.toNat)).expr_parser_sum_1_1 a b c d e
def expr_parser_factor.g (a : Int) (b : List Tk) (c : Int) (d : List It) (e : Int) : Option ((List Tk) × Int × (List It) × Int × Unit) := (rec_expr_parser_sum (1000 + a.toNat + b.length + c.toNat + d.length + e.toNat)).expr_parser_factor a b c d e
namespace expr_Parse
def j5 (n : Nat) (a : List Tk) (b : Int) (c : List It) (d : Int) : Option ((List It) × Int × Int × Unit) :=
  if (decide (d ≠ (0 : Int))) then (some ([], (0 : Int), d, ()))
  else (some (c, b, (0 : Int), ()))
def f (n : Nat) (a : List Tk) (b : Int) : Option ((List It) × Int × Int × Unit) :=
  (expr_parser_sum.g (0 : Int) a b ([]) 0).bind fun y1 =>
  if (decide (y1.2.2.2.1 = (0 : Int))) then
  (if (decide ((64 : Int) < (y1.2.2.1.length : Int))) then (expr_Parse.j5 n y1.1 y1.2.1 y1.2.2.1 (24 : Int))
  else (expr_Parse.j5 n y1.1 y1.2.1 y1.2.2.1 y1.2.2.2.1))
  else (expr_Parse.j5 n y1.1 y1.2.1 y1.2.2.1 y1.2.2.2.1)
def g (a : List Tk) (b : Int) : Option ((List It) × Int × Int × Unit) := f (1000 + a.length + b.toNat) a b
end expr_Parse
namespace rivetref15_Same
def l4 (n : Nat) : Nat → (List It) → (List It) → Int → Option (Bool × Unit)
 | 0, _, _, _ => none
 | m + 1, a, b, c =>
  if (decide (c < (a.length : Int))) then
  (if 0 ≤ c ∧ c < (a.length : Int) then
  (if 0 ≤ c ∧ c < (b.length : Int) then
  (if (!(decide ((a.getD (c).toNat zI).1 = (b.getD (c).toNat zI).1) && (decide (((a.getD (c).toNat zI).2).1 = ((b.getD (c).toNat zI).2).1) && (decide ((((a.getD (c).toNat zI).2).2).1 = (((b.getD (c).toNat zI).2).2).1) && true)))) then (some (false, ()))
  else
  ((rivetref15_Same.l4 n m) a b (IntKind.i64.wrap (c + (1 : Int))))) else none) else none)
  else (some (true, ()))
def f (n : Nat) (a : List It) (b : List It) : Option (Bool × Unit) :=
  if (decide ((a.length : Int) ≠ (b.length : Int))) then (some (false, ()))
  else (rivetref15_Same.l4 n n a b (0 : Int))
def g (a : List It) (b : List It) : Option (Bool × Unit) := f (1000 + a.length + b.length) a b
end rivetref15_Same
end Rv
namespace Rv
open Go
set_option maxRecDepth 100000
namespace stmt_parser_check
def f (n : Nat) (a : Bool) (b : List Tk) (c : Int) (d : Int) : Option ((List Tk) × Int × Int × Unit) :=
  if (!a) then
  (if (decide (d = (0 : Int))) then (some (b, c, (22 : Int), ()))
  else (some (b, c, d, ())))
  else (some (b, c, d, ()))
def g (a : Bool) (b : List Tk) (c : Int) (d : Int) : Option ((List Tk) × Int × Int × Unit) := f (1000 + b.length + c.toNat + d.toNat) a b c d
end stmt_parser_check
namespace stmt_dotted
def f (n : Nat) (a : Int) : Option (Bool × Unit) :=
  if (decide (a = (9 : Int))) = false then (some ((decide (a = (10 : Int))), ()))
  else (some (true, ()))
def g (a : Int) : Option (Bool × Unit) := f (1000 + a.toNat) a
end stmt_dotted
namespace stmt_parser_peek
def f (n : Nat) (a : Int) (b : List Tk) (c : Int) (d : Int) : Option (Str × (List Tk) × Int × Int × Unit) :=
  if (decide (d ≠ (0 : Int))) = false then
  (if (decide ((b.length : Int) ≤ c)) = false then
  (if 0 ≤ c ∧ c < (b.length : Int) then
  (if (decide ((b.getD (c).toNat zT).1 ≠ a)) then (some (([] : Str), b, c, d, ()))
  else
  (if 0 ≤ c ∧ c < (b.length : Int) then
  (some ((((b.getD (c).toNat zT).2).2).1, b, c, d, ())) else none)) else none)
  else (some (([] : Str), b, c, d, ())))
  else (some (([] : Str), b, c, d, ()))
def g (a : Int) (b : List Tk) (c : Int) (d : Int) : Option (Str × (List Tk) × Int × Int × Unit) := f (1000 + a.toNat + b.length + c.toNat + d.toNat) a b c d
end stmt_parser_peek
namespace stmt_parser_take
def f (n : Nat) (a : Int) (b : List Tk) (c : Int) (d : Int) : Option (Str × (List Tk) × Int × Int × Unit) :=
  (stmt_parser_peek.g a b c d).bind fun y1 =>
  some (y1.1, y1.2.1, (IntKind.i64.wrap (y1.2.2.1 + (1 : Int))), y1.2.2.2.1, ())
def g (a : Int) (b : List Tk) (c : Int) (d : Int) : Option (Str × (List Tk) × Int × Int × Unit) := f (1000 + a.toNat + b.length + c.toNat + d.toNat) a b c d
end stmt_parser_take
namespace stmt_parser_choose
def f (n : Nat) (a : List Tk) (b : Int) (c : Int) (d : Int) (e : Int) (i : Int) (j : Int) (k : Int) (l : Bool) (o : List It) (p : Str) : Option ((List Tk) × Int × Int × Int × Int × Int × Int × Int × Bool × (List It) × Str × Unit) :=
  (stmt_parser_peek.g (1 : Int) a b c).bind fun y1 =>
  (name_Reg.g y1.1).bind fun y2 =>
  if (decide (d = (1 : Int))) then
  (if (!y2.2.1) = false then
  (if l then
  (if (decide (e = (0 : Int))) then
  (some (y1.2.1, y1.2.2.1, y1.2.2.2.1, (2 : Int), e, i, j, k, l, o, p, ()))
  else
  (if (decide (d = (7 : Int))) then
  (if y2.2.1 then
  (some (y1.2.1, y1.2.2.1, y1.2.2.2.1, (6 : Int), e, i, j, k, l, o, p, ()))
  else
  (some (y1.2.1, y1.2.2.1, y1.2.2.2.1, d, e, i, j, k, l, o, p, ())))
  else
  (some (y1.2.1, y1.2.2.1, y1.2.2.2.1, d, e, i, j, k, l, o, p, ()))))
  else
  (if (decide (d = (7 : Int))) then
  (if y2.2.1 then
  (some (y1.2.1, y1.2.2.1, y1.2.2.2.1, (6 : Int), e, i, j, k, l, o, p, ()))
  else
  (some (y1.2.1, y1.2.2.1, y1.2.2.2.1, d, e, i, j, k, l, o, p, ())))
  else
  (some (y1.2.1, y1.2.2.1, y1.2.2.2.1, d, e, i, j, k, l, o, p, ()))))
  else
  (some (y1.2.1, y1.2.2.1, y1.2.2.2.1, (2 : Int), e, i, j, k, l, o, p, ())))
  else
  (if (decide (d = (7 : Int))) then
  (if y2.2.1 then
  (some (y1.2.1, y1.2.2.1, y1.2.2.2.1, (6 : Int), e, i, j, k, l, o, p, ()))
  else
  (some (y1.2.1, y1.2.2.1, y1.2.2.2.1, d, e, i, j, k, l, o, p, ())))
  else
  (some (y1.2.1, y1.2.2.1, y1.2.2.2.1, d, e, i, j, k, l, o, p, ())))
def g (a : List Tk) (b : Int) (c : Int) (d : Int) (e : Int) (i : Int) (j : Int) (k : Int) (l : Bool) (o : List It) (p : Str) : Option ((List Tk) × Int × Int × Int × Int × Int × Int × Int × Bool × (List It) × Str × Unit) := f (1000 + a.length + b.toNat + c.toNat + d.toNat + e.toNat + i.toNat + j.toNat + k.toNat + o.length + p.length) a b c d e i j k l o p
end stmt_parser_choose
namespace stmt_operands_1
def f (n : Nat) (a : Int) (b : Int) (c : Int) (d : Int) (e : Int) (i : Bool) (j : List It) (k : Str) : Option (Unit × Int × Int × Int × Int × Int × Bool × (List It) × Str × Unit) :=
  some ((), a, b, c, d, e, i, j, k, ())
def g (a : Int) (b : Int) (c : Int) (d : Int) (e : Int) (i : Bool) (j : List It) (k : Str) : Option (Unit × Int × Int × Int × Int × Int × Bool × (List It) × Str × Unit) := f (1000 + a.toNat + b.toNat + c.toNat + d.toNat + e.toNat + j.length + k.length) a b c d e i j k
end stmt_operands_1
namespace stmt_operands_2
def f (n : Nat) (a : Int) (b : Int) (c : Int) (d : Int) (e : Int) (i : Bool) (j : List It) (k : Str) : Option (Unit × Int × Int × Int × Int × Int × Bool × (List It) × Str × Unit) :=
  some ((), a, b, c, d, e, i, j, k, ())
def g (a : Int) (b : Int) (c : Int) (d : Int) (e : Int) (i : Bool) (j : List It) (k : Str) : Option (Unit × Int × Int × Int × Int × Int × Bool × (List It) × Str × Unit) := f (1000 + a.toNat + b.toNat + c.toNat + d.toNat + e.toNat + j.length + k.length) a b c d e i j k
end stmt_operands_2
namespace stmt_operands_3
def f (n : Nat) (a : Int) (b : Int) (c : Int) (d : Int) (e : Int) (i : Bool) (j : List It) (k : Str) : Option (Unit × Int × Int × Int × Int × Int × Bool × (List It) × Str × Unit) :=
  some ((), a, b, c, d, e, i, j, k, ())
def g (a : Int) (b : Int) (c : Int) (d : Int) (e : Int) (i : Bool) (j : List It) (k : Str) : Option (Unit × Int × Int × Int × Int × Int × Bool × (List It) × Str × Unit) := f (1000 + a.toNat + b.toNat + c.toNat + d.toNat + e.toNat + j.length + k.length) a b c d e i j k
end stmt_operands_3
namespace stmt_register_1
def f (n : Nat) (a : Fn) (b : List Tk) (c : Int) (d : Int) (e : Int) (i : Int) (j : Int) (k : Int) (l : Int) (o : Bool) (p : List It) (q : Str) : Option ((List Tk) × Int × Int × Int × Int × Int × Int × Int × Bool × (List It) × Str × Unit) :=
  (stmt_parser_take.g (1 : Int) b c d).bind fun y1 =>
  (name_Reg.g y1.1).bind fun y2 =>
  (stmt_parser_check.g y2.2.1 y1.2.1 y1.2.2.1 y1.2.2.2.1).bind fun y3 =>
  if a = K.atA then ((stmt_operands_1.g e i j k l o p q).bind fun y4 =>
  some (y3.1, y3.2.1, y3.2.2.1, y4.2.1, y4.2.2.1, y2.1, y4.2.2.2.2.1, y4.2.2.2.2.2.1, y4.2.2.2.2.2.2.1, y4.2.2.2.2.2.2.2.1, y4.2.2.2.2.2.2.2.2.1, ()))
  else if a = K.atB then ((stmt_operands_2.g e i j k l o p q).bind fun y5 =>
  some (y3.1, y3.2.1, y3.2.2.1, y5.2.1, y5.2.2.1, y5.2.2.2.1, y2.1, y5.2.2.2.2.2.1, y5.2.2.2.2.2.2.1, y5.2.2.2.2.2.2.2.1, y5.2.2.2.2.2.2.2.2.1, ()))
  else if a = K.atC then ((stmt_operands_3.g e i j k l o p q).bind fun y6 =>
  some (y3.1, y3.2.1, y3.2.2.1, y6.2.1, y6.2.2.1, y6.2.2.2.1, y6.2.2.2.2.1, y2.1, y6.2.2.2.2.2.2.1, y6.2.2.2.2.2.2.2.1, y6.2.2.2.2.2.2.2.2.1, ()))
  else none
def g (a : Fn) (b : List Tk) (c : Int) (d : Int) (e : Int) (i : Int) (j : Int) (k : Int) (l : Int) (o : Bool) (p : List It) (q : Str) : Option ((List Tk) × Int × Int × Int × Int × Int × Int × Int × Bool × (List It) × Str × Unit) := f (1000 + b.length + c.toNat + d.toNat + e.toNat + i.toNat + j.toNat + k.toNat + l.toNat + p.length + q.length) a b c d e i j k l o p q
end stmt_register_1
namespace stmt_number_1
def j2 (n : Nat) (a : List Tk) (b : Int) (c : Int) (d : Int) (e : Int) (i : Int) (j : Int) (k : Int) (l : Bool) (o : List It) (p : Str) : Option ((List Tk) × Int × Int × Int × Int × Int × Int × Int × Bool × (List It) × Str × Unit) :=
  if (decide (c = (0 : Int))) then
  ((expr_Parse.g a b).bind fun y1 =>
  some (a, y1.2.1, y1.2.2.1, d, e, i, j, k, l, y1.1, p, ()))
  else (some (a, b, c, d, e, i, j, k, l, o, p, ()))
def f (n : Nat) (a : Str) (b : List Tk) (c : Int) (d : Int) (e : Int) (i : Int) (j : Int) (k : Int) (l : Int) (o : Bool) (p : List It) (q : Str) : Option ((List Tk) × Int × Int × Int × Int × Int × Int × Int × Bool × (List It) × Str × Unit) :=
  if (!(decide (a = ([] : Str)))) then
  ((stmt_parser_take.g (3 : Int) b c d).bind fun y1 =>
  (stmt_parser_check.g (decide (y1.1 = a)) y1.2.1 y1.2.2.1 y1.2.2.2.1).bind fun y2 =>
  stmt_number_1.j2 n y2.1 y2.2.1 y2.2.2.1 e i j k l o p q)
  else (stmt_number_1.j2 n b c d e i j k l o p q)
def g (a : Str) (b : List Tk) (c : Int) (d : Int) (e : Int) (i : Int) (j : Int) (k : Int) (l : Int) (o : Bool) (p : List It) (q : Str) : Option ((List Tk) × Int × Int × Int × Int × Int × Int × Int × Bool × (List It) × Str × Unit) := f (1000 + a.length + b.length + c.toNat + d.toNat + e.toNat + i.toNat + j.toNat + k.toNat + l.toNat + p.length + q.length) a b c d e i j k l o p q
end stmt_number_1
namespace le_is
def j4 (n : Nat) (a : Int) (b : Bool) : Option (Bool × Unit) :=
  if (!b) then
  (if (decide (a = (95 : Int))) = false then
  (if (decide ((48 : Int) ≤ a)) then (some ((decide (a ≤ (57 : Int))), ()))
  else (some (false, ())))
  else (some (true, ())))
  else (some (false, ()))
def f (n : Nat) (a : Int) (b : Bool) : Option (Bool × Unit) :=
  if (decide ((65 : Int) ≤ a)) then
  (if (decide (a ≤ (90 : Int))) then
  (if (decide (a ≤ (90 : Int))) then (some (true, ()))
  else (le_is.j4 n a b))
  else
  (if (decide ((97 : Int) ≤ a)) then
  (if (decide (a ≤ (122 : Int))) then (some (true, ()))
  else (le_is.j4 n a b))
  else (le_is.j4 n a b)))
  else
  (if (decide ((97 : Int) ≤ a)) then
  (if (decide (a ≤ (122 : Int))) then (some (true, ()))
  else (le_is.j4 n a b))
  else (le_is.j4 n a b))
def g (a : Int) (b : Bool) : Option (Bool × Unit) := f (1000 + a.toNat) a b
end le_is
namespace le_Name
def l4 (n : Nat) : Nat → Str → Int → Int → Option (Bool × Unit)
 | 0, _, _, _ => none
 | m + 1, a, b, c =>
  if (decide (c < b)) then
  (if 0 ≤ c ∧ c < (a.length : Int) then
  ((le_is.g (bt a c) (decide (c = (0 : Int)))).bind fun y1 =>
  if (!y1.1) then (some (false, ()))
  else ((le_Name.l4 n m) a b (IntKind.i64.wrap (c + (1 : Int))))) else none)
  else
  (if 0 ≤ (0 : Int) ∧ (0 : Int) < (a.length : Int) then
  (if (decide ((bt a (0 : Int)) = (82 : Int))) then
  (if (decide ((a.length : Int) = (2 : Int))) = false then
  (if (decide ((a.length : Int) = (3 : Int))) then
  (if 0 ≤ (1 : Int) ∧ (1 : Int) ≤ (a.length : Int) then
  ((L.trimO ((a.take (((a.length : Int)).toNat)).drop (((1 : Int)).toNat)) ([48, 49, 50, 51, 52, 53, 54, 55, 56, 57] : Str)).bind fun y2 =>
  some ((!(decide (y2.1 = ([] : Str)))), ())) else none)
  else (some (true, ())))
  else
  (if 0 ≤ (1 : Int) ∧ (1 : Int) ≤ (a.length : Int) then
  ((L.trimO ((a.take (((a.length : Int)).toNat)).drop (((1 : Int)).toNat)) ([48, 49, 50, 51, 52, 53, 54, 55, 56, 57] : Str)).bind fun y3 =>
  some ((!(decide (y3.1 = ([] : Str)))), ())) else none))
  else (some (true, ()))) else none)
def f (n : Nat) (a : Str) : Option (Bool × Unit) :=
  if (decide ((a.length : Int) = (0 : Int))) = false then
  (if (decide ((12 : Int) < (a.length : Int))) then (some (false, ()))
  else (le_Name.l4 n n a (a.length : Int) (0 : Int)))
  else (some (false, ()))
def g (a : Str) : Option (Bool × Unit) := f (1000 + a.length) a
end le_Name
namespace stmt_operands_4
def f (n : Nat) (a : List Tk) (b : Int) (c : Int) (d : Int) (e : Int) (i : Int) (j : Int) (k : Int) (l : Bool) (o : List It) (p : Str) : Option ((List Tk) × Int × Int × Int × Int × Int × Int × Int × Bool × (List It) × Str × Unit) :=
  (stmt_parser_take.g (1 : Int) a b c).bind fun y1 =>
  (le_Name.g y1.1).bind fun y2 =>
  (stmt_parser_check.g y2.1 y1.2.1 y1.2.2.1 y1.2.2.2.1).bind fun y3 =>
  some (y3.1, y3.2.1, y3.2.2.1, d, e, i, j, k, l, o, y1.1, ())
def g (a : List Tk) (b : Int) (c : Int) (d : Int) (e : Int) (i : Int) (j : Int) (k : Int) (l : Bool) (o : List It) (p : Str) : Option ((List Tk) × Int × Int × Int × Int × Int × Int × Int × Bool × (List It) × Str × Unit) := f (1000 + a.length + b.toNat + c.toNat + d.toNat + e.toNat + i.toNat + j.toNat + k.toNat + o.length + p.length) a b c d e i j k l o p
end stmt_operands_4
namespace stmt_Parse
def j20 (n : Nat) (rl13 : (List Tk) → Str → Int → Int → Int → Int → Int → Int → Int → Int → Int → Bool → (List It) → Str → (List Tk) → Int → Int → Option (Str × Int × Int × Int × Int × Int × Bool × (List It) × Str × Int × Unit)) (a : List Tk) (b : Str) (c : Int) (d : Int) (e : Int) (i : Int) (j : Int) (k : Int) (l : Int) (o : Int) (p : Int) (q : Bool) (r : List It) (s : Str) (t : List Tk) (u : Int) (v : Int) : Option (Str × Int × Int × Int × Int × Int × Bool × (List It) × Str × Int × Unit) :=
  rl13 a b c d e (IntKind.i64.wrap (i + (1 : Int))) j k l o p q r s t u v
def j19 (n : Nat) (rl13 : (List Tk) → Str → Int → Int → Int → Int → Int → Int → Int → Int → Int → Bool → (List It) → Str → (List Tk) → Int → Int → Option (Str × Int × Int × Int × Int × Int × Bool × (List It) × Str × Int × Unit)) (a : List Tk) (b : Str) (c : Int) (d : Int) (e : Int) (i : Int) (j : Int) (k : Int) (l : Int) (o : Int) (p : Int) (q : Int) (r : Bool) (s : List It) (t : Str) (u : List Tk) (v : Int) (w : Int) : Option (Str × Int × Int × Int × Int × Int × Bool × (List It) × Str × Int × Unit) :=
  if 0 ≤ e ∧ e < ((L.opsR k c).length : Int) then
  (if ((L.opsR k c).getD (e).toNat (((0, []) : Fn), (((0, []) : Fn), ()))).1 = K.rdA then ((stmt_register_1.g K.atA u v w k l o p q r s t).bind fun y2 =>
  stmt_Parse.j20 n rl13 a b c d i j y2.2.2.2.1 y2.2.2.2.2.1 y2.2.2.2.2.2.1 y2.2.2.2.2.2.2.1 y2.2.2.2.2.2.2.2.1 y2.2.2.2.2.2.2.2.2.1 y2.2.2.2.2.2.2.2.2.2.1 y2.2.2.2.2.2.2.2.2.2.2.1 y2.1 y2.2.1 y2.2.2.1)
  else if ((L.opsR k c).getD (e).toNat (((0, []) : Fn), (((0, []) : Fn), ()))).1 = K.rdB then ((stmt_register_1.g K.atB u v w k l o p q r s t).bind fun y3 =>
  stmt_Parse.j20 n rl13 a b c d i j y3.2.2.2.1 y3.2.2.2.2.1 y3.2.2.2.2.2.1 y3.2.2.2.2.2.2.1 y3.2.2.2.2.2.2.2.1 y3.2.2.2.2.2.2.2.2.1 y3.2.2.2.2.2.2.2.2.2.1 y3.2.2.2.2.2.2.2.2.2.2.1 y3.1 y3.2.1 y3.2.2.1)
  else if ((L.opsR k c).getD (e).toNat (((0, []) : Fn), (((0, []) : Fn), ()))).1 = K.rdC then ((stmt_register_1.g K.atC u v w k l o p q r s t).bind fun y4 =>
  stmt_Parse.j20 n rl13 a b c d i j y4.2.2.2.1 y4.2.2.2.2.1 y4.2.2.2.2.2.1 y4.2.2.2.2.2.2.1 y4.2.2.2.2.2.2.2.1 y4.2.2.2.2.2.2.2.2.1 y4.2.2.2.2.2.2.2.2.2.1 y4.2.2.2.2.2.2.2.2.2.2.1 y4.1 y4.2.1 y4.2.2.1)
  else if ((L.opsR k c).getD (e).toNat (((0, []) : Fn), (((0, []) : Fn), ()))).1 = K.rdE then ((stmt_number_1.g ([] : Str) u v w k l o p q r s t).bind fun y5 =>
  stmt_Parse.j20 n rl13 a b c d i j y5.2.2.2.1 y5.2.2.2.2.1 y5.2.2.2.2.2.1 y5.2.2.2.2.2.2.1 y5.2.2.2.2.2.2.2.1 y5.2.2.2.2.2.2.2.2.1 y5.2.2.2.2.2.2.2.2.2.1 y5.2.2.2.2.2.2.2.2.2.2.1 y5.1 y5.2.1 y5.2.2.1)
  else if ((L.opsR k c).getD (e).toNat (((0, []) : Fn), (((0, []) : Fn), ()))).1 = K.rdQ then ((stmt_number_1.g ([61] : Str) u v w k l o p q r s t).bind fun y6 =>
  stmt_Parse.j20 n rl13 a b c d i j y6.2.2.2.1 y6.2.2.2.2.1 y6.2.2.2.2.2.1 y6.2.2.2.2.2.2.1 y6.2.2.2.2.2.2.2.1 y6.2.2.2.2.2.2.2.2.1 y6.2.2.2.2.2.2.2.2.2.1 y6.2.2.2.2.2.2.2.2.2.2.1 y6.1 y6.2.1 y6.2.2.1)
  else if ((L.opsR k c).getD (e).toNat (((0, []) : Fn), (((0, []) : Fn), ()))).1 = K.rdN then ((stmt_operands_4.g u v w k l o p q r s t).bind fun y7 =>
  stmt_Parse.j20 n rl13 a b c d i j y7.2.2.2.1 y7.2.2.2.2.1 y7.2.2.2.2.2.1 y7.2.2.2.2.2.2.1 y7.2.2.2.2.2.2.2.1 y7.2.2.2.2.2.2.2.2.1 y7.2.2.2.2.2.2.2.2.2.1 y7.2.2.2.2.2.2.2.2.2.2.1 y7.1 y7.2.1 y7.2.2.1)
  else none) else none
def j17 (n : Nat) (rl13 : (List Tk) → Str → Int → Int → Int → Int → Int → Int → Int → Int → Int → Bool → (List It) → Str → (List Tk) → Int → Int → Option (Str × Int × Int × Int × Int × Int × Bool × (List It) × Str × Int × Unit)) (a : List Tk) (b : Str) (c : Int) (d : Int) (e : Int) (i : Int) (j : Int) (k : Int) (l : Int) (o : Int) (p : Int) (q : Int) (r : Bool) (s : List It) (t : Str) (u : List Tk) (v : Int) (w : Int) : Option (Str × Int × Int × Int × Int × Int × Bool × (List It) × Str × Int × Unit) :=
  if (decide (e = (IntKind.i64.wrap (d - (1 : Int))))) then
  ((stmt_parser_choose.g u v w k l o p q r s t).bind fun y1 =>
  stmt_Parse.j19 n rl13 a b c d e i j y1.2.2.2.1 y1.2.2.2.2.1 y1.2.2.2.2.2.1 y1.2.2.2.2.2.2.1 y1.2.2.2.2.2.2.2.1 y1.2.2.2.2.2.2.2.2.1 y1.2.2.2.2.2.2.2.2.2.1 y1.2.2.2.2.2.2.2.2.2.2.1 y1.1 y1.2.1 y1.2.2.1)
  else (stmt_Parse.j19 n rl13 a b c d e i j k l o p q r s t u v w)
def j22 (n : Nat) (a : Str) (b : Int) (c : Int) (d : Int) (e : Int) (i : Int) (j : Bool) (k : List It) (l : Str) (o : List Tk) (p : Int) (q : Int) : Option (Str × Int × Int × Int × Int × Int × Bool × (List It) × Str × Int × Unit) :=
  if (decide (q ≠ (0 : Int))) then
  (some (([] : Str), 0, 0, 0, 0, 0, false, [], ([] : Str), q, ()))
  else (some (a, b, c, d, e, i, j, k, l, (0 : Int), ()))
def l13 (n : Nat) : Nat → (List Tk) → Str → Int → Int → Int → Int → Int → Int → Int → Int → Int → Bool → (List It) → Str → (List Tk) → Int → Int → Option (Str × Int × Int × Int × Int × Int × Bool × (List It) × Str × Int × Unit)
 | 0, _, _, _, _, _, _, _, _, _, _, _, _, _, _, _, _, _ => none
 | m + 1, a, b, c, d, e, i, j, k, l, o, p, q, r, s, t, u, v =>
  if (decide (i < e)) then
  (if (decide ((0 : Int) < i)) then
  ((stmt_parser_take.g (3 : Int) t u v).bind fun y1 =>
  (stmt_parser_check.g (decide (y1.1 = ([44] : Str))) y1.2.1 y1.2.2.1 y1.2.2.2.1).bind fun y2 =>
  stmt_Parse.j17 n (stmt_Parse.l13 n m) a b c d i e i j k l o p q r s y2.1 y2.2.1 y2.2.2.1)
  else
  (stmt_Parse.j17 n (stmt_Parse.l13 n m) a b c d i e i j k l o p q r s t u v))
  else
  ((stmt_parser_check.g (decide ((a.length : Int) ≤ u)) t u v).bind fun y3 =>
  stmt_Parse.j22 n b j k l o p q r s y3.1 y3.2.1 y3.2.2.1)
def j9 (n : Nat) (a : List Tk) (b : Str) (c : Int) (d : Int) (e : Bool) (i : Int) (j : Int) (k : Int) (l : Int) (o : Int) (p : Bool) (q : List It) (r : Str) (s : List Tk) (t : Int) (u : Int) : Option (Str × Int × Int × Int × Int × Int × Bool × (List It) × Str × Int × Unit) :=
  stmt_Parse.l13 n n a b d ((L.opsR c d).length : Int) ((L.opsR c d).length : Int) (0 : Int) c d 0 0 0 e ([]) ([] : Str) s (IntKind.i64.wrap (t + (1 : Int))) u
def j5 (n : Nat) (a : List Tk) (b : Str) (c : Int) (d : Int) (e : Int) (i : Int) (j : Int) (k : Bool) (l : List It) (o : Str) (p : List Tk) (q : Int) (r : Int) : Option (Str × Int × Int × Int × Int × Int × Bool × (List It) × Str × Int × Unit) :=
  if (decide (r = (0 : Int))) then
  (if (decide (q < (a.length : Int))) then
  (if 0 ≤ q ∧ q < (a.length : Int) then
  ((L.nameOfO ((((a.getD (q).toNat zT).2).2).1)).bind fun y1 =>
  if y1.2.2.2.1 then
  ((stmt_dotted.g y1.1).bind fun y2 =>
  if ((decide ((a.getD (q).toNat zT).1 = (4 : Int))) == y2.1) then
  (if (decide ((a.getD (q).toNat zT).1 = (4 : Int))) = false then
  ((stmt_parser_check.g (decide ((a.getD (q).toNat zT).1 = (1 : Int))) p q r).bind fun y3 =>
  stmt_Parse.j9 n a b y1.1 y1.2.1 y1.2.2.1 c d e i j k l o y3.1 y3.2.1 y3.2.2.1)
  else
  ((stmt_parser_check.g true p q r).bind fun y4 =>
  stmt_Parse.j9 n a b y1.1 y1.2.1 y1.2.2.1 c d e i j k l o y4.1 y4.2.1 y4.2.2.1))
  else
  ((stmt_parser_check.g false p q r).bind fun y5 =>
  stmt_Parse.j9 n a b y1.1 y1.2.1 y1.2.2.1 c d e i j k l o y5.1 y5.2.1 y5.2.2.1))
  else
  ((stmt_parser_check.g false p q r).bind fun y6 =>
  stmt_Parse.j9 n a b y1.1 y1.2.1 y1.2.2.1 c d e i j k l o y6.1 y6.2.1 y6.2.2.1)) else none)
  else (stmt_Parse.j22 n b c d e i j k l o p q r))
  else (stmt_Parse.j22 n b c d e i j k l o p q r)
def f (n : Nat) (a : List Tk) : Option (Str × Int × Int × Int × Int × Int × Bool × (List It) × Str × Int × Unit) :=
  if (decide ((1 : Int) < (a.length : Int))) then
  (if 0 ≤ (0 : Int) ∧ (0 : Int) < (a.length : Int) then
  (if (decide ((a.getD ((0 : Int)).toNat zT).1 = (1 : Int))) then
  (if 0 ≤ (1 : Int) ∧ (1 : Int) < (a.length : Int) then
  (if (decide ((a.getD ((1 : Int)).toNat zT).1 = (3 : Int))) then
  (if 0 ≤ (1 : Int) ∧ (1 : Int) < (a.length : Int) then
  (if (decide ((((a.getD ((1 : Int)).toNat zT).2).2).1 = ([58] : Str))) then
  (if 0 ≤ (0 : Int) ∧ (0 : Int) < (a.length : Int) then
  ((name_Label.g ((((a.getD ((0 : Int)).toNat zT).2).2).1)).bind fun y1 =>
  (stmt_parser_check.g y1.1 a (2 : Int) 0).bind fun y2 =>
  stmt_Parse.j5 n a ((((a.getD ((0 : Int)).toNat zT).2).2).1) 0 0 0 0 0 false ([]) ([] : Str) y2.1 y2.2.1 y2.2.2.1) else none)
  else
  (stmt_Parse.j5 n a ([] : Str) 0 0 0 0 0 false ([]) ([] : Str) a 0 0)) else none)
  else
  (stmt_Parse.j5 n a ([] : Str) 0 0 0 0 0 false ([]) ([] : Str) a 0 0)) else none)
  else
  (stmt_Parse.j5 n a ([] : Str) 0 0 0 0 0 false ([]) ([] : Str) a 0 0)) else none)
  else
  (stmt_Parse.j5 n a ([] : Str) 0 0 0 0 0 false ([]) ([] : Str) a 0 0)
def g (a : List Tk) : Option (Str × Int × Int × Int × Int × Int × Bool × (List It) × Str × Int × Unit) := f (1000 + a.length) a
end stmt_Parse
end Rv
namespace Rv
open Go
set_option maxRecDepth 100000
namespace rivetref17_Instr
def f (n : Nat) (a : Int) (b : Int) (c : Int) (d : Int) (e : Int) (i : Bool) (j : List It) (k : Str) : Option (Int × Int × Int × Int × Int × Int × Bool × Unit) :=
  some (a, b, c, d, e, 0, i, ())
def g (a : Int) (b : Int) (c : Int) (d : Int) (e : Int) (i : Bool) (j : List It) (k : Str) : Option (Int × Int × Int × Int × Int × Int × Bool × Unit) := f (1000 + a.toNat + b.toNat + c.toNat + d.toNat + e.toNat + j.length + k.length) a b c d e i j k
end rivetref17_Instr
namespace rivetref17_Same
def f (n : Nat) (a : Int) (b : Int) (c : Int) (d : Int) (e : Int) (i : Bool) (j : List It) (k : Str) (l : Int) (o : Int) (p : Int) (q : Int) (r : Int) (s : Bool) (t : List It) (u : Str) : Option (Bool × Unit) :=
  (rivetref17_Instr.g a b c d e i j k).bind fun y1 =>
  (rivetref17_Instr.g l o p q r s t u).bind fun y2 =>
  if (decide (y1.1 = y2.1) && (decide (y1.2.1 = y2.2.1) && (decide (y1.2.2.1 = y2.2.2.1) && (decide (y1.2.2.2.1 = y2.2.2.2.1) && (decide (y1.2.2.2.2.1 = y2.2.2.2.2.1) && (decide (y1.2.2.2.2.2.1 = y2.2.2.2.2.2.1) && ((y1.2.2.2.2.2.2.1 == y2.2.2.2.2.2.2.1) && true))))))) then
  ((rivetref15_Same.g j t).bind fun y3 =>
  if y3.1 then (some ((decide (k = u)), ()))
  else (some (false, ())))
  else (some (false, ()))
def g (a : Int) (b : Int) (c : Int) (d : Int) (e : Int) (i : Bool) (j : List It) (k : Str) (l : Int) (o : Int) (p : Int) (q : Int) (r : Int) (s : Bool) (t : List It) (u : Str) : Option (Bool × Unit) := f (1000 + a.toNat + b.toNat + c.toNat + d.toNat + e.toNat + j.length + k.length + l.toNat + o.toNat + p.toNat + q.toNat + r.toNat + t.length + u.length) a b c d e i j k l o p q r s t u
end rivetref17_Same
end Rv
namespace Rv
open Go
set_option maxRecDepth 100000
namespace text_one
def f (n : Nat) (a : Str) : Option (Str × Int × Int × Int × Int × Int × Bool × (List It) × Str × Int × Unit) :=
  (scan_Line.g a).bind fun y1 =>
  if (decide (y1.2.1 ≠ (0 : Int))) then
  (some (([] : Str), 0, 0, 0, 0, 0, false, [], ([] : Str), y1.2.1, ()))
  else
  ((stmt_Parse.g y1.1).bind fun y2 =>
  some (y2.1, y2.2.1, y2.2.2.1, y2.2.2.2.1, y2.2.2.2.2.1, y2.2.2.2.2.2.1, y2.2.2.2.2.2.2.1, y2.2.2.2.2.2.2.2.1, y2.2.2.2.2.2.2.2.2.1, y2.2.2.2.2.2.2.2.2.2.1, ()))
def g (a : Str) : Option (Str × Int × Int × Int × Int × Int × Bool × (List It) × Str × Int × Unit) := f (1000 + a.length) a
end text_one
namespace text_each_string_api_Line
def l5 (n : Nat) : Nat → (List Ln) → (List Str) → Int → Int → Option ((List Ln) × Int × Int × Unit)
 | 0, _, _, _, _ => none
 | m + 1, a, b, c, d =>
  if (decide (d < c)) then
  (if 0 ≤ d ∧ d < (b.length : Int) then
  ((text_one.g (b.getD (d).toNat ([] : Str))).bind fun y1 =>
  if (decide (y1.2.2.2.2.2.2.2.2.2.1 ≠ (0 : Int))) then
  (some ([], (IntKind.i64.wrap (d + (1 : Int))), y1.2.2.2.2.2.2.2.2.2.1, ()))
  else
  (if (a.length + ([(y1.1, (y1.2.1, y1.2.2.1, y1.2.2.2.1, y1.2.2.2.2.1, y1.2.2.2.2.2.1, y1.2.2.2.2.2.2.1, y1.2.2.2.2.2.2.2.1, y1.2.2.2.2.2.2.2.2.1, ()), ())] : List Ln).length) * 104 ≤ 140737488355328 ∧ 0 < 104 ∧ 0 < 9 then
  ((text_each_string_api_Line.l5 n m) (a ++ ([(y1.1, (y1.2.1, y1.2.2.1, y1.2.2.2.1, y1.2.2.2.2.1, y1.2.2.2.2.2.1, y1.2.2.2.2.2.2.1, y1.2.2.2.2.2.2.2.1, y1.2.2.2.2.2.2.2.2.1, ()), ())] : List Ln)) b c (IntKind.i64.wrap (d + (1 : Int)))) else none)) else none)
  else (some (a, (0 : Int), (0 : Int), ()))
def f (n : Nat) (a : List Str) : Option ((List Ln) × Int × Int × Unit) :=
  if (decide ((4096 : Int) < (a.length : Int))) then (some ([], (0 : Int), (2 : Int), ()))
  else
  (text_each_string_api_Line.l5 n n ([]) a (a.length : Int) (0 : Int))
def g (a : List Str) : Option ((List Ln) × Int × Int × Unit) := f (1000 + a.length) a
end text_each_string_api_Line
namespace text_Parse
def j7 (n : Nat) (a : List Str) : Option ((List Ln) × Int × Int × Unit) :=
  (text_each_string_api_Line.g a).bind fun y1 =>
  some (y1.1, y1.2.1, y1.2.2.1, ())
def f (n : Nat) (a : Str) : Option ((List Ln) × Int × Int × Unit) :=
  if (decide ((262144 : Int) < (a.length : Int))) then (some ([], (0 : Int), (2 : Int), ()))
  else
  ((L.splitO a ([10] : Str)).bind fun y1 =>
  if 0 ≤ (IntKind.i64.wrap ((y1.1.length : Int) - (1 : Int))) ∧ (IntKind.i64.wrap ((y1.1.length : Int) - (1 : Int))) < (y1.1.length : Int) then
  (if (decide ((y1.1.getD ((IntKind.i64.wrap ((y1.1.length : Int) - (1 : Int)))).toNat ([] : Str)) = ([] : Str))) then
  (if 0 ≤ (IntKind.i64.wrap ((y1.1.length : Int) - (1 : Int))) ∧ (IntKind.i64.wrap ((y1.1.length : Int) - (1 : Int))) ≤ (y1.1.length : Int) then
  (text_Parse.j7 n ((y1.1.take (((IntKind.i64.wrap ((y1.1.length : Int) - (1 : Int)))).toNat)).drop 0)) else none)
  else (text_Parse.j7 n y1.1)) else none)
def g (a : Str) : Option ((List Ln) × Int × Int × Unit) := f (1000 + a.length) a
end text_Parse
namespace rivetref18_Same
def l4 (n : Nat) : Nat → (List Ln) → (List Ln) → Int → Option (Bool × Unit)
 | 0, _, _, _ => none
 | m + 1, a, b, c =>
  if (decide (c < (a.length : Int))) then
  (if 0 ≤ c ∧ c < (a.length : Int) then
  (if 0 ≤ c ∧ c < (b.length : Int) then
  ((rivetref17_Same.g ((((a.getD (c).toNat zL).2).1).1) (((((a.getD (c).toNat zL).2).1).2).1) ((((((a.getD (c).toNat zL).2).1).2).2).1) (((((((a.getD (c).toNat zL).2).1).2).2).2).1) ((((((((a.getD (c).toNat zL).2).1).2).2).2).2).1) (((((((((a.getD (c).toNat zL).2).1).2).2).2).2).2).1) ((((((((((a.getD (c).toNat zL).2).1).2).2).2).2).2).2).1) (((((((((((a.getD (c).toNat zL).2).1).2).2).2).2).2).2).2).1) ((((b.getD (c).toNat zL).2).1).1) (((((b.getD (c).toNat zL).2).1).2).1) ((((((b.getD (c).toNat zL).2).1).2).2).1) (((((((b.getD (c).toNat zL).2).1).2).2).2).1) ((((((((b.getD (c).toNat zL).2).1).2).2).2).2).1) (((((((((b.getD (c).toNat zL).2).1).2).2).2).2).2).1) ((((((((((b.getD (c).toNat zL).2).1).2).2).2).2).2).2).1) (((((((((((b.getD (c).toNat zL).2).1).2).2).2).2).2).2).2).1)).bind fun y1 =>
  if (!y1.1) = false then
  (if 0 ≤ c ∧ c < (a.length : Int) then
  (if 0 ≤ c ∧ c < (b.length : Int) then
  (if (!(decide ((a.getD (c).toNat zL).1 = (b.getD (c).toNat zL).1))) then (some (false, ()))
  else
  ((rivetref18_Same.l4 n m) a b (IntKind.i64.wrap (c + (1 : Int))))) else none) else none)
  else (some (false, ()))) else none) else none)
  else (some (true, ()))
def f (n : Nat) (a : List Ln) (b : List Ln) : Option (Bool × Unit) :=
  if (decide ((a.length : Int) ≠ (b.length : Int))) then (some (false, ()))
  else (rivetref18_Same.l4 n n a b (0 : Int))
def g (a : List Ln) (b : List Ln) : Option (Bool × Unit) := f (1000 + a.length + b.length) a b
end rivetref18_Same
end Rv
namespace Rv
open Go
set_option maxRecDepth 100000
namespace rivetlaw18_shown
def f (n : Nat) : Option (Bool × Unit) :=
  (text_Parse.g ([97, 58, 32, 77, 79, 86, 32, 82, 49, 44, 32, 49, 10, 66, 32, 43] : Str)).bind fun y1 =>
  (text_Parse.g ([97, 58, 32, 77, 79, 86, 32, 82, 49, 44, 32, 49, 10, 10] : Str)).bind fun y2 =>
  if (decide (y1.2.1 = (2 : Int))) then
  (if (decide (y1.2.2.1 = (23 : Int))) then
  (if (decide ((y2.1.length : Int) = (2 : Int))) then
  (if (decide (y2.2.1 = (0 : Int))) then (some ((decide (y2.2.2.1 = (0 : Int))), ()))
  else (some (false, ())))
  else (some (false, ())))
  else (some (false, ())))
  else (some (false, ()))
def g : Option (Bool × Unit) := f (1000)
end rivetlaw18_shown
namespace rivetlaw18_few
def f (n : Nat) (a : Str) : Option (Str × Unit) :=
  if 0 ≤ (mn (a.length : Int) (500 : Int)) ∧ (mn (a.length : Int) (500 : Int)) ≤ (a.length : Int) then
  (some (((a.take (((mn (a.length : Int) (500 : Int))).toNat)).drop 0), ())) else none
def g (a : Str) : Option (Str × Unit) := f (1000 + a.length) a
end rivetlaw18_few
namespace rivetlaw18_TextJoin
def j9 (n : Nat) (rl8 : Bool → Str → (List Ln) → Int → Int → (List Ln) → Int → Int → (List Ln) → Int → Int → Int → Int → Option (Bool × Unit)) (a : Bool) (b : Str) (c : List Ln) (d : Int) (e : Int) (i : List Ln) (j : Int) (k : Int) (l : List Ln) (o : Int) (p : Int) (q : Int) (r : Int) : Option (Bool × Unit) :=
  rl8 a b c d e i j k l o p q (IntKind.i64.wrap (r + (1 : Int)))
def l8 (n : Nat) : Nat → Bool → Str → (List Ln) → Int → Int → (List Ln) → Int → Int → (List Ln) → Int → Int → Int → Int → Option (Bool × Unit)
 | 0, _, _, _, _, _, _, _, _, _, _, _, _, _ => none
 | m + 1, a, b, c, d, e, i, j, k, l, o, p, q, r =>
  if (decide (r < (b.length : Int))) then
  (if 0 ≤ r ∧ r < (b.length : Int) then
  (if (decide ((bt b r) = (10 : Int))) then
  (rivetlaw18_TextJoin.j9 n (rivetlaw18_TextJoin.l8 n m) a b c d e i j k l o p (IntKind.i64.wrap (q + (1 : Int))) r)
  else
  (rivetlaw18_TextJoin.j9 n (rivetlaw18_TextJoin.l8 n m) a b c d e i j k l o p q r)) else none)
  else
  (if (decide (e ≠ (0 : Int))) then
  (if a then
  (if (decide (p = e)) then
  (if (decide (o = d)) then (some ((decide ((l.length : Int) = (0 : Int))), ()))
  else (some (false, ())))
  else (some (false, ())))
  else (some (false, ())))
  else
  (if (decide (k ≠ (0 : Int))) then
  (if a then
  (if (decide (p = k)) then
  (if (decide (o = (IntKind.i64.wrap (q + j)))) then (some ((decide ((l.length : Int) = (0 : Int))), ()))
  else (some (false, ())))
  else (some (false, ())))
  else (some (false, ())))
  else
  (if a then
  (if (decide (p = (0 : Int))) then
  (if (decide (o = (0 : Int))) then
  (if (decide ((c.length : Int) = q)) then
  (if (([] : List Ln).length + c.length) * 104 ≤ 140737488355328 ∧ 0 < 104 ∧ 0 < 9 then
  (if ((([] : List Ln) ++ c).length + i.length) * 104 ≤ 140737488355328 ∧ 0 < 104 ∧ 0 < 9 then
  ((rivetref18_Same.g l ((([] : List Ln) ++ c) ++ i)).bind fun y1 =>
  some (y1.1, ())) else none) else none)
  else (some (false, ())))
  else (some (false, ())))
  else (some (false, ())))
  else (some (false, ())))))
def f (n : Nat) (a : Str) (b : Str) : Option (Bool × Unit) :=
  (rivetlaw18_shown.g).bind fun y1 =>
  (rivetlaw18_few.g a).bind fun y2 =>
  if y2.1.length + ([10] : Str).length ≤ 9223372036854775807 then
  ((text_Parse.g (y2.1 ++ ([10] : Str))).bind fun y3 =>
  (rivetlaw18_few.g b).bind fun y4 =>
  (text_Parse.g y4.1).bind fun y5 =>
  (rivetlaw18_few.g b).bind fun y6 =>
  if (y2.1 ++ ([10] : Str)).length + y6.1.length ≤ 9223372036854775807 then
  ((text_Parse.g ((y2.1 ++ ([10] : Str)) ++ y6.1)).bind fun y7 =>
  rivetlaw18_TextJoin.l8 n n y1.1 (y2.1 ++ ([10] : Str)) y3.1 y3.2.1 y3.2.2.1 y5.1 y5.2.1 y5.2.2.1 y7.1 y7.2.1 y7.2.2.1 (0 : Int) (0 : Int)) else none) else none
def g (a : Str) (b : Str) : Option (Bool × Unit) := f (1000 + a.length + b.length) a b
end rivetlaw18_TextJoin
namespace rivetlaw18_TextLines
def j6 (n : Nat) (rl5 : Str → Bool → Str → Str → Int → Option (Bool × Unit)) (a : Str) (b : Bool) (c : Str) (d : Str) (e : Int) : Option (Bool × Unit) :=
  rl5 a b c d (IntKind.i64.wrap (e + (1 : Int)))
def j16 (n : Nat) (rl15 : Bool → Str → Str → (List Ln) → Int → Int → Str → Int → Int → Int → Option (Bool × Unit)) (a : Bool) (b : Str) (c : Str) (d : List Ln) (e : Int) (i : Int) (j : Str) (k : Int) (l : Int) (o : Int) : Option (Bool × Unit) :=
  rl15 a b c d e i j k l (IntKind.i64.wrap (o + (1 : Int)))
def j27 (n : Nat) (rl15 : Bool → Str → Str → (List Ln) → Int → Int → Str → Int → Int → Int → Option (Bool × Unit)) (a : Bool) (b : Str) (c : Str) (d : List Ln) (e : Int) (i : Int) (j : Str) (k : Int) (l : Int) (o : Int) : Option (Bool × Unit) :=
  if j.length + ([32] : Str).length ≤ 9223372036854775807 then
  (if 0 ≤ o ∧ o ≤ (c.length : Int) then
  (if 0 ≤ k ∧ k ≤ o then
  (if (j ++ ([32] : Str)).length + ((c.take ((o).toNat)).drop ((k).toNat)).length ≤ 9223372036854775807 then
  (if ((j ++ ([32] : Str)) ++ ((c.take ((o).toNat)).drop ((k).toNat))).length + ([32, 59, 32] : Str).length ≤ 9223372036854775807 then
  (if (((j ++ ([32] : Str)) ++ ((c.take ((o).toNat)).drop ((k).toNat))) ++ ([32, 59, 32] : Str)).length + b.length ≤ 9223372036854775807 then
  (if ((((j ++ ([32] : Str)) ++ ((c.take ((o).toNat)).drop ((k).toNat))) ++ ([32, 59, 32] : Str)) ++ b).length + ([10] : Str).length ≤ 9223372036854775807 then
  (rivetlaw18_TextLines.j16 n rl15 a b c d e i (((((j ++ ([32] : Str)) ++ ((c.take ((o).toNat)).drop ((k).toNat))) ++ ([32, 59, 32] : Str)) ++ b) ++ ([10] : Str)) (IntKind.i64.wrap (o + (1 : Int))) l o) else none) else none) else none) else none) else none) else none) else none
def j23 (n : Nat) (rl15 : Bool → Str → Str → (List Ln) → Int → Int → Str → Int → Int → Int → Option (Bool × Unit)) (a : Bool) (b : Str) (c : Str) (d : List Ln) (e : Int) (i : Int) (j : Str) (k : Int) (l : Int) (o : Int) (p : Int) (q : Str) (r : Int) (s : Int) (t : Int) (u : Int) (v : Int) (w : Bool) (x : List It) (z : Str) : Option (Bool × Unit) :=
  if (decide (p ≠ (0 : Int))) then
  (if a then
  (if (decide (i = p)) then
  (if (decide (e = l)) then (some ((decide ((d.length : Int) = (0 : Int))), ()))
  else (some (false, ())))
  else (some (false, ())))
  else (some (false, ())))
  else
  (if (decide (i = (0 : Int))) then
  (if (decide ((d.length : Int) < l)) = false then
  (if 0 ≤ l ∧ l ≤ (d.length : Int) then
  (if 0 ≤ (IntKind.i64.wrap (l - (1 : Int))) ∧ (IntKind.i64.wrap (l - (1 : Int))) ≤ l then
  ((rivetref18_Same.g ((d.take ((l).toNat)).drop (((IntKind.i64.wrap (l - (1 : Int)))).toNat)) ([(q, (r, s, t, u, v, w, x, z, ()), ())] : List Ln)).bind fun y1 =>
  if (!y1.1) then (some (false, ()))
  else (rivetlaw18_TextLines.j27 n rl15 a b c d e i j k l o)) else none) else none)
  else (some (false, ())))
  else (rivetlaw18_TextLines.j27 n rl15 a b c d e i j k l o))
def j18 (n : Nat) (rl15 : Bool → Str → Str → (List Ln) → Int → Int → Str → Int → Int → Int → Option (Bool × Unit)) (a : Bool) (b : Str) (c : Str) (d : List Ln) (e : Int) (i : Int) (j : Str) (k : Int) (l : Int) (o : Int) : Option (Bool × Unit) :=
  if 0 ≤ o ∧ o ≤ (c.length : Int) then
  (if 0 ≤ k ∧ k ≤ o then
  ((scan_Line.g ((c.take ((o).toNat)).drop ((k).toNat))).bind fun y1 =>
  (stmt_Parse.g y1.1).bind fun y2 =>
  if (decide (y1.2.1 = (0 : Int))) then
  (rivetlaw18_TextLines.j23 n rl15 a b c d e i j k (IntKind.i64.wrap (l + (1 : Int))) o y2.2.2.2.2.2.2.2.2.2.1 y2.1 y2.2.1 y2.2.2.1 y2.2.2.2.1 y2.2.2.2.2.1 y2.2.2.2.2.2.1 y2.2.2.2.2.2.2.1 y2.2.2.2.2.2.2.2.1 y2.2.2.2.2.2.2.2.2.1)
  else
  (rivetlaw18_TextLines.j23 n rl15 a b c d e i j k (IntKind.i64.wrap (l + (1 : Int))) o y1.2.1 y2.1 y2.2.1 y2.2.2.1 y2.2.2.2.1 y2.2.2.2.2.1 y2.2.2.2.2.2.1 y2.2.2.2.2.2.2.1 y2.2.2.2.2.2.2.2.1 y2.2.2.2.2.2.2.2.2.1)) else none) else none
def l15 (n : Nat) : Nat → Bool → Str → Str → (List Ln) → Int → Int → Str → Int → Int → Int → Option (Bool × Unit)
 | 0, _, _, _, _, _, _, _, _, _, _ => none
 | m + 1, a, b, c, d, e, i, j, k, l, o =>
  if (decide (o ≤ (c.length : Int))) then
  (if (decide (o < (c.length : Int))) then
  (if 0 ≤ o ∧ o < (c.length : Int) then
  (if (decide ((bt c o) ≠ (10 : Int))) = false then
  (if (decide (o = (c.length : Int))) then
  (if (decide (k = o)) then
  (rivetlaw18_TextLines.j16 n (rivetlaw18_TextLines.l15 n m) a b c d e i j k l o)
  else
  (rivetlaw18_TextLines.j18 n (rivetlaw18_TextLines.l15 n m) a b c d e i j k l o))
  else
  (rivetlaw18_TextLines.j18 n (rivetlaw18_TextLines.l15 n m) a b c d e i j k l o))
  else
  (rivetlaw18_TextLines.j16 n (rivetlaw18_TextLines.l15 n m) a b c d e i j k l o)) else none)
  else
  (if (decide (o = (c.length : Int))) then
  (if (decide (k = o)) then
  (rivetlaw18_TextLines.j16 n (rivetlaw18_TextLines.l15 n m) a b c d e i j k l o)
  else
  (rivetlaw18_TextLines.j18 n (rivetlaw18_TextLines.l15 n m) a b c d e i j k l o))
  else
  (rivetlaw18_TextLines.j18 n (rivetlaw18_TextLines.l15 n m) a b c d e i j k l o)))
  else
  ((text_Parse.g j).bind fun y1 =>
  if a then
  (if (decide (i = (0 : Int))) then
  (if (decide (e = (0 : Int))) then
  (if (decide ((d.length : Int) = l)) then
  (if (decide (y1.2.2.1 = (0 : Int))) = false then
  (if (decide ((262144 : Int) < (j.length : Int))) then
  (if (decide (y1.2.1 = (0 : Int))) then
  (if (decide (y1.2.2.1 ≠ (0 : Int))) = false then
  ((rivetref18_Same.g d y1.1).bind fun y2 =>
  some (y2.1, ()))
  else (some (true, ())))
  else (some (false, ())))
  else (some (false, ())))
  else
  (if (decide (y1.2.1 = (0 : Int))) then
  (if (decide (y1.2.2.1 ≠ (0 : Int))) = false then
  ((rivetref18_Same.g d y1.1).bind fun y3 =>
  some (y3.1, ()))
  else (some (true, ())))
  else (some (false, ()))))
  else (some (false, ())))
  else (some (false, ())))
  else (some (false, ())))
  else (some (false, ())))
def l5 (n : Nat) : Nat → Str → Bool → Str → Str → Int → Option (Bool × Unit)
 | 0, _, _, _, _, _ => none
 | m + 1, a, b, c, d, e =>
  if (decide (e < (d.length : Int))) then
  (if 0 ≤ e ∧ e < (d.length : Int) then
  (if (decide ((bt d e) ≠ (10 : Int))) then
  (if 0 ≤ (IntKind.i64.wrap (e + (1 : Int))) ∧ (IntKind.i64.wrap (e + (1 : Int))) ≤ (d.length : Int) then
  (if 0 ≤ e ∧ e ≤ (IntKind.i64.wrap (e + (1 : Int))) then
  (if c.length + ((d.take (((IntKind.i64.wrap (e + (1 : Int)))).toNat)).drop ((e).toNat)).length ≤ 9223372036854775807 then
  (rivetlaw18_TextLines.j6 n (rivetlaw18_TextLines.l5 n m) a b (c ++ ((d.take (((IntKind.i64.wrap (e + (1 : Int)))).toNat)).drop ((e).toNat))) d e) else none) else none) else none)
  else
  (rivetlaw18_TextLines.j6 n (rivetlaw18_TextLines.l5 n m) a b c d e)) else none)
  else
  ((rivetlaw18_few.g a).bind fun y1 =>
  (text_Parse.g y1.1).bind fun y2 =>
  rivetlaw18_TextLines.l15 n n b c y1.1 y2.1 y2.2.1 y2.2.2.1 ([] : Str) (0 : Int) (0 : Int) (0 : Int))
def f (n : Nat) (a : Str) (b : Str) : Option (Bool × Unit) :=
  (rivetlaw18_shown.g).bind fun y1 =>
  (rivetlaw18_few.g b).bind fun y2 =>
  rivetlaw18_TextLines.l5 n n a y1.1 ([] : Str) y2.1 (0 : Int)
def g (a : Str) (b : Str) : Option (Bool × Unit) := f (1000 + a.length + b.length) a b
end rivetlaw18_TextLines
namespace rivetlaw18_TextEmpty
def l17 (a_text_Parse : Str → Option ((List Ln) × Int × Int × Unit)) (n : Nat) : Nat → Bool → Int → (List Ln) → Int → Int → Int → (List Ln) → Int → Int → Int → Option (Bool × Unit)
 | 0, _, _, _, _, _, _, _, _, _, _ => none
 | m + 1, a, b, c, d, e, i, j, k, l, o =>
  if (decide (o < (j.length : Int))) then
  (if 0 ≤ (IntKind.i64.wrap (o + (1 : Int))) ∧ (IntKind.i64.wrap (o + (1 : Int))) ≤ (j.length : Int) then
  (if 0 ≤ o ∧ o ≤ (IntKind.i64.wrap (o + (1 : Int))) then
  ((rivetref18_Same.g ((j.take (((IntKind.i64.wrap (o + (1 : Int)))).toNat)).drop ((o).toNat)) ([(([] : Str), (0, 0, 0, 0, 0, false, [], ([] : Str), ()), ())] : List Ln)).bind fun y1 =>
  if (!y1.1) then (some (false, ()))
  else
  ((rivetlaw18_TextEmpty.l17 a_text_Parse n m) a b c d e i j k l (IntKind.i64.wrap (o + (1 : Int))))) else none) else none)
  else
  (if 0 ≤ (262145 : Int) ∧ (262145 : Int) = (262145 : Int) ∧ (1 : Int) * (262145 : Int) ≤ 281474976710656 ∧ 0 < 1 ∧ 0 < 1 then
  ((a_text_Parse (bytesOf (List.replicate ((262145 : Int)).toNat 0))).bind fun y2 =>
  if a then
  (if (decide (d = (0 : Int))) then
  (if ((decide (e = (0 : Int))) == (decide (b ≤ (4096 : Int)))) then
  (if (decide (b ≤ (4096 : Int))) then
  (if (decide ((c.length : Int) = b)) = false then
  (if (!(decide (b ≤ (4096 : Int)))) then
  (if (decide (e = (2 : Int))) then
  (if (decide ((c.length : Int) = (0 : Int))) then
  (if (decide (l = (0 : Int))) then
  (if (decide (k = (0 : Int))) then
  (if (decide ((j.length : Int) = i)) then (some ((decide (y2.2.2.1 = (2 : Int))), ()))
  else (some (false, ())))
  else (some (false, ())))
  else (some (false, ())))
  else (some (false, ())))
  else (some (false, ())))
  else (some (false, ())))
  else
  (if (decide (l = (0 : Int))) then
  (if (decide (k = (0 : Int))) then
  (if (decide ((j.length : Int) = i)) then (some ((decide (y2.2.2.1 = (2 : Int))), ()))
  else (some (false, ())))
  else (some (false, ())))
  else (some (false, ()))))
  else
  (if (!(decide (b ≤ (4096 : Int)))) then
  (if (decide (e = (2 : Int))) then
  (if (decide ((c.length : Int) = (0 : Int))) then
  (if (decide (l = (0 : Int))) then
  (if (decide (k = (0 : Int))) then
  (if (decide ((j.length : Int) = i)) then (some ((decide (y2.2.2.1 = (2 : Int))), ()))
  else (some (false, ())))
  else (some (false, ())))
  else (some (false, ())))
  else (some (false, ())))
  else (some (false, ())))
  else (some (false, ()))))
  else (some (false, ())))
  else (some (false, ())))
  else (some (false, ()))) else none)
def j15 (a_text_Parse : Str → Option ((List Ln) × Int × Int × Unit)) (n : Nat) (a : Bool) (b : Int) (c : List Ln) (d : Int) (e : Int) (i : Str) (j : Int) : Option (Bool × Unit) :=
  (a_text_Parse i).bind fun y1 =>
  rivetlaw18_TextEmpty.l17 a_text_Parse n n a b c d e j y1.1 y1.2.1 y1.2.2.1 (0 : Int)
def l5 (a_text_Parse : Str → Option ((List Ln) × Int × Int × Unit)) (n : Nat) : Nat → Int → Bool → Bool → Int → (List Int) → Int → Option (Bool × Unit)
 | 0, _, _, _, _, _, _ => none
 | m + 1, a, b, c, d, e, i =>
  if (decide (i < d)) then
  (if 0 ≤ i ∧ i < (e.length : Int) then
  ((rivetlaw18_TextEmpty.l5 a_text_Parse n m) a b c d (e.set (i).toNat (10 : Int)) (IntKind.i64.wrap (i + (1 : Int)))) else none)
  else
  ((a_text_Parse (bytesOf e)).bind fun y1 =>
  if 0 ≤ (IntKind.i64.wrap (Int.tmod a (64 : Int))) ∧ (IntKind.i64.wrap (Int.tmod a (64 : Int))) ≤ (e.length : Int) then
  (if b then
  (if (bytesOf (e.take ((IntKind.i64.wrap (Int.tmod a (64 : Int)))).toNat)).length + ([59, 32, 120] : Str).length ≤ 9223372036854775807 then
  (rivetlaw18_TextEmpty.j15 a_text_Parse n c d y1.1 y1.2.1 y1.2.2.1 ((bytesOf (e.take ((IntKind.i64.wrap (Int.tmod a (64 : Int)))).toNat)) ++ ([59, 32, 120] : Str)) (IntKind.i64.wrap ((IntKind.i64.wrap (Int.tmod a (64 : Int))) + (1 : Int)))) else none)
  else
  (rivetlaw18_TextEmpty.j15 a_text_Parse n c d y1.1 y1.2.1 y1.2.2.1 (bytesOf (e.take ((IntKind.i64.wrap (Int.tmod a (64 : Int)))).toNat)) (IntKind.i64.wrap (Int.tmod a (64 : Int))))) else none)
def f (a_text_Parse : Str → Option ((List Ln) × Int × Int × Unit)) (n : Nat) (a : Int) (b : Int) (c : Bool) : Option (Bool × Unit) :=
  (rivetlaw18_shown.g).bind fun y1 =>
  if 0 ≤ (IntKind.i64.wrap ((4081 : Int) + (IntKind.i64.wrap (Int.tmod a (31 : Int))))) ∧ (IntKind.i64.wrap ((4081 : Int) + (IntKind.i64.wrap (Int.tmod a (31 : Int))))) = (IntKind.i64.wrap ((4081 : Int) + (IntKind.i64.wrap (Int.tmod a (31 : Int))))) ∧ (1 : Int) * (IntKind.i64.wrap ((4081 : Int) + (IntKind.i64.wrap (Int.tmod a (31 : Int))))) ≤ 281474976710656 ∧ 0 < 1 ∧ 0 < 1 then
  (rivetlaw18_TextEmpty.l5 a_text_Parse n n b c y1.1 (IntKind.i64.wrap ((4081 : Int) + (IntKind.i64.wrap (Int.tmod a (31 : Int))))) (List.replicate ((IntKind.i64.wrap ((4081 : Int) + (IntKind.i64.wrap (Int.tmod a (31 : Int)))))).toNat 0) (0 : Int)) else none
def g (a : Int) (b : Int) (c : Bool) : Option (Bool × Unit) := f text_Parse.g (1000000) a b c
end rivetlaw18_TextEmpty
end Rv
namespace Rv
open Go Go.Proofs
noncomputable section
set_option maxRecDepth 100000
set_option maxHeartbeats 2000000
variable {ad : LQ}
abbrev u0 : Ty := .pair (.int .i64) (.pair (.int .i64) (.pair .str (.pair (.int .u32) .nil)))
abbrev u1 : Ty := .pair (.int .i64) (.pair (.int .u32) (.pair .str .nil))
abbrev u2 : Ty := .pair .str (.pair (.pair (.int .i64) (.pair (.int .i64) (.pair (.int .i64) (.pair (.int .i64) (.pair (.int .i64) (.pair .bool (.pair (.sl (.pair (.int .i64) (.pair (.int .u32) (.pair .str .nil)))) (.pair .str .nil)))))))) .nil)
abbrev u3 : Ty := .pair (.int .i64) (.pair (.int .i64) (.pair (.int .i64) (.pair (.int .i64) (.pair (.int .i64) (.pair .bool (.pair (.sl (.pair (.int .i64) (.pair (.int .u32) (.pair .str .nil)))) (.pair .str .nil)))))))
abbrev u4 : Ty := .pair (.int .i64) (.pair (.int .i64) (.pair (.int .i64) (.pair (.int .i64) (.pair (.int .i64) (.pair (.int .i64) (.pair .bool .nil))))))
abbrev u5 : Ty := .pair (.sl (.pair (.int .i64) (.pair (.int .i64) (.pair .str (.pair (.int .u32) .nil))))) (.pair (.int .i64) (.pair (.int .i64) .nil))
abbrev u6 : Ty := .pair .fn (.pair .fn .nil)
abbrev u7 : Ty := .pair (.sl (.pair (.int .i64) (.pair (.int .i64) (.pair .str (.pair (.int .u32) .nil))))) (.pair (.int .i64) (.pair (.sl (.pair (.int .i64) (.pair (.int .u32) (.pair .str .nil)))) (.pair (.int .i64) .nil)))
abbrev c0 : List CD := [ki, ki, ki, ki, ki, .bool, .sl u1, .str]
abbrev c1 : List CD := [.sl u0, ki, .row 54 u1, ki]
abbrev c2 : List CD := [.str, ki, ki, ki, ki, ki, .bool, .sl u1, .str]
abbrev c3 : List CD := [ki, ki, ki, ki, ki, ki, .bool]
def types : List (TypeId × TI) := [
 tI 2 .i64 8,
 tI 3 .i64 8,
 tB 4 1,
 tI 5 .u8 1,
 tS 9 16,
 tL 24 39 u2,
 tI 25 .i64 8,
 tL 30 48 u0,
 tL 33 54 u1,
 (35, ⟨8, true, 88, [.int .i64 0, .int .i64 0, .int .i64 0, .int .i64 0, .int .i64 0, .bool false, .nilS, .str []], [(0, 1, false), (1, 1, false), (2, 1, false), (3, 1, false), (4, 1, false), (5, 1, false), (6, 1, false), (7, 1, false)], none, some u3, none, false, false, false, none, none⟩),
 (39, ⟨9, true, 104, [.str [], .int .i64 0, .int .i64 0, .int .i64 0, .int .i64 0, .int .i64 0, .bool false, .nilS, .str []], [(0, 1, false), (1, 8, true)], none, some u2, none, false, false, false, none, none⟩),
 tL 40 5 (.int .u8),
 tI 46 .u32 4,
 (48, ⟨4, true, 40, [.int .i64 0, .int .i64 0, .str [], .int .u32 0], [(0, 1, false), (1, 1, false), (2, 1, false), (3, 1, false)], none, some u0, none, false, false, false, none, none⟩),
 (54, ⟨3, true, 32, [.int .i64 0, .int .u32 0, .str []], [(0, 1, false), (1, 1, false), (2, 1, false)], none, some u1, none, false, false, false, some u1, none⟩),
 (57, ⟨7, true, 56, [.int .i64 0, .int .i64 0, .int .i64 0, .int .i64 0, .int .i64 0, .int .i64 0, .bool false], [(0, 1, false), (1, 1, false), (2, 1, false), (3, 1, false), (4, 1, false), (5, 1, false), (6, 1, false)], none, some u4, none, false, false, false, some u4, none⟩),
 tL 66 9 .str,
 (76, ⟨3, true, 40, [.nilS, .int .i64 0, .int .i64 0], [(0, 1, false), (1, 1, false), (2, 1, false)], none, some u5, none, false, false, false, none, none⟩),
 tL 82 90 u6,
 (87, ⟨1, false, 8, [.raw .nilFunc], [], none, some .fn, none, false, false, false, none, none⟩),
 (90, ⟨2, true, 16, [.raw .nilFunc, .raw .nilFunc], [(0, 1, false), (1, 1, false)], none, some u6, none, false, false, false, none, none⟩),
 tI 106 .u64 8,
 (108, ⟨1, false, 16, [.raw .nilIface], [], none, none, none, false, true, false, none, none⟩),
 (118, ⟨1, false, 8, [.raw .nilFunc], [], none, some .fn, none, false, false, false, none, none⟩),
 tI 156 .u64 8,
 tI 168 .i64 8,
 (178, ⟨1, false, 8, [.raw (.pointer none)], [], none, none, none, false, false, false, none, none⟩),
 (180, ⟨4, true, 64, [.nilS, .int .i64 0, .nilS, .int .i64 0], [(0, 1, false), (1, 1, false), (2, 1, false), (3, 1, false)], none, some u7, none, false, false, false, none, none⟩)]
theorem types_ok : (types.all fun p => checkTI P p.1 p.2) = true := by kernel_rfl
def internal_strconv_underscoreOK.T (ad : LQ) : TF P (LW ad) := ⟨153, [], internal_strconv_underscoreOK.sp, internal_strconv_underscoreOK.sat, internal_strconv_underscoreOK.enter⟩
def strconv_toError.T (ad : LQ) : TF P (LW ad) := ⟨107, [], strconv_toError.sp, strconv_toError.sat, strconv_toError.enter⟩
def strings_CutPrefix.T (ad : LQ) : TF P (LW ad) := ⟨67, [], strings_CutPrefix.sp, strings_CutPrefix.sat, strings_CutPrefix.enter⟩
def strings_Contains.T (ad : LQ) : TF P (LW ad) := ⟨68, [], strings_Contains.sp, strings_Contains.sat, strings_Contains.enter⟩
def strings_IndexByte.T (ad : LQ) : TF P (LW ad) := ⟨40, [], strings_IndexByte.sp, strings_IndexByte.sat, strings_IndexByte.enter⟩
def strings_Trim.T (ad : LQ) : TF P (LW ad) := ⟨71, [], strings_Trim.sp, strings_Trim.sat, strings_Trim.enter⟩
def strconv_Itoa.T (ad : LQ) : TF P (LW ad) := ⟨87, [], strconv_Itoa.sp, strconv_Itoa.sat, strconv_Itoa.enter⟩
def name_Of.T (ad : LQ) : TF P (LW ad) := ⟨43, [], name_Of.sp, name_Of.sat, name_Of.enter⟩
def stmt_operands.T (ad : LQ) : TF P (LW ad) := ⟨45, [], stmt_operands.sp, stmt_operands.sat, stmt_operands.enter⟩
def strings_Split.T (ad : LQ) : TF P (LW ad) := ⟨33, [], strings_Split.sp, strings_Split.sat, strings_Split.enter⟩
def mkF (ad : LQ) := @mkT P (LW ad) types mixed types_ok maps maps_ok
def mkFa (ad : LQ) := @mkTa P (LW ad) types mixed types_ok maps maps_ok
namespace scan_letter
def sp : Spec := mkSp ⟨[(0, Sb)], []⟩ ⟨[(0, SB)], []⟩ g
noncomputable def T (ad : LQ) := mkF ad 36 [] sp [] t0 t0 t0 21 [] f (fun a => 1000 + a.toNat) (by kernel_rfl)
end scan_letter
namespace scan_digit
def sp : Spec := mkSp ⟨[(0, Sb)], []⟩ ⟨[(0, SB)], []⟩ g
noncomputable def T (ad : LQ) := mkF ad 38 [] sp [] t0 t0 t0 9 [] f (fun a => 1000 + a.toNat) (by kernel_rfl)
end scan_digit
namespace scan_word
def sp : Spec := mkSp ⟨[(0, Ss)], []⟩ ⟨[(0, Ss)], []⟩ g
noncomputable def T (ad : LQ) := mkF ad 37 [] sp [scan_letter.T ad, scan_digit.T ad] (fun n => tj 3 ⟨[(0, Ss), (3, Si)], []⟩ (fun ms => j3 n (l2 n ms.head!)) <| tj 4 ⟨[(0, Ss), (3, Si)], []⟩ (fun _ => j4 n) <| tn) (fun n => tl 2 ⟨[(0, Ss), (3, Si)], []⟩ (fun _ => l2 n) <| tn) t0 25 [] f (fun a => 1000 + a.length) (by kernel_rfl)
end scan_word
namespace internal_strconv_lower
def sp : Spec := mkSp ⟨[(0, Sb)], []⟩ ⟨[(0, Sb)], []⟩ g
noncomputable def T (ad : LQ) := mkF ad 152 [] sp [] t0 t0 t0 5 [] f (fun a => 1000 + a.toNat) (by kernel_rfl)
end internal_strconv_lower
namespace internal_strconv_ParseUint
def sp : Spec := mkSp ⟨[(0, Ss), (1, Si), (2, Si)], []⟩ ⟨[(0, .c kq), (1, .c (.ifo 168 .i64))], []⟩ g
noncomputable def T (ad : LQ) := mkF ad 106 [] sp [internal_strconv_lower.T ad, internal_strconv_underscoreOK.T ad] (fun n => tj 55 ⟨[(1, Si), (8, SB), (9, Ss), (10, .c kq), (11, .c kq), (12, SB), (13, .c kq), (99, .c (.sl (.int .u8))), (100, Si), (101, Si)], []⟩ (fun ms => j55 n (l36 n ms.head!)) <| tj 46 ⟨[(1, Si), (8, SB), (9, Ss), (10, .c kq), (11, .c kq), (12, SB), (13, .c kq), (16, Sb), (99, .c (.sl (.int .u8))), (100, Si), (101, Si)], []⟩ (fun ms => j46 n (l36 n ms.head!)) <| tj 32 ⟨[(0, Ss), (1, Si), (2, Si), (8, SB), (9, Ss), (10, .c kq)], []⟩ (fun _ => j32 n) <| tj 25 ⟨[(0, Ss), (1, Si), (2, Si), (8, SB), (9, Ss)], []⟩ (fun _ => j25 n) <| tj 21 ⟨[(0, Ss), (1, Si), (2, Si), (8, SB), (9, Ss)], []⟩ (fun _ => j21 n) <| tj 17 ⟨[(0, Ss), (1, Si), (2, Si), (8, SB), (9, Ss)], []⟩ (fun _ => j17 n) <| tj 20 ⟨[(0, Ss), (1, Si), (2, Si), (8, SB), (9, Ss)], []⟩ (fun _ => j20 n) <| tj 11 ⟨[(0, Ss), (1, Si), (2, Si), (8, SB), (9, Ss)], []⟩ (fun _ => j11 n) <| tj 9 ⟨[(0, Ss), (1, Si), (2, Si), (8, SB), (9, Ss)], []⟩ (fun _ => j9 n) <| tn) (fun n => tl 36 ⟨[(1, Si), (8, SB), (9, Ss), (10, .c kq), (11, .c kq), (12, SB), (13, .c kq), (99, .c (.sl (.int .u8))), (100, Si), (101, Si)], []⟩ (fun _ => l36 n) <| tn) t0 172 [] f (fun a b c => 1000 + a.length + b.toNat + c.toNat) (by kernel_rfl)
end internal_strconv_ParseUint
namespace strconv_ParseUint
def sp : Spec := mkSp ⟨[(0, Ss), (1, Si), (2, Si)], []⟩ ⟨[(0, .c kq), (1, Se)], []⟩ g
noncomputable def T (ad : LQ) := mkF ad 69 [] sp [internal_strconv_ParseUint.T ad, strconv_toError.T ad] t0 t0 t0 26 [] f (fun a b c => 1000 + a.length + b.toNat + c.toNat) (by kernel_rfl)
end strconv_ParseUint
namespace scan_number
def sp : Spec := mkSp ⟨[(0, Ss)], []⟩ ⟨[(0, Su), (1, SB)], []⟩ g
noncomputable def T (ad : LQ) := mkF ad 39 [] sp [strings_CutPrefix.T ad, strings_Contains.T ad, strconv_ParseUint.T ad] (fun n => tj 5 ⟨[(0, Ss), (4, Si)], []⟩ (fun _ => j5 n) <| tn) t0 t0 28 [] f (fun a => 1000 + a.length) (by kernel_rfl)
end scan_number
namespace scan_Line
def sp : Spec := mkSp ⟨[(0, Ss)], []⟩ ⟨[(0, .c (.row 48 u0)), (1, Si)], []⟩ g
noncomputable def T (ad : LQ) := mkF ad 18 [] sp [scan_letter.T ad, scan_word.T ad, scan_digit.T ad, scan_number.T ad, strings_IndexByte.T ad] (fun n => tj 23 ⟨[(0, Ss), (4, .c (.row 48 u0)), (5, Si), (6, Sp 0 0)], [(some 3, [ki, ki, .str, ku])]⟩ (fun ms => j23 n (g0 n ms.head!)) <| tn) t0 (fun n => tl 0 ⟨[(0, Ss), (4, .c (.row 48 u0)), (5, Si)], []⟩ (fun _ => g0 n) <| tn) 108 [] f (fun a => 1000 + a.length) (by kernel_rfl)
end scan_Line
namespace name_Label
def sp : Spec := mkSp ⟨[(0, Ss)], []⟩ ⟨[(0, SB)], []⟩ g
noncomputable def T (ad : LQ) := mkF ad 42 [] sp [strings_Trim.T ad] (fun n => tj 9 ⟨[(0, Ss), (24, Si), (25, Si)], []⟩ (fun ms => j9 n (l4 n ms.head!)) <| tj 3 ⟨[(0, Ss)], []⟩ (fun _ => j3 n) <| tn) (fun n => tl 4 ⟨[(0, Ss), (24, Si), (25, Si)], []⟩ (fun _ => l4 n) <| tn) t0 84 [] f (fun a => 1000 + a.length) (by kernel_rfl)
end name_Label
namespace stmt_parser_check
def sp : Spec := mkSp ⟨[(0, Sp 0 0), (1, SB)], [(some 0, [.sl u0, ki, ki])]⟩ ⟨[], [(none, [.sl u0, ki, ki])]⟩ g
noncomputable def T (ad : LQ) := mkF ad 41 [] sp [] t0 t0 t0 16 [] f (fun _ b c d => 1000 + b.length + c.toNat + d.toNat) (by kernel_rfl)
end stmt_parser_check
namespace stmt_dotted
def sp : Spec := mkSp ⟨[(0, Si)], []⟩ ⟨[(0, SB)], []⟩ g
noncomputable def T (ad : LQ) := mkF ad 44 [] sp [] t0 t0 t0 9 [] f (fun a => 1000 + a.toNat) (by kernel_rfl)
end stmt_dotted
namespace stmt_parser_peek
def sp : Spec := mkSp ⟨[(0, Sp 0 0), (1, Si)], [(some 0, [.sl u0, ki, ki])]⟩ ⟨[(0, Ss)], [(none, [.sl u0, ki, ki])]⟩ g
noncomputable def T (ad : LQ) := mkF ad 80 [] sp [] t0 t0 t0 48 [] f (fun a b c d => 1000 + a.toNat + b.length + c.toNat + d.toNat) (by kernel_rfl)
end stmt_parser_peek
namespace stmt_parser_take
def sp : Spec := mkSp ⟨[(0, Sp 0 0), (1, Si)], [(some 0, [.sl u0, ki, ki])]⟩ ⟨[(0, Ss)], [(none, [.sl u0, ki, ki])]⟩ g
noncomputable def T (ad : LQ) := mkF ad 46 [] sp [stmt_parser_peek.T ad] t0 t0 t0 17 [] f (fun a b c d => 1000 + a.toNat + b.length + c.toNat + d.toNat) (by kernel_rfl)
end stmt_parser_take
namespace internal_strconv_ParseInt
def sp : Spec := mkSp ⟨[(0, Ss), (1, Si), (2, Si)], []⟩ ⟨[(0, Si), (1, .c (.ifo 168 .i64))], []⟩ g
noncomputable def T (ad : LQ) := mkF ad 204 [] sp [internal_strconv_ParseUint.T ad] (fun n => tj 21 ⟨[(8, SB), (9, .c kq)], []⟩ (fun _ => j21 n) <| tj 19 ⟨[(8, SB), (9, .c kq), (10, .c kq)], []⟩ (fun _ => j19 n) <| tj 16 ⟨[(2, Si), (8, SB), (9, .c kq)], []⟩ (fun _ => j16 n) <| tj 14 ⟨[(2, Si), (8, SB), (9, .c kq)], []⟩ (fun _ => j14 n) <| tj 10 ⟨[(0, Ss), (1, Si), (2, Si), (8, SB)], []⟩ (fun _ => j10 n) <| tn) t0 t0 73 [] f (fun a b c => 1000 + a.length + b.toNat + c.toNat) (by kernel_rfl)
end internal_strconv_ParseInt
namespace internal_strconv_Atoi
def sp : Spec := mkSp ⟨[(0, Ss)], []⟩ ⟨[(0, Si), (1, .c (.ifo 168 .i64))], []⟩ g
noncomputable def T (ad : LQ) := mkF ad 168 [] sp [internal_strconv_ParseInt.T ad] (fun n => tj 8 ⟨[(0, Ss), (5, Ss)], []⟩ (fun _ => j8 n) <| tj 6 ⟨[(0, Ss), (5, Ss)], []⟩ (fun _ => j6 n) <| tj 20 ⟨[(0, Ss)], []⟩ (fun _ => j20 n) <| tn) (fun n => tl 10 ⟨[(5, Ss), (6, Si), (47, .c (.sl (.int .u8))), (48, Si), (49, Si)], []⟩ (fun _ => l10 n) <| tn) t0 77 [] f (fun a => 1000 + a.length) (by kernel_rfl)
end internal_strconv_Atoi
namespace strconv_Atoi
def sp : Spec := mkSp ⟨[(0, Ss)], []⟩ ⟨[(0, Si), (1, Se)], []⟩ g
noncomputable def T (ad : LQ) := mkF ad 126 [] sp [internal_strconv_Atoi.T ad, strconv_toError.T ad] t0 t0 t0 18 [] f (fun a => 1000 + a.length) (by kernel_rfl)
end strconv_Atoi
namespace name_RegName
def sp : Spec := mkSp ⟨[(0, Si)], []⟩ ⟨[(0, Ss)], []⟩ g
noncomputable def T (ad : LQ) := mkF ad 56 [] sp [strconv_Itoa.T ad] t0 t0 t0 12 [] f (fun a => 1000 + a.toNat) (by kernel_rfl)
end name_RegName
namespace name_Reg
def sp : Spec := mkSp ⟨[(0, Ss)], []⟩ ⟨[(0, Si), (1, SB)], []⟩ g
noncomputable def T (ad : LQ) := mkF ad 81 [] sp [strings_CutPrefix.T ad, strconv_Atoi.T ad, name_RegName.T ad] t0 t0 t0 31 [] f (fun a => 1000 + a.length) (by kernel_rfl)
end name_Reg
namespace stmt_parser_choose
def sp : Spec := mkSp ⟨[(0, Sp 0 0), (1, Sp 1 0)], [(some 0, [.sl u0, ki, ki]), (some 1, c0)]⟩ ⟨[], [(none, [.sl u0, ki, ki]), (none, c0)]⟩ g
noncomputable def T (ad : LQ) := mkF ad 47 [] sp [stmt_parser_peek.T ad, name_Reg.T ad] t0 t0 t0 50 [] f (fun a b c d e i j k _ o p => 1000 + a.length + b.toNat + c.toNat + d.toNat + e.toNat + i.toNat + j.toNat + k.toNat + o.length + p.length) (by kernel_rfl)
end stmt_parser_choose
namespace stmt_operands_1
def sp : Spec := mkSp ⟨[(0, Sp 0 0)], [(some 0, c0)]⟩ ⟨[(0, Sp 0 2)], [(none, c0)]⟩ g
noncomputable def T (ad : LQ) := mkF ad 74 [] sp [] t0 t0 t0 6 [] f (fun a b c d e _ j k => 1000 + a.toNat + b.toNat + c.toNat + d.toNat + e.toNat + j.length + k.length) (by kernel_rfl)
end stmt_operands_1
namespace stmt_operands_2
def sp : Spec := mkSp ⟨[(0, Sp 0 0)], [(some 0, c0)]⟩ ⟨[(0, Sp 0 3)], [(none, c0)]⟩ g
noncomputable def T (ad : LQ) := mkF ad 75 [] sp [] t0 t0 t0 6 [] f (fun a b c d e _ j k => 1000 + a.toNat + b.toNat + c.toNat + d.toNat + e.toNat + j.length + k.length) (by kernel_rfl)
end stmt_operands_2
namespace stmt_operands_3
def sp : Spec := mkSp ⟨[(0, Sp 0 0)], [(some 0, c0)]⟩ ⟨[(0, Sp 0 4)], [(none, c0)]⟩ g
noncomputable def T (ad : LQ) := mkF ad 76 [] sp [] t0 t0 t0 6 [] f (fun a b c d e _ j k => 1000 + a.toNat + b.toNat + c.toNat + d.toNat + e.toNat + j.length + k.length) (by kernel_rfl)
end stmt_operands_3
namespace stmt_register_1
def sp : Spec := mkSp ⟨[(0, Sp 0 0), (1, Sp 1 0), (2, .c (.pp .fn))], [(some 0, [.sl u0, ki, ki]), (some 1, c0)]⟩ ⟨[], [(none, [.sl u0, ki, ki]), (none, c0)]⟩ g
noncomputable def T (ad : LQ) := mkF ad 119 [] sp [stmt_parser_take.T ad, name_Reg.T ad, stmt_parser_check.T ad, stmt_operands_1.T ad, stmt_operands_2.T ad, stmt_operands_3.T ad] t0 t0 t0 21 [K.atA, K.atB, K.atC] f (fun _ b c d e i j k l _ p q => 1000 + b.length + c.toNat + d.toNat + e.toNat + i.toNat + j.toNat + k.toNat + l.toNat + p.length + q.length) (by kernel_rfl)
end stmt_register_1
namespace expr_parser_fail
def sp : Spec := mkSp ⟨[(0, Sp 0 0), (1, Si)], [(some 0, c1)]⟩ ⟨[], [(none, c1)]⟩ g
noncomputable def T (ad : LQ) := mkF ad 217 [] sp [] t0 t0 t0 13 [] f (fun a b c d e => 1000 + a.toNat + b.length + c.toNat + d.length + e.toNat) (by kernel_rfl)
end expr_parser_fail
namespace expr_parser_next
def sp : Spec := mkSp ⟨[(0, Sp 0 0)], [(some 0, c1)]⟩ ⟨[(0, .agg [ki, ki, .str, ku]), (1, SB)], [(none, c1)]⟩ g
noncomputable def T (ad : LQ) := mkF ad 218 [] sp [] t0 t0 t0 39 [] f (fun a b c d => 1000 + a.length + b.toNat + c.length + d.toNat) (by kernel_rfl)
end expr_parser_next
namespace expr_parser_sign
def sp : Spec := mkSp ⟨[(0, Sp 0 0), (1, .c (.sl .str))], [(some 0, c1)]⟩ ⟨[(0, Ss), (1, SB)], [(none, c1)]⟩ g
noncomputable def T (ad : LQ) := mkF ad 215 [] sp [expr_parser_next.T ad] (fun n => tj 8 ⟨[(0, Sp 0 0), (6, Sp 1 0), (7, SB), (15, .c (.sl .str)), (16, Si), (17, Si)], [(none, c1), (some 1, [ki, ki, .str, ku])]⟩ (fun ms => j8 n (l3 n ms.head!)) <| tn) (fun n => tl 3 ⟨[(0, Sp 0 0), (6, Sp 1 0), (7, SB), (15, .c (.sl .str)), (16, Si), (17, Si)], [(none, c1), (some 1, [ki, ki, .str, ku])]⟩ (fun _ => l3 n) <| tn) t0 42 [] f (fun a b c d e => 1000 + a.length + b.length + c.toNat + d.length + e.toNat) (by kernel_rfl)
end expr_parser_sign
namespace expr_parser_put
def sp : Spec := mkSp ⟨[(0, Sp 0 0), (1, .agg [ki, ku, .str])], [(some 0, c1)]⟩ ⟨[], [(none, c1)]⟩ g
noncomputable def T (ad : LQ) := mkF ad 216 [] sp [] t0 t0 t0 14 [] f (fun a b c d e i j => 1000 + a.toNat + b.toNat + c.length + d.length + e.toNat + i.length + j.toNat) (by kernel_rfl)
end expr_parser_put
def expr_parser_sum.spq (q : Nat) : Spec := mkSp ⟨[(0, Sp 0 0), (1, Si)], [(some 0, c1)]⟩ ⟨[], [(none, c1)]⟩ (rec_expr_parser_sum q).expr_parser_sum
def expr_parser_row_c200.spq (q : Nat) : Spec := mkSp ⟨[(0, Sp 0 0), (1, .clo 200 [.ptr 1 0, .ptr 2 0]), (2, .c (.sl .str))], [(some 0, c1), (some 1, [.ptr 0 0]), (some 2, [ki])]⟩ ⟨[], [(none, c1), (none, [.ptr 0 0]), (none, [ki])]⟩ (rec_expr_parser_sum q).expr_parser_row_c200
def expr_parser_sum_1.spq (q : Nat) : Spec := mkSp ⟨[(0, Sp 0 0), (1, Sp 1 0)], [(some 0, [.ptr 2 0]), (some 1, [ki]), (some 2, c1)]⟩ ⟨[], [(none, [.ptr 2 0]), (none, [ki]), (none, c1)]⟩ (rec_expr_parser_sum q).expr_parser_sum_1
def expr_parser_row_c201.spq (q : Nat) : Spec := mkSp ⟨[(0, Sp 0 0), (1, .clo 201 [.ptr 1 0, .ptr 2 0]), (2, .c (.sl .str))], [(some 0, c1), (some 1, [.ptr 0 0]), (some 2, [ki])]⟩ ⟨[], [(none, c1), (none, [.ptr 0 0]), (none, [ki])]⟩ (rec_expr_parser_sum q).expr_parser_row_c201
def expr_parser_sum_1_1.spq (q : Nat) : Spec := mkSp ⟨[(0, Sp 0 0), (1, Sp 1 0)], [(some 0, [.ptr 2 0]), (some 1, [ki]), (some 2, c1)]⟩ ⟨[], [(none, [.ptr 2 0]), (none, [ki]), (none, c1)]⟩ (rec_expr_parser_sum q).expr_parser_sum_1_1
def expr_parser_factor.spq (q : Nat) : Spec := mkSp ⟨[(0, Sp 0 0), (1, Si)], [(some 0, c1)]⟩ ⟨[], [(none, c1)]⟩ (rec_expr_parser_sum q).expr_parser_factor
namespace expr_parser_sum
theorem step (q : Nat) (ih : Sat P (LW ad) 165 (expr_parser_sum.spq q) ∧ Sat P (LW ad) 199 (expr_parser_row_c200.spq q) ∧ Sat P (LW ad) 200 (expr_parser_sum_1.spq q) ∧ Sat P (LW ad) 199 (expr_parser_row_c201.spq q) ∧ Sat P (LW ad) 201 (expr_parser_sum_1_1.spq q) ∧ Sat P (LW ad) 202 (expr_parser_factor.spq q) ∧ True) : Sat P (LW ad) 165 (spq (q + 1)) := sat_q mixed types_ok maps_ok 165 (spq (q + 1)) [((199, [200]), expr_parser_row_c200.spq q)] (specs_cons ih.2.1 (enter_of (by kernel_rfl)) specs_nil) t0 t0 t0 8 [] (fun n => f n (rec_expr_parser_sum q)) (fun a b c d e => 1000 + a.toNat + b.length + c.toNat + d.length + e.toNat) (by kernel_rfl) (by kernel_rfl)
end expr_parser_sum
namespace expr_parser_row_c200
theorem step (q : Nat) (ih : Sat P (LW ad) 165 (expr_parser_sum.spq q) ∧ Sat P (LW ad) 199 (expr_parser_row_c200.spq q) ∧ Sat P (LW ad) 200 (expr_parser_sum_1.spq q) ∧ Sat P (LW ad) 199 (expr_parser_row_c201.spq q) ∧ Sat P (LW ad) 201 (expr_parser_sum_1_1.spq q) ∧ Sat P (LW ad) 202 (expr_parser_factor.spq q) ∧ True) : Sat P (LW ad) 199 (spq (q + 1)) := sat_q mixed types_ok maps_ok 199 (spq (q + 1)) [((200, []), expr_parser_sum_1.spq q), (expr_parser_sign.T ad).kv, (expr_parser_put.T ad).kv] (specs_cons ih.2.2.1 (enter_of (by kernel_rfl)) (specs_T (expr_parser_sign.T ad) (specs_T (expr_parser_put.T ad) specs_nil))) t0 (fun n => tl 1 ⟨[(0, Sp 0 0), (1, .clo 200 [.ptr 1 0, .ptr 2 0]), (2, .c (.sl .str))], [(none, c1), (none, [.ptr 0 0]), (none, [ki])]⟩ (fun _ => l1 n (rec_expr_parser_sum q)) <| tn) t0 26 [] (fun n => f n (rec_expr_parser_sum q)) (fun a b c d e i => 1000 + a.length + b.length + c.toNat + d.length + e.toNat + i.toNat) (by kernel_rfl) (by kernel_rfl)
end expr_parser_row_c200
namespace expr_parser_sum_1
theorem step (q : Nat) (ih : Sat P (LW ad) 165 (expr_parser_sum.spq q) ∧ Sat P (LW ad) 199 (expr_parser_row_c200.spq q) ∧ Sat P (LW ad) 200 (expr_parser_sum_1.spq q) ∧ Sat P (LW ad) 199 (expr_parser_row_c201.spq q) ∧ Sat P (LW ad) 201 (expr_parser_sum_1_1.spq q) ∧ Sat P (LW ad) 202 (expr_parser_factor.spq q) ∧ True) : Sat P (LW ad) 200 (spq (q + 1)) := sat_q mixed types_ok maps_ok 200 (spq (q + 1)) [((199, [201]), expr_parser_row_c201.spq q)] (specs_cons ih.2.2.2.1 (enter_of (by kernel_rfl)) specs_nil) t0 t0 t0 6 [] (fun n => f n (rec_expr_parser_sum q)) (fun a b c d e => 1000 + a.toNat + b.length + c.toNat + d.length + e.toNat) (by kernel_rfl) (by kernel_rfl)
end expr_parser_sum_1
namespace expr_parser_row_c201
theorem step (q : Nat) (ih : Sat P (LW ad) 165 (expr_parser_sum.spq q) ∧ Sat P (LW ad) 199 (expr_parser_row_c200.spq q) ∧ Sat P (LW ad) 200 (expr_parser_sum_1.spq q) ∧ Sat P (LW ad) 199 (expr_parser_row_c201.spq q) ∧ Sat P (LW ad) 201 (expr_parser_sum_1_1.spq q) ∧ Sat P (LW ad) 202 (expr_parser_factor.spq q) ∧ True) : Sat P (LW ad) 199 (spq (q + 1)) := sat_q mixed types_ok maps_ok 199 (spq (q + 1)) [((201, []), expr_parser_sum_1_1.spq q), (expr_parser_sign.T ad).kv, (expr_parser_put.T ad).kv] (specs_cons ih.2.2.2.2.1 (enter_of (by kernel_rfl)) (specs_T (expr_parser_sign.T ad) (specs_T (expr_parser_put.T ad) specs_nil))) t0 (fun n => tl 1 ⟨[(0, Sp 0 0), (1, .clo 201 [.ptr 1 0, .ptr 2 0]), (2, .c (.sl .str))], [(none, c1), (none, [.ptr 0 0]), (none, [ki])]⟩ (fun _ => l1 n (rec_expr_parser_sum q)) <| tn) t0 26 [] (fun n => f n (rec_expr_parser_sum q)) (fun a b c d e i => 1000 + a.length + b.length + c.toNat + d.length + e.toNat + i.toNat) (by kernel_rfl) (by kernel_rfl)
end expr_parser_row_c201
namespace expr_parser_sum_1_1
theorem step (q : Nat) (ih : Sat P (LW ad) 165 (expr_parser_sum.spq q) ∧ Sat P (LW ad) 199 (expr_parser_row_c200.spq q) ∧ Sat P (LW ad) 200 (expr_parser_sum_1.spq q) ∧ Sat P (LW ad) 199 (expr_parser_row_c201.spq q) ∧ Sat P (LW ad) 201 (expr_parser_sum_1_1.spq q) ∧ Sat P (LW ad) 202 (expr_parser_factor.spq q) ∧ True) : Sat P (LW ad) 201 (spq (q + 1)) := sat_q mixed types_ok maps_ok 201 (spq (q + 1)) [((202, []), expr_parser_factor.spq q)] (specs_cons ih.2.2.2.2.2.1 (enter_of (by kernel_rfl)) specs_nil) t0 t0 t0 5 [] (fun n => f n (rec_expr_parser_sum q)) (fun a b c d e => 1000 + a.toNat + b.length + c.toNat + d.length + e.toNat) (by kernel_rfl) (by kernel_rfl)
end expr_parser_sum_1_1
namespace expr_parser_factor
theorem step (q : Nat) (ih : Sat P (LW ad) 165 (expr_parser_sum.spq q) ∧ Sat P (LW ad) 199 (expr_parser_row_c200.spq q) ∧ Sat P (LW ad) 200 (expr_parser_sum_1.spq q) ∧ Sat P (LW ad) 199 (expr_parser_row_c201.spq q) ∧ Sat P (LW ad) 201 (expr_parser_sum_1_1.spq q) ∧ Sat P (LW ad) 202 (expr_parser_factor.spq q) ∧ True) : Sat P (LW ad) 202 (spq (q + 1)) := sat_q mixed types_ok maps_ok 202 (spq (q + 1)) [(expr_parser_fail.T ad).kv, (expr_parser_sign.T ad).kv, ((202, []), expr_parser_factor.spq q), (expr_parser_put.T ad).kv, ((165, []), expr_parser_sum.spq q), (expr_parser_next.T ad).kv, (name_Label.T ad).kv] (specs_T (expr_parser_fail.T ad) (specs_T (expr_parser_sign.T ad) (specs_cons ih.2.2.2.2.2.1 (enter_of (by kernel_rfl)) (specs_T (expr_parser_put.T ad) (specs_cons ih.1 (enter_of (by kernel_rfl)) (specs_T (expr_parser_next.T ad) (specs_T (name_Label.T ad) specs_nil))))))) (fun n => tj 19 ⟨[(0, Sp 0 0)], [(none, c1)]⟩ (fun _ => j19 n (rec_expr_parser_sum q)) <| tn) t0 t0 94 [] (fun n => f n (rec_expr_parser_sum q)) (fun a b c d e => 1000 + a.toNat + b.length + c.toNat + d.length + e.toNat) (by kernel_rfl) (by kernel_rfl)
end expr_parser_factor
theorem rec_expr_parser_sum_sat : ∀ q, Sat P (LW ad) 165 (expr_parser_sum.spq q) ∧ Sat P (LW ad) 199 (expr_parser_row_c200.spq q) ∧ Sat P (LW ad) 200 (expr_parser_sum_1.spq q) ∧ Sat P (LW ad) 199 (expr_parser_row_c201.spq q) ∧ Sat P (LW ad) 201 (expr_parser_sum_1_1.spq q) ∧ Sat P (LW ad) 202 (expr_parser_factor.spq q) ∧ True
 | 0 => ⟨sat_none fun _ => rfl, sat_none fun _ => rfl, sat_none fun _ => rfl, sat_none fun _ => rfl, sat_none fun _ => rfl, sat_none fun _ => rfl, trivial⟩
 | q + 1 => ⟨expr_parser_sum.step q (rec_expr_parser_sum_sat q), expr_parser_row_c200.step q (rec_expr_parser_sum_sat q), expr_parser_sum_1.step q (rec_expr_parser_sum_sat q), expr_parser_row_c201.step q (rec_expr_parser_sum_sat q), expr_parser_sum_1_1.step q (rec_expr_parser_sum_sat q), expr_parser_factor.step q (rec_expr_parser_sum_sat q), trivial⟩
def expr_parser_sum.sp : Spec := mkSp ⟨[(0, Sp 0 0), (1, Si)], [(some 0, c1)]⟩ ⟨[], [(none, c1)]⟩ expr_parser_sum.g
noncomputable def expr_parser_sum.T (ad : LQ) : TF P (LW ad) := ⟨165, [], expr_parser_sum.sp, sat_fq (F := fun q => (rec_expr_parser_sum q).expr_parser_sum) (fun a b c d e => 1000 + a.toNat + b.length + c.toNat + d.length + e.toNat) (fun q => (rec_expr_parser_sum_sat q).1) (fun _ => by kernel_rfl), enter_of (by kernel_rfl)⟩
def expr_parser_row_c200.sp : Spec := mkSp ⟨[(0, Sp 0 0), (1, .clo 200 [.ptr 1 0, .ptr 2 0]), (2, .c (.sl .str))], [(some 0, c1), (some 1, [.ptr 0 0]), (some 2, [ki])]⟩ ⟨[], [(none, c1), (none, [.ptr 0 0]), (none, [ki])]⟩ expr_parser_row_c200.g
noncomputable def expr_parser_row_c200.T (ad : LQ) : TF P (LW ad) := ⟨199, [200], expr_parser_row_c200.sp, sat_fq (F := fun q => (rec_expr_parser_sum q).expr_parser_row_c200) (fun a b c d e i => 1000 + a.length + b.length + c.toNat + d.length + e.toNat + i.toNat) (fun q => (rec_expr_parser_sum_sat q).2.1) (fun _ => by kernel_rfl), enter_of (by kernel_rfl)⟩
def expr_parser_sum_1.sp : Spec := mkSp ⟨[(0, Sp 0 0), (1, Sp 1 0)], [(some 0, [.ptr 2 0]), (some 1, [ki]), (some 2, c1)]⟩ ⟨[], [(none, [.ptr 2 0]), (none, [ki]), (none, c1)]⟩ expr_parser_sum_1.g
noncomputable def expr_parser_sum_1.T (ad : LQ) : TF P (LW ad) := ⟨200, [], expr_parser_sum_1.sp, sat_fq (F := fun q => (rec_expr_parser_sum q).expr_parser_sum_1) (fun a b c d e => 1000 + a.toNat + b.length + c.toNat + d.length + e.toNat) (fun q => (rec_expr_parser_sum_sat q).2.2.1) (fun _ => by kernel_rfl), enter_of (by kernel_rfl)⟩
def expr_parser_row_c201.sp : Spec := mkSp ⟨[(0, Sp 0 0), (1, .clo 201 [.ptr 1 0, .ptr 2 0]), (2, .c (.sl .str))], [(some 0, c1), (some 1, [.ptr 0 0]), (some 2, [ki])]⟩ ⟨[], [(none, c1), (none, [.ptr 0 0]), (none, [ki])]⟩ expr_parser_row_c201.g
noncomputable def expr_parser_row_c201.T (ad : LQ) : TF P (LW ad) := ⟨199, [201], expr_parser_row_c201.sp, sat_fq (F := fun q => (rec_expr_parser_sum q).expr_parser_row_c201) (fun a b c d e i => 1000 + a.length + b.length + c.toNat + d.length + e.toNat + i.toNat) (fun q => (rec_expr_parser_sum_sat q).2.2.2.1) (fun _ => by kernel_rfl), enter_of (by kernel_rfl)⟩
def expr_parser_sum_1_1.sp : Spec := mkSp ⟨[(0, Sp 0 0), (1, Sp 1 0)], [(some 0, [.ptr 2 0]), (some 1, [ki]), (some 2, c1)]⟩ ⟨[], [(none, [.ptr 2 0]), (none, [ki]), (none, c1)]⟩ expr_parser_sum_1_1.g
noncomputable def expr_parser_sum_1_1.T (ad : LQ) : TF P (LW ad) := ⟨201, [], expr_parser_sum_1_1.sp, sat_fq (F := fun q => (rec_expr_parser_sum q).expr_parser_sum_1_1) (fun a b c d e => 1000 + a.toNat + b.length + c.toNat + d.length + e.toNat) (fun q => (rec_expr_parser_sum_sat q).2.2.2.2.1) (fun _ => by kernel_rfl), enter_of (by kernel_rfl)⟩
def expr_parser_factor.sp : Spec := mkSp ⟨[(0, Sp 0 0), (1, Si)], [(some 0, c1)]⟩ ⟨[], [(none, c1)]⟩ expr_parser_factor.g
noncomputable def expr_parser_factor.T (ad : LQ) : TF P (LW ad) := ⟨202, [], expr_parser_factor.sp, sat_fq (F := fun q => (rec_expr_parser_sum q).expr_parser_factor) (fun a b c d e => 1000 + a.toNat + b.length + c.toNat + d.length + e.toNat) (fun q => (rec_expr_parser_sum_sat q).2.2.2.2.2.1) (fun _ => by kernel_rfl), enter_of (by kernel_rfl)⟩
namespace expr_Parse
def sp : Spec := mkSp ⟨[(0, .c (.sl u0)), (1, Si)], []⟩ ⟨[(0, .c (.row 54 u1)), (1, Si), (2, Si)], []⟩ g
noncomputable def T (ad : LQ) := mkF ad 122 [] sp [expr_parser_sum.T ad] (fun n => tj 5 ⟨[(7, Sp 0 0)], [(some 0, c1)]⟩ (fun _ => j5 n) <| tn) t0 t0 47 [] f (fun a b => 1000 + a.length + b.toNat) (by kernel_rfl)
end expr_Parse
namespace stmt_number_1
def sp : Spec := mkSp ⟨[(0, Sp 0 0), (1, Sp 1 0), (2, .c (.pp .str))], [(some 0, [.sl u0, ki, ki]), (some 1, c0)]⟩ ⟨[], [(none, [.sl u0, ki, ki]), (none, c0)]⟩ g
noncomputable def T (ad : LQ) := mkF ad 121 [] sp [stmt_parser_take.T ad, stmt_parser_check.T ad, expr_Parse.T ad] (fun n => tj 2 ⟨[(0, Sp 0 0), (1, Sp 1 0)], [(none, [.sl u0, ki, ki]), (none, c0)]⟩ (fun _ => j2 n) <| tn) t0 t0 40 [] f (fun a b c d e i j k l _ p q => 1000 + a.length + b.length + c.toNat + d.toNat + e.toNat + i.toNat + j.toNat + k.toNat + l.toNat + p.length + q.length) (by kernel_rfl)
end stmt_number_1
namespace le_is
def sp : Spec := mkSp ⟨[(0, Sb), (1, SB)], []⟩ ⟨[(0, SB)], []⟩ g
noncomputable def T (ad : LQ) := mkF ad 86 [] sp [] (fun n => tj 4 ⟨[(0, Sb), (1, SB)], []⟩ (fun _ => j4 n) <| tn) t0 t0 32 [] f (fun a _ => 1000 + a.toNat) (by kernel_rfl)
end le_is
namespace le_Name
def sp : Spec := mkSp ⟨[(0, Ss)], []⟩ ⟨[(0, SB)], []⟩ g
noncomputable def T (ad : LQ) := mkF ad 55 [] sp [le_is.T ad, strings_Trim.T ad] t0 (fun n => tl 4 ⟨[(0, Ss), (14, Si), (15, Si)], []⟩ (fun _ => l4 n) <| tn) t0 47 [] f (fun a => 1000 + a.length) (by kernel_rfl)
end le_Name
namespace stmt_operands_4
def sp : Spec := mkSp ⟨[(0, Sp 0 0), (1, Sp 1 0)], [(some 0, [.sl u0, ki, ki]), (some 1, c0)]⟩ ⟨[], [(none, [.sl u0, ki, ki]), (none, c0)]⟩ g
noncomputable def T (ad : LQ) := mkF ad 78 [] sp [stmt_parser_take.T ad, le_Name.T ad, stmt_parser_check.T ad] t0 t0 t0 16 [] f (fun a b c d e i j k _ o p => 1000 + a.length + b.toNat + c.toNat + d.toNat + e.toNat + i.toNat + j.toNat + k.toNat + o.length + p.length) (by kernel_rfl)
end stmt_operands_4
namespace stmt_Parse
def sp : Spec := mkSp ⟨[(0, .c (.sl u0))], []⟩ ⟨[(0, Ss), (1, .agg c0), (2, Si)], []⟩ g
noncomputable def T (ad : LQ) := mkF ad 19 [] sp [name_Label.T ad, stmt_parser_check.T ad, name_Of.T ad, stmt_dotted.T ad, stmt_operands.T ad, stmt_parser_take.T ad, stmt_parser_choose.T ad, stmt_register_1.T ad, stmt_number_1.T ad, stmt_operands_4.T ad] (fun n => tj 20 ⟨[(0, .c (.sl u0)), (2, Ss), (3, Sp 0 0), (5, Sp 1 0), (8, Si), (11, Si), (116, Si), (117, Si)], [(some 2, c0), (some 3, [.sl u0, ki, ki])]⟩ (fun ms => j20 n (l13 n ms.head!)) <| tj 19 ⟨[(0, .c (.sl u0)), (2, Ss), (3, Sp 0 0), (5, Sp 1 0), (8, Si), (11, Si), (12, Si), (116, Si), (117, Si)], [(some 2, c0), (some 3, [.sl u0, ki, ki])]⟩ (fun ms => j19 n (l13 n ms.head!)) <| tj 17 ⟨[(0, .c (.sl u0)), (2, Ss), (3, Sp 0 0), (5, Sp 1 0), (8, Si), (11, Si), (12, Si), (116, Si), (117, Si)], [(some 2, c0), (some 3, [.sl u0, ki, ki])]⟩ (fun ms => j17 n (l13 n ms.head!)) <| tj 22 ⟨[(2, Ss), (3, Sp 0 0), (5, Sp 1 0)], [(some 1, c0), (some 2, [.sl u0, ki, ki])]⟩ (fun _ => j22 n) <| tj 9 ⟨[(0, .c (.sl u0)), (2, Ss), (3, Sp 0 0), (5, Sp 1 0), (7, Si), (8, Si), (9, SB)], [(some 2, c0), (some 3, [.sl u0, ki, ki])]⟩ (fun _ => j9 n) <| tj 5 ⟨[(0, .c (.sl u0)), (2, Ss), (3, Sp 0 0), (5, Sp 1 0)], [(some 2, c0), (some 3, [.sl u0, ki, ki])]⟩ (fun _ => j5 n) <| tn) (fun n => tl 13 ⟨[(0, .c (.sl u0)), (2, Ss), (3, Sp 0 0), (5, Sp 1 0), (8, Si), (11, Si), (116, Si), (117, Si)], [(some 2, c0), (some 3, [.sl u0, ki, ki])]⟩ (fun _ => l13 n) <| tn) t0 165 [K.rdA, K.rdB, K.rdC, K.rdE, K.rdQ, K.rdN] f (fun a => 1000 + a.length) (by kernel_rfl)
end stmt_Parse
namespace text_one
def sp : Spec := mkSp ⟨[(0, Ss)], []⟩ ⟨[(0, .agg c2), (1, Si)], []⟩ g
noncomputable def T (ad : LQ) := mkF ad 35 [] sp [scan_Line.T ad, stmt_Parse.T ad] t0 t0 t0 27 [] f (fun a => 1000 + a.length) (by kernel_rfl)
end text_one
namespace text_each_string_api_Line
def sp : Spec := mkSp ⟨[(0, .c (.sl .str)), (1, .c (.raw (.func (.func 35) #[] #[])))], []⟩ ⟨[(0, .c (.row 39 u2)), (1, Si), (2, Si)], []⟩ g
noncomputable def T (ad : LQ) := mkF ad 34 [] sp [text_one.T ad] t0 (fun n => tl 5 ⟨[(1, .c (.raw (.func (.func 35) #[] #[]))), (7, .c (.row 39 u2)), (15, .c (.sl .str)), (16, Si), (17, Si)], []⟩ (fun _ => l5 n) <| tn) t0 39 [] f (fun a => 1000 + a.length) (by kernel_rfl)
end text_each_string_api_Line
namespace text_Parse
def sp : Spec := mkSp ⟨[(0, Ss)], []⟩ ⟨[(0, .c (.row 39 u2)), (1, Si), (2, Si)], []⟩ g
noncomputable def T (ad : LQ) := mkF ad 16 [] sp [strings_Split.T ad, text_each_string_api_Line.T ad] (fun n => tj 7 ⟨[(5, .c (.sl .str))], []⟩ (fun _ => j7 n) <| tn) t0 t0 28 [] f (fun a => 1000 + a.length) (by kernel_rfl)
end text_Parse
namespace rivetlaw18_shown
def sp : Spec := mkSp ⟨[], []⟩ ⟨[(0, SB)], []⟩ g
noncomputable def T (ad : LQ) := mkF ad 14 [] sp [text_Parse.T ad] t0 t0 t0 36 [] f (1000 : Nat) (by kernel_rfl)
end rivetlaw18_shown
namespace rivetlaw18_few
def sp : Spec := mkSp ⟨[(0, Ss)], []⟩ ⟨[(0, Ss)], []⟩ g
noncomputable def T (ad : LQ) := mkF ad 15 [] sp [] t0 t0 t0 8 [] f (fun a => 1000 + a.length) (by kernel_rfl)
end rivetlaw18_few
namespace rivetref17_Instr
def sp : Spec := mkSp ⟨[(0, .agg c0)], []⟩ ⟨[(0, .agg c3)], []⟩ g
noncomputable def T (ad : LQ) := mkF ad 58 [] sp [] t0 t0 t0 16 [] f (fun a b c d e _ j k => 1000 + a.toNat + b.toNat + c.toNat + d.toNat + e.toNat + j.length + k.length) (by kernel_rfl)
end rivetref17_Instr
namespace rivetref15_Same
def sp : Spec := mkSp ⟨[(0, .c (.sl u1)), (1, .c (.sl u1))], []⟩ ⟨[(0, SB)], []⟩ g
noncomputable def T (ad : LQ) := mkF ad 59 [] sp [] t0 (fun n => tl 4 ⟨[(0, .c (.sl u1)), (1, .c (.sl u1)), (5, Si)], []⟩ (fun _ => l4 n) <| tn) t0 26 [] f (fun a b => 1000 + a.length + b.length) (by kernel_rfl)
end rivetref15_Same
namespace rivetref17_Same
def sp : Spec := mkSp ⟨[(0, .agg c0), (1, .agg c0)], []⟩ ⟨[(0, SB)], []⟩ g
noncomputable def T (ad : LQ) := mkF ad 25 [] sp [rivetref17_Instr.T ad, rivetref15_Same.T ad] t0 t0 t0 24 [] f (fun a b c d e _ j k l o p q r _ t u => 1000 + a.toNat + b.toNat + c.toNat + d.toNat + e.toNat + j.length + k.length + l.toNat + o.toNat + p.toNat + q.toNat + r.toNat + t.length + u.length) (by kernel_rfl)
end rivetref17_Same
namespace rivetref18_Same
def sp : Spec := mkSp ⟨[(0, .c (.sl u2)), (1, .c (.sl u2))], []⟩ ⟨[(0, SB)], []⟩ g
noncomputable def T (ad : LQ) := mkF ad 17 [] sp [rivetref17_Same.T ad] t0 (fun n => tl 4 ⟨[(0, .c (.sl u2)), (1, .c (.sl u2)), (5, Si)], []⟩ (fun _ => l4 n) <| tn) t0 44 [] f (fun a b => 1000 + a.length + b.length) (by kernel_rfl)
end rivetref18_Same
namespace rivetlaw18_TextJoin
def sp : Spec := mkSp ⟨[(0, Ss), (1, Ss)], []⟩ ⟨[(0, SB)], []⟩ g
noncomputable def T (ad : LQ) := mkF ad 3 [] sp [rivetlaw18_shown.T ad, rivetlaw18_few.T ad, text_Parse.T ad, rivetref18_Same.T ad] (fun n => tj 9 ⟨[(5, SB), (6, Ss), (7, .c (.row 39 u2)), (8, Si), (9, Si), (10, .c (.row 39 u2)), (11, Si), (12, Si), (13, .c (.row 39 u2)), (14, Si), (15, Si), (16, Si), (17, Si)], []⟩ (fun ms => j9 n (l8 n ms.head!)) <| tn) (fun n => tl 8 ⟨[(5, SB), (6, Ss), (7, .c (.row 39 u2)), (8, Si), (9, Si), (10, .c (.row 39 u2)), (11, Si), (12, Si), (13, .c (.row 39 u2)), (14, Si), (15, Si), (16, Si), (17, Si)], []⟩ (fun _ => l8 n) <| tn) t0 118 [] f (fun a b => 1000 + a.length + b.length) (by kernel_rfl)
end rivetlaw18_TextJoin
namespace rivetlaw18_TextLines
def sp : Spec := mkSp ⟨[(0, Ss), (1, Ss)], []⟩ ⟨[(0, SB)], []⟩ g
noncomputable def T (ad : LQ) := mkF ad 4 [] sp [rivetlaw18_shown.T ad, rivetlaw18_few.T ad, text_Parse.T ad, scan_Line.T ad, stmt_Parse.T ad, rivetref18_Same.T ad] (fun n => tj 6 ⟨[(0, Ss), (5, SB), (6, Ss), (7, Ss), (8, Si)], []⟩ (fun ms => j6 n (l5 n ms.head!)) <| tj 16 ⟨[(5, SB), (6, Ss), (9, Ss), (10, .c (.row 39 u2)), (11, Si), (12, Si), (13, Ss), (14, Si), (15, Si), (16, Si)], []⟩ (fun ms => j16 n (l15 n ms.head!)) <| tj 27 ⟨[(5, SB), (6, Ss), (9, Ss), (10, .c (.row 39 u2)), (11, Si), (12, Si), (13, Ss), (14, Si), (15, Si), (16, Si)], []⟩ (fun ms => j27 n (l15 n ms.head!)) <| tj 23 ⟨[(5, SB), (6, Ss), (9, Ss), (10, .c (.row 39 u2)), (11, Si), (12, Si), (13, Ss), (14, Si), (15, Si), (16, Si), (18, Si), (19, Ss), (20, Sp 0 0)], [(some 12, c0)]⟩ (fun ms => j23 n (l15 n ms.head!)) <| tj 18 ⟨[(5, SB), (6, Ss), (9, Ss), (10, .c (.row 39 u2)), (11, Si), (12, Si), (13, Ss), (14, Si), (15, Si), (16, Si)], []⟩ (fun ms => j18 n (l15 n ms.head!)) <| tn) (fun n => tl 15 ⟨[(5, SB), (6, Ss), (9, Ss), (10, .c (.row 39 u2)), (11, Si), (12, Si), (13, Ss), (14, Si), (15, Si), (16, Si)], []⟩ (fun _ => l15 n) <| tl 5 ⟨[(0, Ss), (5, SB), (6, Ss), (7, Ss), (8, Si)], []⟩ (fun _ => l5 n) <| tn) t0 194 [] f (fun a b => 1000 + a.length + b.length) (by kernel_rfl)
end rivetlaw18_TextLines
namespace rivetlaw18_TextEmpty
def sp : Spec := mkSp ⟨[(0, Sb), (1, Sb), (2, SB)], []⟩ ⟨[(0, SB)], []⟩ g
def Q (ad : LQ) (a_text_Parse : Str → Option ((List Ln) × Int × Int × Unit)) : Nat → Env sp.r.T := envQ types maps [(rivetlaw18_shown.T ad).kv, ((16, []), mkSp ⟨[(0, Ss)], []⟩ ⟨[(0, .c (.row 39 u2)), (1, Si), (2, Si)], []⟩ a_text_Parse), (rivetref18_Same.T ad).kv] (fun n => tj 15 ⟨[(7, SB), (8, Si), (11, .c (.row 39 u2)), (12, Si), (13, Si), (15, Ss), (16, Si)], []⟩ (fun _ => j15 a_text_Parse n) <| tn) (fun n => tl 17 ⟨[(7, SB), (8, Si), (11, .c (.row 39 u2)), (12, Si), (13, Si), (16, Si), (17, .c (.row 39 u2)), (18, Si), (19, Si), (20, Si)], []⟩ (fun _ => l17 a_text_Parse n) <| tl 5 ⟨[(1, Sb), (2, SB), (7, SB), (8, Si), (9, .c (.row 5 (.int .u8))), (10, Si)], []⟩ (fun _ => l5 a_text_Parse n) <| tn) t0 141 0 []
theorem q2 (ad : LQ) (a_text_Parse : Str → Option ((List Ln) × Int × Int × Unit)) : (fun (n : Nat) => sL P 5 sp (Q ad a_text_Parse n), fun n => runE P 5 sp 141 (Q ad a_text_Parse n)) = (fun n => sR P 5 sp (Q ad a_text_Parse n), fun n => ap sp.a.all (f a_text_Parse n)) := by kernel_rfl
noncomputable def T (ad : LQ) := mkFa ad 5 [] sp [rivetlaw18_shown.T ad, text_Parse.T ad, rivetref18_Same.T ad] (fun n => tj 15 ⟨[(7, SB), (8, Si), (11, .c (.row 39 u2)), (12, Si), (13, Si), (15, Ss), (16, Si)], []⟩ (fun _ => j15 text_Parse.g n) <| tn) (fun n => tl 17 ⟨[(7, SB), (8, Si), (11, .c (.row 39 u2)), (12, Si), (13, Si), (16, Si), (17, .c (.row 39 u2)), (18, Si), (19, Si), (20, Si)], []⟩ (fun _ => l17 text_Parse.g n) <| tl 5 ⟨[(1, Sb), (2, SB), (7, SB), (8, Si), (9, .c (.row 5 (.int .u8))), (10, Si)], []⟩ (fun _ => l5 text_Parse.g n) <| tn) t0 141 [] (fun n => f text_Parse.g n) (fun _ _ _ => (1000000 : Nat)) (by kernel_rfl) (q2 ad text_Parse.g)
end rivetlaw18_TextEmpty
theorem rivetlaw18_TextJoin.sat : Sat P (LW ad) 3 rivetlaw18_TextJoin.sp := (rivetlaw18_TextJoin.T ad).sat
theorem rivetlaw18_TextLines.sat : Sat P (LW ad) 4 rivetlaw18_TextLines.sp := (rivetlaw18_TextLines.T ad).sat
theorem rivetlaw18_TextEmpty.sat : Sat P (LW ad) 5 rivetlaw18_TextEmpty.sp := (rivetlaw18_TextEmpty.T ad).sat
end
end Rv
namespace Rv
open Go
theorem w64 {x : Int} (h : -9223372036854775808 ≤ x ∧ x ≤ 9223372036854775807) : IntKind.i64.wrap x = x := IntWalk.i64_in _ h
theorem w32u {x : Int} (h : 0 ≤ x ∧ x ≤ 4294967295) : IntKind.u32.wrap x = x := IntWalk.u32_in _ h
theorem w8u {x : Int} (h : 0 ≤ x ∧ x ≤ 255) : IntKind.u8.wrap x = x := IntWalk.u8_in _ h
theorem w64u {x : Int} (h : 0 ≤ x ∧ x ≤ 18446744073709551615) : IntKind.u64.wrap x = x := IntWalk.u64_in _ h
theorem dt {p : Prop} [Decidable p] : (decide p = true) = p := by simp
theorem df {p : Prop} [Decidable p] : (decide p = false) = ¬ p := by simp
theorem bt_nat (s : Str) (k : Nat) : bt s (k : Int) = ((s.getD k 0).toNat : Int) := rfl
theorem byte_lt (b : UInt8) : (b.toNat : Int) < 256 := by have := b.toNat_lt; omega
theorem drop_cons {s : Str} {k : Nat} (h : k < s.length) : s.drop k = s.getD k 0 :: s.drop (k + 1) := by
 rw [List.drop_eq_getElem_cons h]
 congr 1
 simp [List.getD, h]
theorem byte_is (b : UInt8) (n : Nat) (hn : n < 256) : ((b.toNat : Int) = (n : Int)) = (b = UInt8.ofNat n) := by
 apply propext
 constructor
 ·intro h
  apply UInt8.toNat_inj.1
  rw [UInt8.toNat_ofNat', Nat.mod_eq_of_lt hn]
  omega
 ·intro h
  rw [h, UInt8.toNat_ofNat', Nat.mod_eq_of_lt hn]
theorem wfU8 {n : Int} (h : (Lit.int .u8 n).wf = true) : 0 ≤ n ∧ n ≤ 255 := by
 simp [Lit.wf, IntKind.min, IntKind.max, IntKind.signed, IntKind.bits] at h; omega
theorem wfLen {n : Nat} (h : n ≤ maxLen) : n ≤ 9223372036854775807 := by unfold maxLen at h; omega
end Rv
namespace Rv
open Go
end Rv
namespace Rv
open Go
end Rv
namespace Rv
open Go
def isL (b : UInt8) : Bool := decide (65 ≤ b.toNat ∧ b.toNat ≤ 90 ∨ 97 ≤ b.toNat ∧ b.toNat ≤ 122 ∨ b.toNat = 95)
def isD (b : UInt8) : Bool := decide (48 ≤ b.toNat ∧ b.toNat ≤ 57)
def isW (b : UInt8) : Bool := isL b || isD b
def wordOf (s : Str) : Str := s.takeWhile isW
theorem some_tt {p : Prop} [Decidable p] (h : p) : some (true, ()) = some (decide p, ()) := by simp [h]
theorem some_ff {p : Prop} [Decidable p] (h : ¬ p) : some (false, ()) = some (decide p, ()) := by simp [h]
theorem some_pq {p q : Prop} [Decidable p] [Decidable q] (h : p ↔ q) : some (decide p, ()) = some (decide q, ()) := by simp [h]
theorem letter_eq (b : UInt8) : scan_letter.g (b.toNat : Int) = some (isL b, ()) := by
 unfold scan_letter.g scan_letter.f isL
 simp only [dt, df]
 (repeat' split) <;> first | (refine some_tt ?_; omega) | (refine some_ff ?_; omega) | (refine some_pq ?_; omega)
theorem digit_eq (b : UInt8) : scan_digit.g (b.toNat : Int) = some (isD b, ()) := by
 unfold scan_digit.g scan_digit.f isD
 simp only [dt, df]
 (repeat' split) <;> first | (refine some_tt ?_; omega) | (refine some_ff ?_; omega) | (refine some_pq ?_; omega)
theorem word_loop (s : Str) (hs : s.length ≤ 9223372036854775807) (n : Nat) : ∀ (m k : Nat), k ≤ s.length → s.length - k < m → scan_word.l2 n m s (k : Int) = some (s.take (k + (wordOf (s.drop k)).length), ()) := by
 intro m
 induction m with
 | zero => intro k _ h; omega
 | succ m ih =>
  intro k hk hm
  have hend : scan_word.j4 n s (k : Int) = some (s.take k, ()) := by
   unfold scan_word.j4
   rw [if_pos (by omega)]
   simp
  simp only [scan_word.l2, dt, df]
  by_cases hlt : k < s.length
  ·have hd := drop_cons hlt
   have step : scan_word.j3 n (scan_word.l2 n m) s (k : Int) = some (s.take (k + 1 + (wordOf (s.drop (k + 1))).length), ()) := by
    unfold scan_word.j3
    rw [w64 (by omega)]
    exact ih (k + 1) (by omega) (by omega)
   rw [if_pos (by omega), if_pos (by omega), bt_nat, letter_eq, Option.bind_some]
   cases hl : isL (s.getD k 0) with
   | true =>
    rw [if_neg (by simp), step, hd]
    simp only [wordOf, List.takeWhile_cons, isW, hl, Bool.true_or, if_true, List.length_cons]
    rw [show k + 1 + ((s.drop (k + 1)).takeWhile isW).length = k + (((s.drop (k + 1)).takeWhile isW).length + 1) by omega]
   | false =>
    rw [if_pos rfl, if_pos (by omega), digit_eq, Option.bind_some]
    cases hdg : isD (s.getD k 0) with
    | true =>
     rw [if_pos rfl, step, hd]
     simp only [wordOf, List.takeWhile_cons, isW, hl, hdg, Bool.or_true, if_true, List.length_cons]
     rw [show k + 1 + ((s.drop (k + 1)).takeWhile isW).length = k + (((s.drop (k + 1)).takeWhile isW).length + 1) by omega]
    | false =>
     rw [if_neg (by simp), hend, hd]
     simp only [wordOf, List.takeWhile_cons, isW, hl, hdg, Bool.or_self, Bool.false_eq_true, if_false, List.length_nil, Nat.add_zero]
  ·have : k = s.length := by omega
   subst this
   rw [if_neg (by omega), hend]
   simp [wordOf]
theorem word_eq (s : Str) (hs : s.length ≤ 9223372036854775807) : scan_word.g s = some (wordOf s, ()) := by
 unfold scan_word.g scan_word.f
 have := word_loop s hs (1000 + s.length) (1000 + s.length) 0 (by omega) (by omega)
 rw [show ((0 : Nat) : Int) = 0 from rfl] at this
 rw [this]
 congr 2
 simp only [List.drop_zero, Nat.zero_add]
 exact (List.prefix_iff_eq_take.1 (List.takeWhile_prefix isW)).symm
def lowN (c : Int) : Int := if c / 32 % 2 = 1 then c else c + 32
theorem lower_tab : ((List.range 256).all fun n => decide (bitsI .or .u8 (n : Int) 32 = lowN n)) = true := by decide +kernel
theorem lower_eq (b : UInt8) : internal_strconv_lower.g (b.toNat : Int) = some (lowN b.toNat, ()) := by
 unfold internal_strconv_lower.g internal_strconv_lower.f
 have := List.all_eq_true.1 lower_tab b.toNat (by have := b.toNat_lt; simpa using this)
 rw [of_decide_eq_true this]
def digOf (b : UInt8) : Option Nat :=
 if 48 ≤ b.toNat ∧ b.toNat ≤ 57 then some (b.toNat - 48) else if 97 ≤ b.toNat ∧ b.toNat ≤ 122 then some (b.toNat - 87) else if 65 ≤ b.toNat ∧ b.toNat ≤ 90 then some (b.toNat - 55) else none
def numFrom (base : Nat) : Nat → Str → Option Nat
 | n, [] => some n
 | n, c :: r => match digOf c with
  | some d => if d < base then (if n * base + d < 4294967296 then numFrom base (n * base + d) r else none) else none
  | none => none
def PuR (o : Option Nat) (r : Option (Int × Option Int × Unit)) : Prop :=
 (∀ v, o = some v → r = some ((v : Int), none, ())) ∧ (o = none → ∃ x e, r = some (x, some e, ()) ∧ (e = 1 ∨ e = 2))
theorem PuR.bad {x e : Int} (h : e = 1 ∨ e = 2) : PuR none (some (x, some e, ())) := ⟨fun _ e => (by cases e), fun _ => ⟨x, e, rfl, h⟩⟩
theorem map_getD (s : Str) (k : Nat) (h : k < s.length) : (s.map fun b => (b.toNat : Int)).getD ((k : Int)).toNat 0 = ((s.getD k 0).toNat : Int) := by
 simp [List.getD, h]
theorem pu_digit {n : Nat} {rl : Int → Bool → Str → Int → Int → Bool → Int → (List Int) → Int → Int → Option (Int × (Option Int) × Unit)} {base d v k : Nat} {s9 : Str} {cutoff : Int} {t : List Int} {l : Int} {o : Nat → Option Nat} (hb : base = 10 ∨ base = 16) (hd : d < 36) (hv : v < 4294967296) (hc : 4294967296 ≤ cutoff) (hk : k < 9223372036854775807)
  (hr : ∀ v, v < 4294967296 → PuR (o v) (rl base false s9 cutoff 4294967295 false v t l ((k + 1 : Nat) : Int))) :
  PuR (if d < base then (if v * base + d < 4294967296 then o (v * base + d) else none) else none) (internal_strconv_ParseUint.j46 n rl base false s9 cutoff 4294967295 false v d t l k) := by
 unfold internal_strconv_ParseUint.j46 internal_strconv_ParseUint.j55
 have hm : v * base < 68719476736 := by
  rcases hb with rfl | rfl <;> omega
 rw [w8u (by omega), w64 (x := (k : Int) + 1) (by omega), w64u (x := (base : Int)) (by omega), w64u (x := (d : Int)) (by omega)]
 have e1 : ((v : Int) * (base : Int)) = ((v * base : Nat) : Int) := by simp
 rw [e1]
 have hr' := fun h => hr (v * base + d) h
 generalize v * base = M at *
 rw [w64u (x := (M : Int)) (by omega), w64u (x := (M : Int) + d) (by omega)]
 simp only [dt, df]
 by_cases h1 : d < base
 ·by_cases h2 : M + d < 4294967296
  ·rw [if_pos h1, if_pos h2, if_neg (by omega), if_neg (by omega), if_pos (by omega), if_neg (by omega)]
   have := hr' h2
   simpa using this
  ·rw [if_pos h1, if_neg h2, if_neg (by omega), if_neg (by omega), if_pos (by omega), if_pos (by omega)]
   exact PuR.bad (.inl rfl)
 ·rw [if_neg h1, if_pos (by omega)]
  exact PuR.bad (.inr rfl)
theorem pu_loop (s s9 : Str) (base : Nat) (cutoff : Int) (hb : base = 10 ∨ base = 16) (hc : 4294967296 ≤ cutoff) (hs : s.length < 9223372036854775807) (n : Nat) : ∀ (m k v : Nat), k ≤ s.length → s.length - k < m → v < 4294967296 →
  PuR (numFrom base v (s.drop k)) (internal_strconv_ParseUint.l36 n m base false s9 cutoff 4294967295 false v (s.map fun b => (b.toNat : Int)) ((s.map fun b => (b.toNat : Int)).length : Int) k) := by
 intro m
 induction m with
 | zero => intro k v _ h; omega
 | succ m ih =>
  intro k v hk hm hv
  simp only [internal_strconv_ParseUint.l36, dt, df]
  by_cases hlt : k < s.length
  ·have hl : k < (s.map fun b => (b.toNat : Int)).length := by simpa using hlt
   rw [if_pos (by omega), if_pos (by omega), drop_cons hlt]
   simp only [map_getD s k hlt, lower_eq, Option.bind_some, Bool.false_eq_true, if_false]
   have step : ∀ d, digOf (s.getD k 0) = some d → d < 36 → PuR (numFrom base v (s.getD k 0 :: s.drop (k + 1))) (internal_strconv_ParseUint.j46 n (internal_strconv_ParseUint.l36 n m) base false s9 cutoff 4294967295 false v d (s.map fun b => (b.toNat : Int)) ((s.map fun b => (b.toNat : Int)).length : Int) k) := by
    intro d hd hd36
    simp only [numFrom, hd]
    exact pu_digit (o := fun v => numFrom base v (s.drop (k + 1))) hb hd36 hv hc (by omega) fun v hv => ih (k + 1) v (by omega) (by omega) hv
   have bad : digOf (s.getD k 0) = none → PuR (numFrom base v (s.getD k 0 :: s.drop (k + 1))) (some ((0 : Int), some (2 : Int), ())) := by
    intro hd
    simp only [numFrom, hd]
    exact PuR.bad (.inr rfl)
   generalize hbb : s.getD k 0 = b at *
   have hb1 := byte_lt b
   have dig1 : (48 : Int) ≤ b.toNat → (b.toNat : Int) ≤ 57 → digOf b = some (b.toNat - 48) := fun h1 h2 => by unfold digOf; rw [if_pos (by omega)]
   have dig2 : ¬((48 : Int) ≤ b.toNat ∧ (b.toNat : Int) ≤ 57) → (97 : Int) ≤ lowN b.toNat → lowN b.toNat ≤ (122 : Int) → ∃ d, digOf b = some d ∧ d < 36 ∧ IntKind.u8.wrap (IntKind.u8.wrap (lowN b.toNat - 97) + 10) = (d : Int) := fun h1 h2 h3 => by
    rw [w8u (x := lowN b.toNat - 97) (by omega), w8u (by omega)]
    unfold lowN at h2 h3 ⊢
    unfold digOf
    rw [if_neg (by omega)]
    split at h2
    ·rw [if_pos (by omega)] at h3
     rw [if_pos (by omega), if_pos (by omega)]
     exact ⟨_, rfl, by omega, by omega⟩
    ·rw [if_neg (by omega)] at h3
     rw [if_neg (by omega), if_pos (by omega), if_neg (by omega)]
     exact ⟨_, rfl, by omega, by omega⟩
   have dig3 : ¬((48 : Int) ≤ b.toNat ∧ (b.toNat : Int) ≤ 57) → ¬((97 : Int) ≤ lowN b.toNat ∧ lowN b.toNat ≤ (122 : Int)) → digOf b = none := fun h1 h2 => by
    unfold lowN at h2
    unfold digOf
    rw [if_neg (by omega)]
    split at h2
    ·rw [if_neg (by omega), if_neg (by omega)]
    ·rw [if_neg (by omega), if_neg (by omega)]
   have wr : (48 : Int) ≤ b.toNat → (b.toNat : Int) ≤ 57 → IntKind.u8.wrap ((b.toNat : Int) - 48) = ((b.toNat - 48 : Nat) : Int) := fun h1 h2 => by rw [w8u (by omega)]; omega
   have lets : ¬((48 : Int) ≤ b.toNat ∧ (b.toNat : Int) ≤ 57) → PuR (numFrom base v (b :: s.drop (k + 1))) (if (97 : Int) ≤ lowN b.toNat then (if lowN b.toNat ≤ (122 : Int) then internal_strconv_ParseUint.j46 n (internal_strconv_ParseUint.l36 n m) base false s9 cutoff 4294967295 false v (IntKind.u8.wrap (IntKind.u8.wrap (lowN b.toNat - 97) + 10)) (s.map fun b => (b.toNat : Int)) ((s.map fun b => (b.toNat : Int)).length : Int) k
     else some ((0 : Int), some (2 : Int), ())) else some ((0 : Int), some (2 : Int), ())) := by
    intro h0
    by_cases h1 : (97 : Int) ≤ lowN b.toNat
    ·rw [if_pos h1]
     by_cases h2 : lowN b.toNat ≤ (122 : Int)
     ·rw [if_pos h2]
      obtain ⟨d, hd, hd36, he⟩ := dig2 h0 h1 h2
      rw [he]
      exact step d hd hd36
     ·rw [if_neg h2]; exact bad (dig3 h0 fun h => h2 h.2)
    ·rw [if_neg h1]; exact bad (dig3 h0 fun h => h1 h.1)
   have rest : PuR (numFrom base v (b :: s.drop (k + 1))) (if (48 : Int) ≤ b.toNat then (if (b.toNat : Int) ≤ 57 then internal_strconv_ParseUint.j46 n (internal_strconv_ParseUint.l36 n m) base false s9 cutoff 4294967295 false v (IntKind.u8.wrap ((b.toNat : Int) - 48)) (s.map fun b => (b.toNat : Int)) ((s.map fun b => (b.toNat : Int)).length : Int) k
     else (if (97 : Int) ≤ lowN b.toNat then (if lowN b.toNat ≤ (122 : Int) then internal_strconv_ParseUint.j46 n (internal_strconv_ParseUint.l36 n m) base false s9 cutoff 4294967295 false v (IntKind.u8.wrap (IntKind.u8.wrap (lowN b.toNat - 97) + 10)) (s.map fun b => (b.toNat : Int)) ((s.map fun b => (b.toNat : Int)).length : Int) k
     else some ((0 : Int), some (2 : Int), ())) else some ((0 : Int), some (2 : Int), ())))
     else (if (97 : Int) ≤ lowN b.toNat then (if lowN b.toNat ≤ (122 : Int) then internal_strconv_ParseUint.j46 n (internal_strconv_ParseUint.l36 n m) base false s9 cutoff 4294967295 false v (IntKind.u8.wrap (IntKind.u8.wrap (lowN b.toNat - 97) + 10)) (s.map fun b => (b.toNat : Int)) ((s.map fun b => (b.toNat : Int)).length : Int) k
     else some ((0 : Int), some (2 : Int), ())) else some ((0 : Int), some (2 : Int), ()))) := by
    by_cases h1 : (48 : Int) ≤ b.toNat
    ·rw [if_pos h1]
     by_cases h2 : (b.toNat : Int) ≤ 57
     ·rw [if_pos h2, wr h1 h2]; exact step _ (dig1 h1 h2) (by omega)
     ·rw [if_neg h2]; exact lets fun h => h2 h.2
    ·rw [if_neg h1]; exact lets fun h => h1 h.1
   split
   ·exact rest
   ·exact rest
  ·have : k = s.length := by omega
   subst this
   rw [if_neg (by simp), List.drop_length]
   simp only [Bool.false_eq_true, if_false]
   exact ⟨fun v' e => by simp only [numFrom, Option.some.injEq] at e; rw [e], fun e => by simp [numFrom] at e⟩
theorem parse_inner (s : Str) (base : Nat) (hb : base = 10 ∨ base = 16) (hs : s.length < 9223372036854775807) : PuR (if s = [] then none else numFrom base 0 s) (internal_strconv_ParseUint.g s base 32) := by
 unfold internal_strconv_ParseUint.g internal_strconv_ParseUint.f
 simp only [dt, df]
 by_cases h0 : s = []
 ·rw [if_pos h0, if_pos h0]
  exact PuR.bad (.inr rfl)
 ·rw [if_neg h0, if_neg h0, if_pos (by omega), if_pos (by omega)]
  have hb0 : decide ((base : Int) = 0) = false := by simp; omega
  rw [hb0]
  unfold internal_strconv_ParseUint.j21
  simp only [dt, df]
  rw [if_neg (by omega), if_pos (by omega), if_neg (by omega)]
  unfold internal_strconv_ParseUint.j25
  simp only [dt, df]
  have fin : ∀ cutoff : Int, 4294967296 ≤ cutoff → PuR (numFrom base 0 s) (internal_strconv_ParseUint.j32 (1000 + s.length + (base : Int).toNat + (32 : Int).toNat) s base 32 false s cutoff) := by
   intro cutoff hc
   unfold internal_strconv_ParseUint.j32
   have e1 : IntKind.u64.wrap 32 = 32 := w64u (by omega)
   rw [e1, if_neg (by omega)]
   have e2 : IntKind.u64.wrap (IntKind.u64.wrap (1 * 2 ^ min (32 : Int).toNat IntKind.u64.bits) - 1) = 4294967295 := by decide
   rw [e2]
   have := pu_loop s s base cutoff hb hc hs (1000 + s.length + (base : Int).toNat + (32 : Int).toNat) (1000 + s.length + (base : Int).toNat + (32 : Int).toNat) 0 0 (by omega) (by omega) (by omega)
   simpa using this
  rcases hb with rfl | rfl
  ·rw [if_pos (by omega)]; exact fin _ (by omega)
  ·rw [if_neg (by omega), if_pos (by omega)]; exact fin _ (by omega)
theorem parse_eq (s : Str) (base : Nat) (hb : base = 10 ∨ base = 16) (hs : s.length ≤ 281474976710656) : (∀ v, (if s = [] then none else numFrom base 0 s) = some v → strconv_ParseUint.g s base 32 = some ((v : Int), true, ())) ∧
  ((if s = [] then none else numFrom base 0 s) = none → ∃ x, strconv_ParseUint.g s base 32 = some (x, false, ())) := by
 obtain ⟨h1, h2⟩ := parse_inner s base hb (by omega)
 refine ⟨fun v hv => ?_, fun hn => ?_⟩
 ·unfold strconv_ParseUint.g strconv_ParseUint.f
  rw [h1 v hv]; rfl
 ·obtain ⟨x, e, he, hc⟩ := h2 hn
  unfold strconv_ParseUint.g strconv_ParseUint.f
  rw [he]
  simp only [Option.bind_some, Option.isNone_some, Bool.not_false, if_true, L.toErrorO, Option.some.injEq]
  rw [if_pos ⟨hs, hc⟩]
  exact ⟨x, rfl⟩
theorem contains_mem : ∀ {s : Str} {c : UInt8}, Lib.contains s [c] = true → c ∈ s
 | [], c, h => by simp [Lib.contains, Lib.index] at h
 | b :: l, c, h => by
  by_cases hb : c = b
  ·simp [hb]
  ·have : Lib.contains l [c] = true := by
    simp only [Lib.contains, Lib.index, List.isPrefixOf, Bool.and_true, beq_iff_eq, decide_eq_true_eq] at h ⊢
    rw [if_neg hb] at h
    split at h
    ·omega
    ·have := Lib.index_ge l [c]
     rename_i hne
     have : ¬ Lib.index l [c] = -1 := by simpa using hne
     omega
   exact List.mem_cons_of_mem _ (contains_mem this)
theorem numFrom_bad {base : Nat} : ∀ {s : Str} {v : Nat}, (95 : UInt8) ∈ s → numFrom base v s = none
 | [], _, h => by cases h
 | c :: r, v, h => by
  simp only [numFrom]
  rcases List.mem_cons.1 h with h | h
  ·rw [← h]
   have : digOf 95 = none := by decide
   rw [this]
  ·(repeat' split) <;> first | rfl | exact numFrom_bad h
theorem numFrom_lt {base : Nat} : ∀ {s : Str} {v w : Nat}, v < 4294967296 → numFrom base v s = some w → w < 4294967296
 | [], _, _, hv, h => by simp only [numFrom, Option.some.injEq] at h; omega
 | c :: r, v, w, hv, h => by
  simp only [numFrom] at h
  split at h
  ·split at h
   ·split at h
    ·exact numFrom_lt (by assumption) h
    ·cases h
   ·cases h
  ·cases h
def num (s : Str) : Option Nat :=
 if ([48, 120] : Str).isPrefixOf s then (if s.drop 2 = [] then none else numFrom 16 0 (s.drop 2)) else if s = [] then none else numFrom 10 0 s
theorem number_part (s : Str) (base : Nat) (n : Nat) (hb : base = 10 ∨ base = 16) (hs : s.length ≤ 1000000) :
  (∀ v, (if s = [] then none else numFrom base 0 s) = some v → scan_number.j5 n s base = some ((v : Int), true, ())) ∧ ((if s = [] then none else numFrom base 0 s) = none → ∃ x, scan_number.j5 n s base = some (x, false, ())) := by
 have hcO : L.containsO s [95] = some (Lib.contains s [95], ()) := by unfold L.containsO; rw [if_pos (by omega)]
 unfold scan_number.j5
 rw [hcO, Option.bind_some]
 obtain ⟨h1, h2⟩ := parse_eq s base hb (by omega)
 by_cases hc : Lib.contains s [95] = true
 ·simp only [hc, if_true]
  have hm := contains_mem hc
  have hne : s ≠ [] := by rintro rfl; cases hm
  rw [if_neg hne, numFrom_bad hm]
  exact ⟨fun v e => (by cases e), fun _ => ⟨_, rfl⟩⟩
 ·simp only [hc, Bool.false_eq_true, if_false]
  refine ⟨fun v hv => ?_, fun hn => ?_⟩
  ·have hlt : v < 4294967296 := by
    split at hv
    ·cases hv
    ·exact numFrom_lt (by omega) hv
   rw [h1 v hv, Option.bind_some, w32u (by omega)]
  ·obtain ⟨x, hx⟩ := h2 hn
   rw [hx, Option.bind_some]
   exact ⟨_, rfl⟩
theorem number_eq (s : Str) (hs : s.length ≤ 1000000) : (∀ v, num s = some v → scan_number.g s = some ((v : Int), true, ())) ∧ (num s = none → ∃ x, scan_number.g s = some (x, false, ())) := by
 unfold scan_number.g scan_number.f num L.cutIs L.cutRest Lib.trimPrefix Lib.hasPrefix
 by_cases hp : ([48, 120] : Str).isPrefixOf s = true
 ·simp only [hp, if_true]
  exact number_part (s.drop 2) 16 _ (.inr rfl) (by simp; omega)
 ·have hp' : ([48, 120] : Str).isPrefixOf s = false := Bool.eq_false_iff.2 hp
  simp only [hp', Bool.false_eq_true, if_false]
  exact number_part s 10 _ (.inl rfl) hs
abbrev Tok := Int × Int × Str × Int × Unit
def isS (c : UInt8) : Bool := ([44, 58, 43, 45, 42, 40, 41, 61] : Str).contains c
def tokAt (c : UInt8) (r : Str) : Except Int (Nat × Int × Str × Int) :=
 if isL c then .ok (0, 1, wordOf (c :: r), 0)
 else if isD c then match num (wordOf (c :: r)) with
  | some v => .ok (0, 2, wordOf (c :: r), v)
  | none => .error 21
 else if c = 46 ∧ (∃ d ∈ r.head?, isL d) then .ok (1, 4, wordOf r, 0)
 else if isS c then .ok (0, 3, [c], 0)
 else .error 20
def lineR (k : Int) : Str → Except Int (List Tok)
 | [] => .ok []
 | c :: r =>
  if c = 59 then .ok []
  else if c = 32 ∨ c = 9 then lineR (k + 1) r
  else match tokAt c r with
   | .error e => .error e
   | .ok (d, q, t, v) => match lineR (k + d + t.length) (r.drop (d + t.length - 1)) with
    | .error e => .error e
    | .ok l => .ok ((q, k, t, v, ()) :: l)
termination_by s => s.length
decreasing_by
 all_goals simp
 all_goals omega
theorem lineR_nil (k : Int) : lineR k [] = .ok [] := by rw [lineR]
theorem lineR_cons (k : Int) (c : UInt8) (r : Str) : lineR k (c :: r) = if c = 59 then .ok [] else if c = 32 ∨ c = 9 then lineR (k + 1) r else match tokAt c r with
   | .error e => .error e
   | .ok (d, q, t, v) => match lineR (k + d + t.length) (r.drop (d + t.length - 1)) with
    | .error e => .error e
    | .ok l => .ok ((q, k, t, v, ()) :: l) := by rw [lineR]
theorem sign_tab : ((List.range 256).all fun n => decide ((0 ≤ L.indexByte ([44, 58, 43, 45, 42, 40, 41, 61] : Str) (n : Int)) = (isS (UInt8.ofNat n) = true))) = true := by decide +kernel
theorem sign_eq (b : UInt8) : (0 ≤ L.indexByte ([44, 58, 43, 45, 42, 40, 41, 61] : Str) (b.toNat : Int)) = (isS b = true) := by
 have := List.all_eq_true.1 sign_tab b.toNat (by have := b.toNat_lt; simpa using this)
 have h := of_decide_eq_true this
 simpa using h
def lineOut (out : List Tok) : Except Int (List Tok) → List Tok × Int × Unit
 | .ok l => (out ++ l, 0, ())
 | .error e => ([], e, ())
theorem lineOut_snoc (out : List Tok) (t : Tok) (x : Except Int (List Tok)) : lineOut (out ++ [t]) x = lineOut out (match x with | .error e => .error e | .ok l => .ok (t :: l)) := by
 cases x <;> simp [lineOut]
theorem wordOf_le (s : Str) : (wordOf s).length ≤ s.length := (List.takeWhile_prefix isW).length_le
theorem wordOf_pos {c : UInt8} {r : Str} (h : isW c = true) : 1 ≤ (wordOf (c :: r)).length := by
 simp [wordOf, List.takeWhile_cons, h]
theorem line_loop (s : Str) (hs : s.length ≤ 1000000) (n : Nat) : ∀ (m k : Nat) (out : List Tok), k ≤ s.length → s.length - k < m → out.length ≤ k → scan_Line.g0 n m s out (k : Int) = some (lineOut out (lineR k (s.drop k))) := by
 intro m
 induction m with
 | zero => intro k out _ h; omega
 | succ m ih =>
  intro k out hk hm hout
  have e1 : IntKind.i64.wrap ((k : Int) + 1) = ((k + 1 : Nat) : Int) := by rw [w64 (by omega)]; omega
  by_cases hlt : k < s.length
  ·have tok : ∀ (d : Nat) (q : Int) (t : Str) (v : Int), 1 ≤ d + t.length → k + d + t.length ≤ s.length → scan_Line.j23 n (scan_Line.g0 n m) s out ((k + d : Nat) : Int) q (k : Int) t v = some (lineOut out (match lineR ((k : Int) + d + t.length) ((s.drop (k + 1)).drop (d + t.length - 1)) with
     | .error e => .error e
     | .ok l => .ok ((q, k, t, v, ()) :: l))) := by
    intro d q t v h1 h2
    unfold scan_Line.j23
    rw [if_pos (by simp; omega), w64 (by omega)]
    have := ih (k + d + t.length) (out ++ [(q, (k : Int), t, v, ())]) h2 (by omega) (by simp; omega)
    rw [lineOut_snoc] at this
    rw [show ((k + d : Nat) : Int) + (t.length : Int) = ((k + d + t.length : Nat) : Int) by omega, List.drop_drop, show k + 1 + (d + t.length - 1) = k + d + t.length by omega, show (k : Int) + (d : Int) + (t.length : Int) = ((k + d + t.length : Nat) : Int) by omega]
    exact this
   have tok0 := fun q t v h1 h2 => tok 0 q t v h1 h2
   simp only [Nat.add_zero, Nat.zero_add] at tok0
   have tok1 := fun q t v h1 h2 => tok 1 q t v h1 h2
   have skip : scan_Line.g0 n m s out ((k + 1 : Nat) : Int) = some (lineOut out (lineR ((k : Int) + 1) (s.drop (k + 1)))) := by
    rw [show (k : Int) + 1 = ((k + 1 : Nat) : Int) by omega]
    exact ih (k + 1) out (by omega) (by omega) (by omega)
   rw [drop_cons hlt, lineR_cons]
   simp only [scan_Line.g0, dt, df]
   simp only [e1, bt_nat, letter_eq, digit_eq, Option.bind_some, Int.toNat_natCast, List.take_length, sign_eq]
   rw [if_pos (by omega), if_pos (by omega)]
   have hw0 := word_eq (s.drop k) (by simp; omega)
   have hw1 := word_eq (s.drop (k + 1)) (by simp; omega)
   rw [hw0, hw1, drop_cons hlt]
   have hl0 := wordOf_le (s.drop k)
   have hl1 := wordOf_le (s.drop (k + 1))
   rw [drop_cons hlt] at hl0
   have hd0 : (s.drop (k + 1)).length = s.length - (k + 1) := by simp
   have hd1 : (s.getD k 0 :: s.drop (k + 1)).length = s.length - k := by simp; omega
   have hsign : (s.take (k + 1)).drop k = [s.getD k 0] := by
    rw [List.drop_take, drop_cons hlt]
    simp [show k + 1 - k = 1 by omega]
   have hhead : (∃ d ∈ (s.drop (k + 1)).head?, isL d = true) ↔ k + 1 < s.length ∧ isL (s.getD (k + 1) 0) = true := by
    by_cases h : k + 1 < s.length
    ·rw [drop_cons h]; simp [h]
    ·rw [List.drop_eq_nil_of_le (by omega)]; simp [h]
   have hwp := @wordOf_pos (s.getD k 0) (s.drop (k + 1))
   have hwq : k + 1 < s.length → isL (s.getD (k + 1) 0) = true → 1 ≤ (wordOf (s.drop (k + 1))).length := fun h h' => by
    rw [drop_cons h]; exact wordOf_pos (by unfold isW; rw [h']; rfl)
   rw [hsign]
   have b59 : (((s.getD k 0).toNat : Int) = 59) = (s.getD k 0 = 59) := byte_is _ 59 (by decide)
   have b32 : (((s.getD k 0).toNat : Int) = 32) = (s.getD k 0 = 32) := byte_is _ 32 (by decide)
   have b9 : (((s.getD k 0).toNat : Int) = 9) = (s.getD k 0 = 9) := byte_is _ 9 (by decide)
   have b46 : (((s.getD k 0).toNat : Int) = 46) = (s.getD k 0 = 46) := byte_is _ 46 (by decide)
   generalize s.getD k 0 = b at *
   by_cases h59 : b = 59
   ·rw [if_pos (by rw [h59]; rfl), if_pos h59]
    simp [lineOut]
   ·rw [if_neg (fun h => h59 (b59.mp h)), if_neg h59, if_pos (by omega)]
    by_cases h32 : b = 32
    ·rw [if_neg (fun h => h (b32.mpr h32)), if_pos (.inl h32)]
     exact skip
    ·rw [if_pos (fun h => h32 (b32.mp h))]
     by_cases h9 : b = 9
     ·rw [if_pos (b9.mpr h9), if_pos (.inr h9)]
      exact skip
     ·rw [if_neg (fun h => h9 (b9.mp h)), if_neg (show ¬ (b = 32 ∨ b = 9) from fun h => h.elim h32 h9)]
      unfold tokAt
      by_cases hL : isL b = true
      ·rw [if_pos hL, if_pos hL, if_pos (by omega)]
       simp only [Option.bind_some]
       rw [tok0 _ _ _ (hwp (by simp [isW, hL])) (by omega)]
       simp
      ·rw [if_neg hL, if_neg hL]
       by_cases hD : isD b = true
       ·rw [if_pos hD, if_pos hD, if_pos (by omega)]
        simp only [Option.bind_some]
        obtain ⟨h1, h2⟩ := number_eq (wordOf (b :: s.drop (k + 1))) (by omega)
        cases hn : num (wordOf (b :: s.drop (k + 1))) with
        | none =>
         obtain ⟨x, hx⟩ := h2 hn
         rw [hx]
         simp [lineOut]
        | some v =>
         rw [h1 v hn]
         simp only [Option.bind_some, Bool.not_true, Bool.false_eq_true, if_false]
         rw [tok0 _ _ _ (hwp (by simp [isW, hD])) (by omega)]
         simp
       ·rw [if_neg hD, if_neg hD]
        have sgn : (if isS b = true then (if 0 ≤ ((k + 1 : Nat) : Int) ∧ ((k + 1 : Nat) : Int) ≤ (s.length : Int) then (if 0 ≤ (k : Int) ∧ (k : Int) ≤ ((k + 1 : Nat) : Int) then scan_Line.j23 n (scan_Line.g0 n m) s out k 3 k [b] 0 else none) else none) else some ([], 20, ())) =
          some (lineOut out (match (if isS b = true then Except.ok (0, 3, [b], 0) else Except.error 20 : Except Int (Nat × Int × Str × Int)) with
           | .error e => .error e
           | .ok (d, q, t, v) => match lineR (k + d + t.length) ((s.drop (k + 1)).drop (d + t.length - 1)) with
            | .error e => .error e
            | .ok l => .ok ((q, k, t, v, ()) :: l))) := by
         by_cases hS : isS b = true
         ·rw [if_pos hS, if_pos hS, if_pos (by omega), if_pos (by omega), tok0 _ _ _ (by simp) (by simp; omega)]
          simp
         ·rw [if_neg hS, if_neg hS]
          simp [lineOut]
        by_cases h46 : b = 46
        ·rw [if_pos (b46.mpr h46)]
         by_cases hk1 : k + 1 < s.length
         ·rw [if_pos (by omega), if_pos (by omega)]
          by_cases hL1 : isL (s.getD (k + 1) 0) = true
          ·rw [if_pos hL1, if_pos (by omega), if_pos ⟨h46, hhead.mpr ⟨hk1, hL1⟩⟩]
           simp only [Option.bind_some]
           have := hwq hk1 hL1
           rw [tok1 _ _ _ (by omega) (by omega)]
          ·rw [if_neg hL1, if_neg (show ¬ (b = 46 ∧ ∃ d ∈ (s.drop (k + 1)).head?, isL d = true) from fun h => hL1 (hhead.mp h.2).2)]
           exact sgn
         ·rw [if_neg (by omega), if_neg (show ¬ (b = 46 ∧ ∃ d ∈ (s.drop (k + 1)).head?, isL d = true) from fun h => hk1 (hhead.mp h.2).1)]
          exact sgn
        ·rw [if_neg (fun h => h46 (b46.mp h)), if_neg (show ¬ (b = 46 ∧ ∃ d ∈ (s.drop (k + 1)).head?, isL d = true) from fun h => h46 h.1)]
         exact sgn
  ·have : k = s.length := by omega
   subst this
   simp only [scan_Line.g0, dt, df]
   rw [if_neg (by omega), List.drop_length, lineR_nil]
   simp [lineOut]
theorem line_eq (s : Str) (hs : s.length ≤ 1000000) : scan_Line.g s = some (lineOut [] (lineR 0 s)) := by
 unfold scan_Line.g scan_Line.f
 have := line_loop s hs (1000 + s.length) (1000 + s.length) 0 [] (by omega) (by omega) (by simp)
 simpa using this
end Rv
namespace Rv
open Go
def shift (j : Int) (t : Tok) : Tok := (t.1, t.2.1 + j, t.2.2)
def exMap {α β : Type} (f : α → β) : Except Int α → Except Int β
 | .error e => .error e
 | .ok a => .ok (f a)
theorem lineR_shift (j : Int) : ∀ (n : Nat) (k : Int) (s : Str), s.length ≤ n → lineR (k + j) s = exMap (List.map (shift j)) (lineR k s)
 | _, k, [], _ => by rw [lineR_nil, lineR_nil]; rfl
 | 0, k, c :: r, h => by simp at h
 | n + 1, k, c :: r, h => by
  simp only [List.length_cons] at h
  rw [lineR_cons, lineR_cons]
  by_cases h59 : c = 59
  ·rw [if_pos h59, if_pos h59]; rfl
  ·rw [if_neg h59, if_neg h59]
   by_cases hb : c = 32 ∨ c = 9
   ·rw [if_pos hb, if_pos hb, show k + j + 1 = k + 1 + j by omega]
    exact lineR_shift j n (k + 1) r (by omega)
   ·rw [if_neg hb, if_neg hb]
    cases tokAt c r with
    | error e => rfl
    | ok x =>
     obtain ⟨d, q, t, v⟩ := x
     simp only
     rw [show k + j + (d : Int) + (t.length : Int) = k + d + t.length + j by omega, lineR_shift j n (k + d + t.length) (r.drop (d + t.length - 1)) (by simp; omega)]
     cases lineR (k + d + t.length) (r.drop (d + t.length - 1)) with
     | error e => rfl
     | ok l => rfl
theorem word_no59 {s : Str} : (59 : UInt8) ∉ s.takeWhile isW := by
 intro h
 have h1 : (s.takeWhile isW).all isW = true := List.all_takeWhile
 have := List.all_eq_true.1 h1 59 h
 exact absurd this (by decide)
theorem takeW (s : Str) : s.take (s.takeWhile isW).length = s.takeWhile isW := (List.prefix_iff_eq_take.1 (List.takeWhile_prefix isW)).symm
theorem tokAt_ok {c : UInt8} {r : Str} {d : Nat} {q : Int} {t : Str} {v : Int} (h : tokAt c r = .ok (d, q, t, v)) : 1 ≤ d + t.length ∧ d + t.length - 1 ≤ r.length ∧ (59 : UInt8) ∉ r.take (d + t.length - 1) := by
 have wc : isW c = true → 1 ≤ 0 + (wordOf (c :: r)).length ∧ 0 + (wordOf (c :: r)).length - 1 ≤ r.length ∧ (59 : UInt8) ∉ r.take (0 + (wordOf (c :: r)).length - 1) := by
  intro hc
  have : wordOf (c :: r) = c :: r.takeWhile isW := by simp [wordOf, List.takeWhile_cons, hc]
  rw [this]
  have hl := (List.takeWhile_prefix isW (l := r)).length_le
  simp only [List.length_cons]
  refine ⟨by omega, by omega, ?_⟩
  rw [show 0 + ((r.takeWhile isW).length + 1) - 1 = (r.takeWhile isW).length by omega, takeW]
  exact word_no59
 unfold tokAt at h
 split at h
 ·rename_i hL
  simp only [Except.ok.injEq, Prod.mk.injEq] at h
  obtain ⟨rfl, rfl, rfl, rfl⟩ := h
  exact wc (by simp [isW, hL])
 ·split at h
  ·rename_i hD
   split at h
   ·simp only [Except.ok.injEq, Prod.mk.injEq] at h
    obtain ⟨rfl, rfl, rfl, rfl⟩ := h
    exact wc (by simp [isW, hD])
   ·cases h
  ·split at h
   ·simp only [Except.ok.injEq, Prod.mk.injEq] at h
    obtain ⟨rfl, rfl, rfl, rfl⟩ := h
    have hl := wordOf_le r
    refine ⟨by omega, by omega, ?_⟩
    rw [show 1 + (wordOf r).length - 1 = (r.takeWhile isW).length by unfold wordOf; omega, takeW]
    exact word_no59
   ·split at h
    ·simp only [Except.ok.injEq, Prod.mk.injEq] at h
     obtain ⟨rfl, rfl, rfl, rfl⟩ := h
     simp
    ·cases h
theorem takeW_app {s : Str} {b : UInt8} {y : Str} (hb : isW b = false) : (s ++ b :: y).takeWhile isW = s.takeWhile isW := by
 induction s with
 | nil => simp [List.takeWhile_cons, hb]
 | cons c s ih =>
  simp only [List.cons_append, List.takeWhile_cons]
  rw [ih]
theorem tokAt_app {c : UInt8} {r : Str} {b : UInt8} {y : Str} (hb : isW b = false) : tokAt c (r ++ b :: y) = tokAt c r := by
 have h1 : wordOf (c :: (r ++ b :: y)) = wordOf (c :: r) := takeW_app (s := c :: r) hb
 have h2 : wordOf (r ++ b :: y) = wordOf r := takeW_app hb
 have h3 : (∃ d ∈ (r ++ b :: y).head?, isL d = true) ↔ (∃ d ∈ r.head?, isL d = true) := by
  cases r with
  | nil =>
   have : isL b = false := by cases h : isL b with
    | true => simp [isW, h] at hb
    | false => rfl
   simp [this]
  | cons e r => simp
 unfold tokAt
 rw [h1, h2]
 simp only [h3]
theorem lineR_app {b : UInt8} (hb : b = 32 ∨ b = 9) (y : Str) : ∀ (n : Nat) (k : Int) (x : Str), x.length ≤ n → lineR k (x ++ b :: y) = match lineR k x with
  | .error e => .error e
  | .ok l => if (59 : UInt8) ∈ x then .ok l else match lineR (k + x.length + 1) y with
   | .error e => .error e
   | .ok m => .ok (l ++ m) := by
 have hW : isW b = false := by rcases hb with rfl | rfl <;> decide
 have h59b : b ≠ 59 := by rcases hb with rfl | rfl <;> decide
 intro n
 induction n with
 | zero =>
  intro k x hx
  have : x = [] := List.length_eq_zero_iff.1 (by omega)
  subst this
  rw [List.nil_append, lineR_cons, if_neg h59b, if_pos hb, lineR_nil]
  simp only [List.not_mem_nil, if_false, List.length_nil, List.nil_append]
  rw [show k + ((0 : Nat) : Int) + 1 = k + 1 by omega]
  cases lineR (k + 1) y <;> rfl
 | succ n ih =>
  intro k x hx
  cases x with
  | nil => exact ih k [] (by simp)
  | cons c r =>
   simp only [List.length_cons] at hx
   rw [List.cons_append, lineR_cons, lineR_cons]
   by_cases h59 : c = 59
   ·rw [if_pos h59, if_pos h59]
    simp [h59]
   ·rw [if_neg h59, if_neg h59]
    have hmem : ((59 : UInt8) ∈ c :: r) = ((59 : UInt8) ∈ r) := by
     simp only [List.mem_cons, eq_iff_iff, or_iff_right_iff_imp]
     intro e; exact absurd e.symm h59
    by_cases hbl : c = 32 ∨ c = 9
    ·rw [if_pos hbl, if_pos hbl, ih (k + 1) r (by omega)]
     simp only [hmem, List.length_cons]
     rw [show k + 1 + (r.length : Int) + 1 = k + ((r.length + 1 : Nat) : Int) + 1 by omega]
    ·rw [if_neg hbl, if_neg hbl, tokAt_app hW]
     cases hT : tokAt c r with
     | error e => rfl
     | ok z =>
      obtain ⟨d, q, t, v⟩ := z
      obtain ⟨h1, h2, h3⟩ := tokAt_ok hT
      simp only
      rw [List.drop_append_of_le_length h2, ih _ _ (by simp; omega)]
      have hm2 : ((59 : UInt8) ∈ r.drop (d + t.length - 1)) = ((59 : UInt8) ∈ r) := by
       apply propext
       constructor
       ·exact List.mem_of_mem_drop
       ·intro h
        rw [← List.take_append_drop (d + t.length - 1) r, List.mem_append] at h
        exact h.resolve_left h3
      rw [List.length_drop, show k + (d : Int) + (t.length : Int) + ((r.length - (d + t.length - 1) : Nat) : Int) + 1 = k + ((r.length + 1 : Nat) : Int) + 1 by omega]
      simp only [hm2, hmem, List.length_cons]
      cases lineR (k + d + t.length) (r.drop (d + t.length - 1)) with
      | error e => rfl
      | ok l =>
       by_cases h59r : (59 : UInt8) ∈ r
       ·simp only [h59r, if_true]
       ·simp only [h59r, if_false]
        cases lineR (k + ((r.length + 1 : Nat) : Int) + 1) y <;> rfl
theorem lineR_len : ∀ (n : Nat) (k : Int) (s : Str) (l : List Tok), s.length ≤ n → lineR k s = .ok l → l.length ≤ s.length
 | _, k, [], l, _, h => by rw [lineR_nil] at h; cases h; simp
 | 0, k, c :: r, l, hn, _ => by simp at hn
 | n + 1, k, c :: r, l, hn, h => by
  simp only [List.length_cons] at hn ⊢
  rw [lineR_cons] at h
  split at h
  ·cases h; simp
  ·split at h
   ·have := lineR_len n (k + 1) r l (by omega) h; omega
   ·split at h
    ·cases h
    ·split at h
     ·cases h
     ·rename_i l' hl
      cases h
      have := lineR_len n _ _ l' (by simp; omega) hl
      simp at this ⊢; omega
theorem lineOut_len {k : Int} {s : Str} : (lineOut [] (lineR k s)).1.length ≤ s.length := by
 cases h : lineR k s with
 | error e => simp [lineOut]
 | ok l => simpa [lineOut] using lineR_len s.length k s l (Nat.le_refl _) h
end Rv
namespace Rv
open Go
end Rv
namespace Rv
open Go
end Rv
namespace Rv
open Go
def regLike (s : Str) : Bool := decide (s.getD 0 0 = 82) && (decide (s.length = 2) || decide (s.length = 3)) && (s.drop 1).all isD
def labelOk (s : Str) : Bool := decide (s ≠ []) && decide (s.length ≤ 12) && !isD (s.getD 0 0) && s.all isW && !regLike s
def labT (b : Int) : Bool :=
 if bitsI .or .u8 b 32 < 97 ∨ 122 < bitsI .or .u8 b 32 ∨ b < 65 then decide (b = 95) || (!decide (b < 48) && !decide (57 < b)) else true
theorem labT_all : ((List.range 256).all fun k => labT k == isW (UInt8.ofNat k)) = true := by decide +kernel
theorem labT_eq (b : UInt8) : labT b.toNat = isW b := by
 have h := List.all_eq_true.1 labT_all b.toNat (by simp; exact b.toNat_lt)
 simpa using h
theorem propTF (p : Prop) : p = True ∨ p = False := (Classical.em p).imp eq_true eq_false
theorem label_step (s : Str) (n m : Nat) (i : Nat) (h1 : i < s.length) (X : Option (Bool × Unit)) (hX : name_Label.j9 n (name_Label.l4 n m) s (s.length : Int) (i : Int) = X) :
  name_Label.l4 n (m + 1) s (s.length : Int) (i : Int) = if labT (bt s i) = true then X else some (false, ()) := by
 have hc : (0 : Int) ≤ i ∧ (i : Int) < s.length := by omega
 have hc2 : (i : Int) < s.length := hc.2
 simp only [name_Label.l4, dt, df, hX, labT]
 by_cases a1 : bitsI .or .u8 (bt s i) 32 < 97 <;> by_cases a2 : 122 < bitsI .or .u8 (bt s i) 32 <;> by_cases a3 : bt s i < 65 <;> rcases propTF (bt s i = 95) with a4 | a4 <;> by_cases a5 : bt s i < 48 <;> by_cases a6 : 57 < bt s i <;>
  simp only [hc, hc2, a1, a2, a3, a4, a5, a6, if_true, if_false, not_true_eq_false, not_false_eq_true, ne_eq, true_or, or_true, or_false, false_or, or_self, and_self, true_and, decide_true, decide_false, Bool.true_or, Bool.false_or, Bool.not_true, Bool.not_false, Bool.and_true, Bool.and_false, Bool.false_and, Bool.true_and, Bool.or_self, Bool.or_false, Bool.or_true, Bool.false_eq_true]
theorem label_loop (s : Str) (hs : s.length ≤ 12) (n : Nat) : ∀ (m i : Nat), i ≤ s.length → s.length - i < m →
  name_Label.l4 n m s (s.length : Int) (i : Int) = if (s.drop i).all isW = true then name_Label.l4 n 1 s (s.length : Int) (s.length : Int) else some (false, ()) := by
 intro m
 induction m with
 | zero => intro i _ h; omega
 | succ m ih =>
  intro i hi hm
  by_cases h1 : i < s.length
  ·have hnext : name_Label.j9 n (name_Label.l4 n m) s (s.length : Int) (i : Int) = if (s.drop (i + 1)).all isW = true then name_Label.l4 n 1 s (s.length : Int) (s.length : Int) else some (false, ()) := by
    unfold name_Label.j9
    rw [w64 (by omega), show (i : Int) + 1 = ((i + 1 : Nat) : Int) by omega]
    exact ih (i + 1) (by omega) (by omega)
   rw [label_step s n m i h1 _ hnext, bt_nat, labT_eq, drop_cons h1, List.all_cons]
   cases hw : isW (s.getD i 0)
   ·rfl
   ·rw [if_pos rfl, Bool.true_and]
  ·have hi' : i = s.length := by omega
   subst hi'
   rw [List.drop_length, List.all_nil, if_pos rfl]
   have hlt : ¬ ((s.length : Int) < s.length) := by omega
   simp only [name_Label.l4, dt, hlt, if_false]
theorem dig_eq (b : UInt8) : L.isDig b = isD b := by simp [L.isDig, isD]
theorem dropWhile_head {p : UInt8 → Bool} : ∀ {l : Str} {a : UInt8} {r : Str}, l.dropWhile p = a :: r → p a = false
 | [], _, _, h => by simp at h
 | b :: l, a, r, h => by
  rw [List.dropWhile_cons] at h
  cases hb : p b
  ·rw [hb] at h
   simp only [Bool.false_eq_true, if_false, List.cons.injEq] at h
   rw [← h.1]; exact hb
  ·rw [hb] at h
   exact dropWhile_head (l := l) (by simpa using h)
theorem trim_nil (s : Str) : (L.trimDig s = []) = (s.all isD = true) := by
 have gen : ∀ l : Str, (l.dropWhile L.isDig = []) ↔ l.all isD = true := fun l => by
  induction l with
  | nil => simp
  | cons a l ih =>
   simp only [List.dropWhile_cons, List.all_cons, dig_eq]
   cases h : isD a
   ·simp
   ·simp [ih]
 unfold L.trimDig
 apply propext
 rw [gen]
 constructor
 ·intro h
  have h0 : (s.reverse.dropWhile L.isDig) = [] := by
   cases hr : s.reverse.dropWhile L.isDig with
   | nil => rfl
   | cons a r =>
    exfalso
    rw [hr] at h
    have ha : isD a = true := List.all_eq_true.1 h a (by simp)
    rw [← dig_eq, dropWhile_head hr] at ha
    cases ha
  rw [gen] at h0
  simpa using h0
 ·intro h
  have h0 : s.reverse.dropWhile L.isDig = [] := (gen _).2 (by simpa using h)
  rw [h0]; rfl
theorem label_eq (s : Str) : name_Label.g s = some (labelOk s, ()) := by
 unfold name_Label.g name_Label.f
 simp only [dt, df]
 by_cases h0 : s = []
 ·subst h0; rw [if_neg (by simp)]; rfl
 ·rw [if_pos h0]
  have hl0 : 0 < s.length := List.length_pos_iff.2 h0
  by_cases h12 : s.length ≤ 12
  ·rw [if_pos (by omega), if_pos (by omega)]
   have hj : ¬ isD (s.getD 0 0) = true → name_Label.j3 (1000 + s.length) s = some (labelOk s, ()) := fun hd => by
    unfold name_Label.j3
    have := label_loop s h12 (1000 + s.length) (1000 + s.length) 0 (by omega) (by omega)
    rw [List.drop_zero] at this
    rw [show ((0 : Nat) : Int) = 0 from rfl] at this
    rw [this]
    by_cases hw : s.all isW = true
    ·rw [if_pos hw]
     simp only [name_Label.l4, dt, df, bt_nat]
     rw [if_neg (by omega), if_pos (by omega)]
     have hbt : bt s 0 = ((s.getD 0 0).toNat : Int) := rfl
     simp only [hbt]
     have h82 : (((s.getD 0 0).toNat : Int) = 82) = (s.getD 0 0 = 82) := byte_is _ 82 (by omega)
     simp only [h82]
     have htake : (s.take (s.length : Int).toNat).drop (1 : Int).toNat = s.drop 1 := by
      rw [show (s.length : Int).toNat = s.length by omega, List.take_length]; rfl
     have htrim : s.length ≤ 3 → L.trimO ((s.take (s.length : Int).toNat).drop (1 : Int).toNat) [48, 49, 50, 51, 52, 53, 54, 55, 56, 57] = some (L.trimDig (s.drop 1), ()) := fun h => by
      rw [htake]
      unfold L.trimO
      rw [if_pos ⟨rfl, by simp; omega⟩]
     have hL : labelOk s = !regLike s := by
      unfold labelOk
      rw [decide_eq_true (show s ≠ [] from h0), decide_eq_true h12, show isD (s.getD 0 0) = false by simpa using hd, hw]
      rfl
     have hT : decide (L.trimDig (s.drop 1) = []) = (s.drop 1).all isD := by
      rw [Bool.eq_iff_iff, decide_eq_true_eq, trim_nil]
     rw [hL]
     unfold regLike
     by_cases hR : s.getD 0 0 = 82
     ·rw [if_pos hR, decide_eq_true hR]
      by_cases h2 : s.length = 2
      ·rw [if_neg (by omega), if_pos (by omega), htrim (by omega), Option.bind_some, decide_eq_true h2]
       dsimp only
       rw [hT]; rfl
      ·rw [if_pos (by omega), decide_eq_false h2]
       by_cases h3 : s.length = 3
       ·rw [if_pos (by omega), if_pos (by omega), htrim (by omega), Option.bind_some, decide_eq_true h3]
        dsimp only
        rw [hT]; rfl
       ·rw [if_neg (by omega), decide_eq_false h3]; rfl
     ·rw [if_neg hR, decide_eq_false hR]; rfl
    ·rw [if_neg hw]
     simp [labelOk, hw]
   have hbt : bt s 0 = ((s.getD 0 0).toNat : Int) := rfl
   simp only [hbt]
   by_cases h48 : (48 : Int) ≤ (s.getD 0 0).toNat
   ·rw [if_pos h48, if_pos (by omega)]
    by_cases h57 : ((s.getD 0 0).toNat : Int) ≤ 57
    ·rw [if_pos h57]
     have hd : isD (s.getD 0 0) = true := by unfold isD; rw [decide_eq_true_eq]; omega
     unfold labelOk
     rw [hd, decide_eq_true (show s ≠ [] from h0), decide_eq_true h12]; rfl
    ·rw [if_neg h57]
     exact hj (by unfold isD; rw [decide_eq_true_eq]; omega)
   ·rw [if_neg h48]
    exact hj (by unfold isD; rw [decide_eq_true_eq]; omega)
  ·rw [if_neg (by omega)]
   simp [labelOk, h12]
end Rv
namespace Rv
open Go
def isA (b : UInt8) : Bool := decide (65 ≤ b.toNat ∧ b.toNat ≤ 90 ∨ 97 ≤ b.toNat ∧ b.toNat ≤ 122)
theorem isA_L (b : UInt8) : isL b = (isA b || decide (b.toNat = 95)) := by
 unfold isL isA
 rw [Bool.eq_iff_iff]
 simp only [decide_eq_true_eq, Bool.or_eq_true]
 omega
def nameOk (s : Str) : Bool := decide (s ≠ []) && decide (s.length ≤ 12) && isA (s.getD 0 0) && !regLike s && s.all isW
end Rv
namespace Rv
open Go
theorem leis_tab : ((List.range 256).all fun k => decide (le_is.g (k : Int) true = some (isA (UInt8.ofNat k), ())) && decide (le_is.g (k : Int) false = some (isW (UInt8.ofNat k), ()))) = true := by decide +kernel
theorem leis_eq (b : UInt8) (f : Bool) : le_is.g (b.toNat : Int) f = some (if f then isA b else isW b, ()) := by
 have h := List.all_eq_true.1 leis_tab b.toNat (by simp; exact b.toNat_lt)
 simp at h
 cases f
 ·exact h.2
 ·exact h.1
theorem lename_loop (s : Str) (hs : s.length ≤ 12) (n : Nat) : ∀ (m i : Nat), 1 ≤ i → i ≤ s.length → s.length - i < m →
  le_Name.l4 n m s (s.length : Int) (i : Int) = if (s.drop i).all isW = true then le_Name.l4 n 1 s (s.length : Int) (s.length : Int) else some (false, ()) := by
 intro m
 induction m with
 | zero => intro i _ _ h; omega
 | succ m ih =>
  intro i h0 hi hm
  by_cases h1 : i < s.length
  ·rw [le_Name.l4, if_pos (by simp; omega), if_pos (by omega), bt_nat, leis_eq, Option.bind_some, drop_cons h1, List.all_cons]
   dsimp only
   rw [if_neg (show ¬ decide ((i : Int) = 0) = true by simp; omega), w64 (by omega), show (i : Int) + 1 = ((i + 1 : Nat) : Int) by omega, ih (i + 1) (by omega) (by omega) (by omega)]
   cases isW (s.getD i 0) <;> simp
  ·have hi' : i = s.length := by omega
   subst hi'
   rw [List.drop_length, List.all_nil, if_pos rfl]
   have hlt : ¬ ((s.length : Int) < s.length) := by omega
   simp only [le_Name.l4, dt, hlt, if_false]
theorem lename_eq (s : Str) : le_Name.g s = some (nameOk s, ()) := by
 unfold le_Name.g le_Name.f
 simp only [dt, df]
 by_cases h0 : s = []
 ·subst h0; rw [if_neg (by simp)]; rfl
 ·have hl0 : 0 < s.length := List.length_pos_iff.2 h0
  rw [if_pos (by omega)]
  by_cases h12 : s.length ≤ 12
  ·rw [if_neg (by omega)]
   obtain ⟨m, hm⟩ : ∃ m, 1000 + s.length = m + 1 := ⟨999 + s.length, by omega⟩
   rw [show le_Name.l4 (1000 + s.length) (1000 + s.length) s (s.length : Int) 0 = le_Name.l4 (1000 + s.length) (m + 1) s (s.length : Int) 0 by rw [hm], le_Name.l4, if_pos (by simp; omega), if_pos (by omega)]
   have hb0 : bt s 0 = ((s.getD 0 0).toNat : Int) := rfl
   rw [hb0, leis_eq, Option.bind_some]
   dsimp only
   have hdd : decide ((0 : Int) = 0) = true := rfl
   rw [hdd, if_pos (show true = true from rfl), show IntKind.i64.wrap ((0 : Int) + 1) = ((1 : Nat) : Int) from rfl, lename_loop s h12 (1000 + s.length) m 1 (by omega) (by omega) (by omega)]
   have hall : s.all isW = (isW (s.getD 0 0) && (s.drop 1).all isW) := by
    have := drop_cons (s := s) (k := 0) hl0
    rw [List.drop_zero] at this
    conv => lhs; rw [this]
    rw [List.all_cons]
   unfold nameOk
   rw [decide_eq_true h0, decide_eq_true h12, hall]
   have hAW : isA (s.getD 0 0) = true → isW (s.getD 0 0) = true := fun h => by unfold isW; rw [isA_L, h]; rfl
   cases hA : isA (s.getD 0 0) with
   | false => rw [if_pos (by simp)]; simp
   | true =>
    rw [if_neg (by simp), hAW hA]
    by_cases hw : (s.drop 1).all isW = true
    ·rw [if_pos hw, hw]
     simp only [le_Name.l4, dt, df]
     rw [if_neg (by omega), if_pos (by omega), hb0]
     have h82 : (((s.getD 0 0).toNat : Int) = 82) = (s.getD 0 0 = 82) := byte_is _ 82 (by omega)
     simp only [h82]
     have htake : (s.take (s.length : Int).toNat).drop (1 : Int).toNat = s.drop 1 := by
      rw [show (s.length : Int).toNat = s.length by omega, List.take_length]; rfl
     have htrim : s.length ≤ 3 → L.trimO ((s.take (s.length : Int).toNat).drop (1 : Int).toNat) [48, 49, 50, 51, 52, 53, 54, 55, 56, 57] = some (L.trimDig (s.drop 1), ()) := fun h => by
      rw [htake]
      unfold L.trimO
      rw [if_pos ⟨rfl, by simp; omega⟩]
     have hT : decide (L.trimDig (s.drop 1) = []) = (s.drop 1).all isD := by
      rw [Bool.eq_iff_iff, decide_eq_true_eq, trim_nil]
     unfold regLike
     by_cases hR : s.getD 0 0 = 82
     ·rw [if_pos hR, decide_eq_true hR]
      by_cases h2 : s.length = 2
      ·rw [if_neg (by omega), if_pos (by omega), htrim (by omega), Option.bind_some, decide_eq_true h2]
       dsimp only
       rw [hT]; simp
      ·rw [if_pos (by omega), decide_eq_false h2]
       by_cases h3 : s.length = 3
       ·rw [if_pos (by omega), if_pos (by omega), htrim (by omega), Option.bind_some, decide_eq_true h3]
        dsimp only
        rw [hT]; simp
       ·rw [if_neg (by omega), decide_eq_false h3]; simp
     ·rw [if_neg hR, decide_eq_false hR]; simp
    ·rw [if_neg hw, Bool.eq_false_iff.2 hw]; simp
  ·rw [if_pos (by omega)]
   unfold nameOk
   rw [decide_eq_false h12]; simp
end Rv
namespace Rv
open Go
end Rv
namespace Rv
open Go
end Rv
namespace Rv
open Go
end Rv
namespace Rv
open Go
set_option maxRecDepth 100000
def okE (r : Option (Int × Option Int × Unit)) : Prop := ∃ v e, r = some (v, e, ()) ∧ (e = none ∨ e = some 1 ∨ e = some 2)
theorem okE_none {v : Int} : okE (some (v, none, ())) := ⟨_, _, rfl, .inl rfl⟩
theorem okE_one {v : Int} : okE (some (v, some 1, ())) := ⟨_, _, rfl, .inr (.inl rfl)⟩
theorem okE_two {v : Int} : okE (some (v, some 2, ())) := ⟨_, _, rfl, .inr (.inr rfl)⟩
theorem lower_some (c : Int) : internal_strconv_lower.g c = some (bitsI .or .u8 c 32, ()) := rfl
theorem pa_loop (s09 : Str) (c mv : Int) (l : List Int) (hl : l.length ≤ 1000000) (n : Nat) : ∀ (m i : Nat), i ≤ l.length → l.length - i < m → ∀ v, okE (internal_strconv_ParseUint.l36 n m 10 false s09 c mv false v l (l.length : Int) (i : Int)) := by
 intro m
 induction m with
 | zero => intro i _ h; omega
 | succ m ih =>
  intro i hi hm v
  unfold internal_strconv_ParseUint.l36
  by_cases hlt : i < l.length
  ·rw [if_pos (by simp; omega), if_pos (by omega)]
   have w1 : IntKind.i64.wrap ((i : Int) + 1) = ((i + 1 : Nat) : Int) := by rw [w64 (by omega)]; omega
   have h46 : ∀ d, okE (internal_strconv_ParseUint.j46 n (internal_strconv_ParseUint.l36 n m) 10 false s09 c mv false v d l (l.length : Int) (i : Int)) := by
    intro d
    unfold internal_strconv_ParseUint.j46
    split
    ·exact okE_two
    ·split
     ·exact okE_one
     ·split
      ·split
       ·exact okE_one
       ·unfold internal_strconv_ParseUint.j55
        rw [w1]
        exact ih (i + 1) (by omega) (by omega) _
      ·exact okE_one
   simp only [lower_some, Option.bind_some, Bool.false_eq_true, if_false]
   generalize hb : l.getD (i : Int).toNat 0 = b
   by_cases e1 : b = 95
   ·rw [if_pos (by simp [e1])]
    split
    ·split
     ·exact h46 _
     ·split
      ·split
       ·exact h46 _
       ·exact okE_two
      ·exact okE_two
    ·split
     ·split
      ·exact h46 _
      ·exact okE_two
     ·exact okE_two
   ·rw [if_neg (by simp [e1])]
    split
    ·split
     ·exact h46 _
     ·split
      ·split
       ·exact h46 _
       ·exact okE_two
      ·exact okE_two
    ·split
     ·split
      ·exact h46 _
      ·exact okE_two
     ·exact okE_two
  ·rw [if_neg (by simp; omega)]
   simp only [Bool.false_eq_true, if_false]
   exact okE_none
theorem pu_ok (s : Str) (hs : s.length ≤ 1000000) : okE (internal_strconv_ParseUint.g s 10 0) := by
 unfold internal_strconv_ParseUint.g internal_strconv_ParseUint.f
 by_cases h0 : s = []
 ·rw [if_pos (by simp [h0])]; exact okE_two
 ·rw [if_neg (by simp [h0]), if_pos (by decide), if_pos (by decide)]
  unfold internal_strconv_ParseUint.j21
  rw [if_pos (by decide)]
  unfold internal_strconv_ParseUint.j25
  rw [if_pos (by decide)]
  unfold internal_strconv_ParseUint.j32
  rw [if_neg (by decide)]
  have hd : decide ((10 : Int) = 0) = false := by decide
  rw [hd]
  have hz : (0 : Int) = ((0 : Nat) : Int) := rfl
  have := pa_loop s 1844674407370955162 (IntKind.u64.wrap ((IntKind.u64.wrap ((1 : Int) * 2 ^ (min (IntKind.u64.wrap 64).toNat IntKind.u64.bits))) - (1 : Int))) (s.map fun b => (b.toNat : Int)) (by simpa using hs) (1000 + s.length + (10 : Int).toNat + (0 : Int).toNat) (1000 + s.length + (10 : Int).toNat + (0 : Int).toNat) 0 (by simp) (by simp; omega) 0
  exact this
theorem pi21 (n : Nat) (g : Bool) (v : Int) : okE (internal_strconv_ParseInt.j21 n g v) := by
 unfold internal_strconv_ParseInt.j21
 split <;> exact okE_none
theorem pi19 (n : Nat) (g : Bool) (v c : Int) : okE (internal_strconv_ParseInt.j19 n g v c) := by
 unfold internal_strconv_ParseInt.j19
 split
 ·split
  ·exact okE_one
  ·exact pi21 _ _ _
 ·exact pi21 _ _ _
theorem pi16 (n : Nat) (g : Bool) (v : Int) : okE (internal_strconv_ParseInt.j16 n 64 g v) := by
 unfold internal_strconv_ParseInt.j16
 have h : ¬ IntKind.u64.wrap (IntKind.i64.wrap (64 - 1)) < 0 := by rw [w64 (by omega), w64u (by omega)]; omega
 rw [if_neg h]
 generalize IntKind.u64.wrap ((1 : Int) * 2 ^ (min (IntKind.u64.wrap (IntKind.i64.wrap (64 - 1))).toNat IntKind.u64.bits)) = c
 split
 ·split
  ·exact okE_one
  ·exact pi19 _ _ _ _
 ·exact pi19 _ _ _ _
theorem pi14 (n : Nat) (g : Bool) (v : Int) : okE (internal_strconv_ParseInt.j14 n 0 g v) := by
 unfold internal_strconv_ParseInt.j14
 rw [if_pos (by decide)]
 exact pi16 _ _ _
theorem pi_ok (s : Str) (hs : s.length ≤ 1000000) : okE (internal_strconv_ParseInt.g s 10 0) := by
 unfold internal_strconv_ParseInt.g internal_strconv_ParseInt.f
 generalize 1000 + s.length + (10 : Int).toNat + (0 : Int).toNat = n
 have h10 : ∀ (t : Str) g, t.length ≤ 1000000 → okE (internal_strconv_ParseInt.j10 n t 10 0 g) := fun t g ht => by
  unfold internal_strconv_ParseInt.j10
  obtain ⟨v, e, he, h⟩ := pu_ok t ht
  rw [he, Option.bind_some]
  dsimp only
  rcases h with rfl | rfl | rfl
  ·rw [if_neg (by decide)]; exact pi14 _ _ _
  ·rw [if_pos (by decide), if_neg (by simp)]; exact pi14 _ _ _
  ·rw [if_pos (by decide), if_pos (by simp)]; exact okE_two
 by_cases h0 : s = []
 ·rw [if_pos (by simp [h0])]; exact okE_two
 ·rw [if_neg (by simp [h0])]
  have hlen : 0 < s.length := List.length_pos_iff.2 h0
  have ht : ((s.take ((s.length : Int)).toNat).drop ((1 : Int)).toNat).length ≤ 1000000 := by simp; omega
  rw [if_pos (by omega)]
  split
  ·rw [if_pos (by omega)]; exact h10 _ _ ht
  ·split
   ·rw [if_pos (by omega)]; exact h10 _ _ ht
   ·exact h10 _ _ hs
theorem at_loop (s05 : Str) (h5 : s05 ≠ []) (l : List Int) (hl : l.length ≤ 1000000) (n : Nat) : ∀ (m i : Nat), i ≤ l.length → l.length - i < m → ∀ v, okE (internal_strconv_Atoi.l10 n m s05 v l (l.length : Int) (i : Int)) := by
 intro m
 induction m with
 | zero => intro i _ h; omega
 | succ m ih =>
  intro i hi hm v
  unfold internal_strconv_Atoi.l10
  by_cases hlt : i < l.length
  ·rw [if_pos (by simp; omega), if_pos (by omega)]
   have w1 : IntKind.i64.wrap ((i : Int) + 1) = ((i + 1 : Nat) : Int) := by rw [w64 (by omega)]; omega
   split
   ·exact okE_two
   ·rw [w1]
    exact ih (i + 1) (by omega) (by omega) _
  ·rw [if_neg (by simp; omega)]
   have hlen : 0 < s05.length := List.length_pos_iff.2 h5
   rw [if_pos (by omega)]
   split <;> exact okE_none
theorem ia_ok (s : Str) (hs : s.length ≤ 1000000) : okE (internal_strconv_Atoi.g s) := by
 unfold internal_strconv_Atoi.g internal_strconv_Atoi.f
 obtain ⟨n, hn⟩ : ∃ n, 1000 + s.length = n := ⟨_, rfl⟩
 rw [hn]
 have h8 : ∀ t : Str, t.length ≤ s.length → s ≠ [] → okE (internal_strconv_Atoi.j8 n t s) := fun t ht h0 => by
  unfold internal_strconv_Atoi.j8
  have := at_loop s h0 (t.map fun b => (b.toNat : Int)) (by simp; omega) n n 0 (by simp) (by simp; omega) 0
  exact this
 have h20 : okE (internal_strconv_Atoi.j20 n s) := by
  unfold internal_strconv_Atoi.j20
  obtain ⟨v, e, he, h⟩ := pi_ok s hs
  rw [he, Option.bind_some]
  exact ⟨v, e, rfl, h⟩
 by_cases h0 : s = []
 ·rw [if_neg (by simp [h0])]; exact h20
 ·have hlen : 0 < s.length := List.length_pos_iff.2 h0
  have ht : ((s.take ((s.length : Int)).toNat).drop ((1 : Int)).toNat).length ≤ s.length := by simp
  have h6 : okE (internal_strconv_Atoi.j6 n ((s.take ((s.length : Int)).toNat).drop ((1 : Int)).toNat) s) := by
   unfold internal_strconv_Atoi.j6
   split
   ·exact okE_two
   ·exact h8 _ ht h0
  rw [if_pos (by simp; omega)]
  split
  ·rw [if_pos (by omega)]
   split
   ·rw [if_pos (by omega)]
    split
    ·rw [if_pos (by omega)]; exact h6
    ·exact h8 _ (Nat.le_refl _) h0
   ·rw [if_pos (by omega)]; exact h6
  ·exact h20
theorem atoi_some (s : Str) (hs : s.length ≤ 1000000) : ∃ v b, strconv_Atoi.g s = some (v, b, ()) := by
 unfold strconv_Atoi.g strconv_Atoi.f
 obtain ⟨v, e, he, h⟩ := ia_ok s hs
 rw [he, Option.bind_some]
 dsimp only
 rcases h with rfl | rfl | rfl
 ·exact ⟨_, _, rfl⟩
 ·have : L.toErrorO ([65, 116, 111, 105] : Str) s 0 0 (some 1) = some (false, ()) := by unfold L.toErrorO; rw [if_pos ⟨by omega, Or.inl rfl⟩]
  rw [if_pos (by decide), this]
  exact ⟨_, _, rfl⟩
 ·have : L.toErrorO ([65, 116, 111, 105] : Str) s 0 0 (some 2) = some (false, ()) := by unfold L.toErrorO; rw [if_pos ⟨by omega, Or.inr rfl⟩]
  rw [if_pos (by decide), this]
  exact ⟨_, _, rfl⟩
end Rv
namespace Rv
open Go
def regN (k : Nat) : Str := if k < 10 then [82, UInt8.ofNat (48 + k)] else [82, 49, UInt8.ofNat (38 + k)]
def regOf (s : Str) : Int × Bool := match (List.range 16).find? (fun k => regN k == s) with | some k => ((k : Int), true) | none => (0, false)
theorem reg_facts : ((List.range 16).all fun k => decide (name_RegName.g (k : Int) = some (regN k, ())) && decide (name_Reg.g (regN k) = some ((k : Int), true, ()))) = true := by decide +kernel
theorem reg_fact (k : Nat) (hk : k < 16) : name_RegName.g (k : Int) = some (regN k, ()) ∧ name_Reg.g (regN k) = some ((k : Int), true, ()) := by
 have := List.all_eq_true.1 reg_facts k (List.mem_range.2 hk)
 simpa [and_assoc] using this
theorem regName_out {v : Int} (h : v < 0 ∨ 16 ≤ v) : name_RegName.g v = some ([], ()) := by
 unfold name_RegName.g name_RegName.f
 by_cases h0 : v < 0
 ·rw [if_neg (by simp; omega)]
 ·rw [if_pos (by simp; omega), if_pos (by simp; omega)]
theorem regName_cases (v : Int) : ∃ s, name_RegName.g v = some (s, ()) ∧ (s ≠ [] → ∃ k : Nat, k < 16 ∧ v = (k : Int) ∧ s = regN k) := by
 by_cases h : v < 0 ∨ 16 ≤ v
 ·exact ⟨[], regName_out h, fun e => absurd rfl e⟩
 ·obtain ⟨k, rfl⟩ : ∃ k : Nat, v = (k : Int) := ⟨v.toNat, by omega⟩
  have hk : k < 16 := by omega
  exact ⟨regN k, (reg_fact k hk).1, fun _ => ⟨k, hk, rfl, rfl⟩⟩
theorem cut_nil {s p : Str} (h : L.cutIs s p = true) (hp : p ≠ []) : s ≠ [] := by
 rintro rfl
 cases p with
 | nil => exact hp rfl
 | cons a l => simp [L.cutIs, Lib.hasPrefix] at h
theorem regOf_some {s : Str} {k : Nat} (h : (List.range 16).find? (fun k => regN k == s) = some k) : k < 16 ∧ regN k = s := by
 have h1 := List.mem_of_find?_eq_some h
 have h2 := List.find?_some h
 exact ⟨List.mem_range.1 h1, by simpa using h2⟩
theorem reg_eq (s : Str) (hs : s.length ≤ 1000000) : name_Reg.g s = some ((regOf s).1, (regOf s).2, ()) := by
 unfold regOf
 cases hf : (List.range 16).find? (fun k => regN k == s) with
 | some k =>
  obtain ⟨h1, h2⟩ := regOf_some hf
  have := (reg_fact k h1).2
  rw [h2] at this
  exact this
 | none =>
  have hno : ∀ k, k < 16 → regN k ≠ s := fun k hk e => by
   have := List.find?_eq_none.1 hf k (List.mem_range.2 hk)
   simp [e] at this
  unfold name_Reg.g name_Reg.f
  obtain ⟨v, b, hvb⟩ := atoi_some (L.cutRest s [82]) (by
   unfold L.cutRest Lib.trimPrefix
   split
   ·rw [List.length_drop]; omega
   ·omega)
  rw [hvb, Option.bind_some]
  dsimp only
  cases hc : L.cutIs s [82] with
  | false => rfl
  | true =>
   rw [if_pos (by decide)]
   cases b with
   | false => rfl
   | true =>
    rw [if_pos (by decide)]
    obtain ⟨t, ht, hk⟩ := regName_cases v
    rw [ht, Option.bind_some]
    dsimp only
    by_cases e : t = s
    ·have hne := cut_nil hc (by decide)
     obtain ⟨k, hk1, _, hk2⟩ := hk (by rw [e]; exact hne)
     exact absurd (hk2.symm.trans e) (hno k hk1)
    ·rw [if_pos (by simp [e])]
end Rv
namespace Rv
open Go
abbrev Item := Int × Int × Str × Unit
def needsR (x : Item) : Int × Bool :=
 if x.1 = 1 then (0, decide (x.2.2.1 = []))
 else if x.1 = 2 then (0, decide (x.2.1 = 0) && labelOk x.2.2.1)
 else if x.1 = 3 then (1, decide (x.2.1 = 0) && decide (x.2.2.1 = []))
 else if x.1 = 4 ∨ x.1 = 5 ∨ x.1 = 6 then (2, decide (x.2.1 = 0) && decide (x.2.2.1 = []))
 else (0, false)
def wellR : Int → List Item → Bool
 | t, [] => decide (t = 1)
 | t, x :: r => (needsR x).2 && (!decide (t < (needsR x).1) && wellR (t + (1 - (needsR x).1)) r)
def well (e : List Item) : Bool := wellR 0 e && decide (e.length ≤ 64)
end Rv
namespace Rv
open Go
def enough : Int → List Item → Option Int
 | t, [] => some t
 | t, x :: r => if (needsR x).2 = true ∧ ¬ t < (needsR x).1 then enough (t + (1 - (needsR x).1)) r else none
theorem enough_app : ∀ (a b : List Item) (t : Int), enough t (a ++ b) = (enough t a).bind fun k => enough k b
 | [], b, t => rfl
 | x :: a, b, t => by
  simp only [List.cons_append, enough]
  split
  ·exact enough_app a b _
  ·rfl
def wellL (e : List Item) : Prop := enough 0 e = some 1
theorem enough_shift : ∀ (e : List Item) (t k j : Int), 0 ≤ j → enough t e = some k → enough (t + j) e = some (k + j)
 | [], t, k, j, _, h => by
  simp only [enough, Option.some.injEq] at h ⊢
  omega
 | x :: e, t, k, j, hj, h => by
  simp only [enough] at h ⊢
  split at h
  ·rename_i hc
   rw [if_pos ⟨hc.1, by omega⟩, show t + j + (1 - (needsR x).1) = (t + (1 - (needsR x).1)) + j by omega]
   exact enough_shift e _ k j hj h
  ·cases h
theorem well_two {a b : List Item} (ha : wellL a) (hb : wellL b) (x : Item) (hx : needsR x = (2, true)) : wellL (a ++ b ++ [x]) := by
 unfold wellL at *
 have h1 : enough 1 b = some 2 := enough_shift b 0 1 1 (by omega) hb
 rw [enough_app, enough_app, ha, Option.bind_some, h1, Option.bind_some]
 simp [enough, hx]
theorem well_one {a : List Item} (ha : wellL a) (x : Item) (hx : needsR x = (1, true)) : wellL (a ++ [x]) := by
 unfold wellL at *
 rw [enough_app, ha, Option.bind_some]
 simp [enough, hx]
end Rv
namespace Rv
open Go
def goodItem (x : Item) : Prop := 0 ≤ x.2.1 ∧ x.2.1 ≤ 4294967295 ∧ (needsR x).2 = true
end Rv
namespace Rv
open Go
end Rv
namespace Rv
open Go
end Rv
namespace Rv
open Go
abbrev TokL := Int × Int × Str × Int × Unit
theorem line_blank (k : Int) (r : Str) : lineR k (32 :: r) = lineR (k + 1) r := by
 rw [lineR_cons, if_neg (by decide), if_pos (.inl rfl)]
end Rv
namespace Rv
open Go
inductive Opr
 | add | sub | mul
def Opr.kind : Opr → Int
 | .add => 4 | .sub => 5 | .mul => 6
def Opr.byte : Opr → UInt8
 | .add => 43 | .sub => 45 | .mul => 42
def Opr.tight : Opr → Nat
 | .mul => 1 | _ => 0
inductive Tr
 | num (n : Int) | nam (s : Str) | neg (x : Tr) | bin (o : Opr) (a b : Tr) | br (x : Tr)
namespace Tr
def post : Tr → List Item
 | .num n => [(1, n, [], ())]
 | .nam s => [(2, 0, s, ())]
 | .neg x => x.post ++ [(3, 0, [], ())]
 | .bin o a b => a.post ++ b.post ++ [(o.kind, 0, [], ())]
 | .br x => x.post
def ok : Tr → Prop
 | .num n => 0 ≤ n ∧ n ≤ 4294967295
 | .nam s => labelOk s = true
 | .neg x => x.ok
 | .bin _ a b => a.ok ∧ b.ok
 | .br x => x.ok
def plain : Tr → Prop
 | .neg x => x.plain
 | .bin _ a b => a.plain ∧ b.plain
 | .br _ => False
 | _ => True
def tight : Tr → Nat
 | .bin o _ _ => o.tight
 | _ => 2
end Tr
abbrev Bt := Int × Str × Int
def bare (t : TokL) : Bt := (t.1, t.2.2.1, t.2.2.2.1)
namespace Tr
def cnt (l : List Bt) : Nat := l.countP fun b => decide (b.2.1 = [45]) || decide (b.2.1 = [40])
end Tr
end Rv
namespace Rv
open Go
end Rv
namespace Rv
open Go
def brkT (b : Bool) (s : Str) : Str := if b then 40 :: (s ++ [41]) else s
namespace Tr
def txt : Tr → Str
 | .num n => Lib.itoa n
 | .nam s => s
 | .neg x => 45 :: brkT (decide (x.tight < 2)) x.txt
 | .bin o a b => brkT (decide (a.tight < o.tight)) a.txt ++ ([32, o.byte, 32] ++ brkT (decide (b.tight < o.tight + 1)) b.txt)
 | .br x => 40 :: (x.txt ++ [41])
end Tr
end Rv
namespace Rv
open Go
def parts (st : List Tr) : List (Str × Int × Unit) := st.map fun t => (t.txt, (t.tight : Int), ())
end Rv
