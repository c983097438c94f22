/- What the library's functions answer. -/
import Derived.Lib.IndexMore
import Derived.Lib.ItoaNum
import Derived.Lib.Strings
set_option linter.all false
namespace Rv
open Go
namespace L
/-- Where a byte is first, or -1. -/
def indexByte (s : List UInt8) (c : Int) : Int := Lib.indexByte s (UInt8.ofNat c.toNat)
def cutRest (s p : List UInt8) : List UInt8 := Lib.trimPrefix s p
def cutIs (s p : List UInt8) : Bool := Lib.hasPrefix s p
def containsO (s p : List UInt8) : Option (Bool × Unit) := if s.length < 4294967281 then some (Lib.contains s p, ()) else none
def itoaO (n : Int) : Option (List UInt8 × Unit) := if -9223372036854775808 ≤ n ∧ n ≤ 9223372036854775807 then some (Lib.itoa n, ()) else none
/-- An error out of an error's number (1: out of range, 2: no numeral): is it nil? -/
def toErrorO (_ s : List UInt8) (_ _ : Int) (o : Option Int) : Option (Bool × Unit) := if s.length ≤ 281474976710656 ∧ (o = some 1 ∨ o = some 2) then some (false, ()) else none
/-- Digits at both ends, off: of two bytes at most. -/
def isDig (b : UInt8) : Bool := decide (48 ≤ b.toNat) && decide (b.toNat ≤ 57)
def trimDig (s : List UInt8) : List UInt8 := ((s.reverse.dropWhile isDig).reverse).dropWhile isDig
def trimO (s c : List UInt8) : Option (List UInt8 × Unit) := if c = [48, 49, 50, 51, 52, 53, 54, 55, 56, 57] ∧ s.length ≤ 2 then some (trimDig s, ()) else none
/-- A number's decimal digits. -/
def formatUintO (n base : Int) : Option (List UInt8 × Unit) := if base = 10 ∧ 0 ≤ n ∧ n ≤ 9223372036854775807 then some (Lib.itoa n, ()) else none
/-- The kind of an operation, by its sign; is it one? -/
def kinds (s : List UInt8) : Int × Bool := if s = [42] then (6, true) else if s = [43] then (4, true) else if s = [45] then (5, true) else (0, false)
/-- Tokens, joined: each ahead of a blank, a name with a dot behind its dot. -/
def joinR : List (Int × Int × List UInt8 × Int × Unit) → List UInt8
  | [] => []
  | t :: l => ((if t.1 = 4 then [46] else []) ++ t.2.2.1 ++ [32]) ++ joinR l
def joinO (l : List (Int × Int × List UInt8 × Int × Unit)) : Option (List UInt8 × Unit) := if (joinR l).length ≤ 140737488355328 then some (joinR l, ()) else none
def kindsRow : List (List UInt8 × Int) := [([42], 6), ([43], 4), ([45], 5)]
/-- Never asked. -/
def underscoreO (_ : List UInt8) : Option (Bool × Unit) := none
end L
end Rv
