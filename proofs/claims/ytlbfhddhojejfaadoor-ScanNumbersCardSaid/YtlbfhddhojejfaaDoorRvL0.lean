/- What the library's functions answer. -/
import Derived.Lib.IndexMore
import Derived.Lib.ItoaNum
import Derived.Lib.Strings
set_option linter.all false
namespace Rv
open Go
namespace L
/-- Where a byte is first, or -1. -/
def indexByte (s : List UInt8) (c : Int) : Int := Lib.indexByte s (UInt8.ofNat c.toNat)
def cutRest (s p : List UInt8) : List UInt8 := Lib.trimPrefix s p
def cutIs (s p : List UInt8) : Bool := Lib.hasPrefix s p
def containsO (s p : List UInt8) : Option (Bool × Unit) := if s.length < 4294967281 then some (Lib.contains s p, ()) else none
def itoaO (n : Int) : Option (List UInt8 × Unit) := if -9223372036854775808 ≤ n ∧ n ≤ 9223372036854775807 then some (Lib.itoa n, ()) else none
/-- An error out of an error's number (1: out of range, 2: no numeral): is it nil? -/
def toErrorO (_ s : List UInt8) (_ _ : Int) (o : Option Int) : Option (Bool × Unit) := if s.length ≤ 281474976710656 ∧ (o = some 1 ∨ o = some 2) then some (false, ()) else none
/-- Never asked. -/
def underscoreO (_ : List UInt8) : Option (Bool × Unit) := none
end L
end Rv
