/- What the library's functions answer. -/
import Derived.Lib.IndexMore
import Derived.Lib.ItoaNum
import Derived.Lib.Strings
set_option linter.all false
namespace Rv
open Go
namespace L
/-- Where a byte is first, or -1. -/
def indexByte (s : List UInt8) (c : Int) : Int := Lib.indexByte s (UInt8.ofNat c.toNat)
def cutRest (s p : List UInt8) : List UInt8 := Lib.trimPrefix s p
def cutIs (s p : List UInt8) : Bool := Lib.hasPrefix s p
def containsO (s p : List UInt8) : Option (Bool × Unit) := if s.length < 4294967281 then some (Lib.contains s p, ()) else none
def itoaO (n : Int) : Option (List UInt8 × Unit) := if -9223372036854775808 ≤ n ∧ n ≤ 9223372036854775807 then some (Lib.itoa n, ()) else none
/-- An error out of an error's number (1: out of range, 2: no numeral): is it nil? -/
def toErrorO (_ s : List UInt8) (_ _ : Int) (o : Option Int) : Option (Bool × Unit) := if s.length ≤ 281474976710656 ∧ (o = some 1 ∨ o = some 2) then some (false, ()) else none
/-- Digits at both ends, off: of two bytes at most. -/
def isDig (b : UInt8) : Bool := decide (48 ≤ b.toNat) && decide (b.toNat ≤ 57)
def trimDig (s : List UInt8) : List UInt8 := ((s.reverse.dropWhile isDig).reverse).dropWhile isDig
def trimO (s c : List UInt8) : Option (List UInt8 × Unit) := if c = [48, 49, 50, 51, 52, 53, 54, 55, 56, 57] ∧ s.length ≤ 2 then some (trimDig s, ()) else none
/-- A number's decimal digits. -/
def formatUintO (n base : Int) : Option (List UInt8 × Unit) := if base = 10 ∧ 0 ≤ n ∧ n ≤ 9223372036854775807 then some (Lib.itoa n, ()) else none
/-- The kind of an operation, by its sign; is it one? -/
def kinds (s : List UInt8) : Int × Bool := if s = [42] then (6, true) else if s = [43] then (4, true) else if s = [45] then (5, true) else (0, false)
/-- Tokens, joined: each ahead of a blank, a name with a dot behind its dot. -/
def joinR : List (Int × Int × List UInt8 × Int × Unit) → List UInt8
  | [] => []
  | t :: l => ((if t.1 = 4 then [46] else []) ++ t.2.2.1 ++ [32]) ++ joinR l
def joinO (l : List (Int × Int × List UInt8 × Int × Unit)) : Option (List UInt8 × Unit) := if (joinR l).length ≤ 140737488355328 then some (joinR l, ()) else none
def kindsRow : List (List UInt8 × Int) := [([42], 6), ([43], 4), ([45], 5)]
/-- rivet/name's rows: where they begin, what stands in them. -/
def nameRows : List ((Int × Int × Bool) × List UInt8) := [((1, 0, false), [77, 79, 86, 32, 76, 83, 76, 32, 65, 83, 82, 32, 82, 79, 82, 32, 65, 78, 68, 32, 65, 78, 78, 32, 73, 79, 82, 32, 88, 79, 82, 32, 65, 68, 68, 32, 83, 85, 66, 32, 77, 85, 76, 32, 68, 73, 86]), ((1, 0, true), [77, 79, 86, 85]), ((1, 8, true), [65, 68, 67, 32, 83, 66, 67, 32, 77, 76, 85]), ((3, 0, false), [77, 79, 86, 72]), ((4, 0, false), [77, 79, 86, 70]), ((5, 0, false), [76, 68, 87, 32, 76, 68, 66, 32, 83, 84, 87, 32, 83, 84, 66]), ((7, 0, false), [66, 77, 73, 32, 66, 69, 81, 32, 66, 67, 83, 32, 66, 86, 83, 32, 66, 76, 83, 32, 66, 76, 84, 32, 66, 76, 69, 32, 66, 46, 32, 66, 80, 76, 32, 66, 78, 69, 32, 66, 67, 67, 32, 66, 86, 67, 32, 66, 72, 73, 32, 66, 71, 69, 32, 66, 71, 84, 32, 66, 78, 86]), ((7, 0, true), [66, 76, 77, 73, 32, 66, 76, 69, 81, 32, 66, 76, 67, 83, 32, 66, 76, 86, 83, 32, 66, 76, 76, 83, 32, 66, 76, 76, 84, 32, 66, 76, 76, 69, 32, 66, 76, 46, 32, 66, 76, 80, 76, 32, 66, 76, 78, 69, 32, 66, 76, 67, 67, 32, 66, 76, 86, 67, 32, 66, 76, 72, 73, 32, 66, 76, 71, 69, 32, 66, 76, 71, 84, 32, 66, 76, 78, 86]), ((8, 0, false), [76, 68, 76]), ((9, 0, false), [119, 111, 114, 100]), ((10, 0, false), [101, 120, 112, 111, 114, 116])]
/-- The mnemonics: of which row, the how manieth, of what; the mnemonic. -/
def nameTbl : List (((Int × Int × Bool) × Nat) × (Int × Int × Bool) × List UInt8) := [(((1, 0, false), 0), (1, 0, false), [77, 79, 86]), (((1, 0, false), 1), (1, 1, false), [76, 83, 76]), (((1, 0, false), 2), (1, 2, false), [65, 83, 82]), (((1, 0, false), 3), (1, 3, false), [82, 79, 82]), (((1, 0, false), 4), (1, 4, false), [65, 78, 68]), (((1, 0, false), 5), (1, 5, false), [65, 78, 78]), (((1, 0, false), 6), (1, 6, false), [73, 79, 82]), (((1, 0, false), 7), (1, 7, false), [88, 79, 82]), (((1, 0, false), 8), (1, 8, false), [65, 68, 68]), (((1, 0, false), 9), (1, 9, false), [83, 85, 66]), (((1, 0, false), 10), (1, 10, false), [77, 85, 76]), (((1, 0, false), 11), (1, 11, false), [68, 73, 86]), (((1, 0, true), 0), (1, 0, true), [77, 79, 86, 85]), (((1, 8, true), 0), (1, 8, true), [65, 68, 67]), (((1, 8, true), 1), (1, 9, true), [83, 66, 67]), (((1, 8, true), 2), (1, 10, true), [77, 76, 85]), (((3, 0, false), 0), (3, 0, false), [77, 79, 86, 72]), (((4, 0, false), 0), (4, 0, false), [77, 79, 86, 70]), (((5, 0, false), 0), (5, 0, false), [76, 68, 87]), (((5, 0, false), 1), (5, 1, false), [76, 68, 66]), (((5, 0, false), 2), (5, 2, false), [83, 84, 87]), (((5, 0, false), 3), (5, 3, false), [83, 84, 66]), (((7, 0, false), 0), (7, 0, false), [66, 77, 73]), (((7, 0, false), 1), (7, 1, false), [66, 69, 81]), (((7, 0, false), 2), (7, 2, false), [66, 67, 83]), (((7, 0, false), 3), (7, 3, false), [66, 86, 83]), (((7, 0, false), 4), (7, 4, false), [66, 76, 83]), (((7, 0, false), 5), (7, 5, false), [66, 76, 84]), (((7, 0, false), 6), (7, 6, false), [66, 76, 69]), (((7, 0, false), 7), (7, 7, false), [66]), (((7, 0, false), 8), (7, 8, false), [66, 80, 76]), (((7, 0, false), 9), (7, 9, false), [66, 78, 69]), (((7, 0, false), 10), (7, 10, false), [66, 67, 67]), (((7, 0, false), 11), (7, 11, false), [66, 86, 67]), (((7, 0, false), 12), (7, 12, false), [66, 72, 73]), (((7, 0, false), 13), (7, 13, false), [66, 71, 69]), (((7, 0, false), 14), (7, 14, false), [66, 71, 84]), (((7, 0, false), 15), (7, 15, false), [66, 78, 86]), (((7, 0, true), 0), (7, 0, true), [66, 76, 77, 73]), (((7, 0, true), 1), (7, 1, true), [66, 76, 69, 81]), (((7, 0, true), 2), (7, 2, true), [66, 76, 67, 83]), (((7, 0, true), 3), (7, 3, true), [66, 76, 86, 83]), (((7, 0, true), 4), (7, 4, true), [66, 76, 76, 83]), (((7, 0, true), 5), (7, 5, true), [66, 76, 76, 84]), (((7, 0, true), 6), (7, 6, true), [66, 76, 76, 69]), (((7, 0, true), 7), (7, 7, true), [66, 76]), (((7, 0, true), 8), (7, 8, true), [66, 76, 80, 76]), (((7, 0, true), 9), (7, 9, true), [66, 76, 78, 69]), (((7, 0, true), 10), (7, 10, true), [66, 76, 67, 67]), (((7, 0, true), 11), (7, 11, true), [66, 76, 86, 67]), (((7, 0, true), 12), (7, 12, true), [66, 76, 72, 73]), (((7, 0, true), 13), (7, 13, true), [66, 76, 71, 69]), (((7, 0, true), 14), (7, 14, true), [66, 76, 71, 84]), (((7, 0, true), 15), (7, 15, true), [66, 76, 78, 86]), (((8, 0, false), 0), (8, 0, false), [76, 68, 76]), (((9, 0, false), 0), (9, 0, false), [119, 111, 114, 100]), (((10, 0, false), 0), (10, 0, false), [101, 120, 112, 111, 114, 116])]
def mnemR (k o : Int) (u : Bool) : List UInt8 := ((nameTbl.find? fun e => e.2.1 == (k, o, u)).map (·.2.2)).getD []
/-- The mnemonic of a kind and an operation. -/
def mnemO (k o : Int) (u : Bool) : Option (List UInt8 × Unit) := if -9223372036854775808 ≤ k ∧ k ≤ 9223372036854775807 ∧ -9223372036854775808 ≤ o ∧ o ≤ 9223372036854775807 then some (mnemR k o u, ()) else none
def ofR (s : List UInt8) : Int × Int × Bool × Bool × Unit := match nameTbl.find? fun e => e.2.2 == s with | some e => (e.2.1.1, e.2.1.2.1, e.2.1.2.2, true, ()) | none => (0, 0, false, false, ())
/-- What a mnemonic is of. -/
def nameOfO (s : List UInt8) : Option (Int × Int × Bool × Bool × Unit) := some (ofR s)
/-- Never asked. -/
def underscoreO (_ : List UInt8) : Option (Bool × Unit) := none
end L
end Rv
