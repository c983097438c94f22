/- What the statements of chapter 13 share. -/
import Derived.Test.YtlbfhddhojejfaaDoorPFitL
import Derived.Test.YtlbfhddhojejfaaDoorPRef7
set_option linter.all false
namespace Rv
open Go

theorem shown13 : rivetlaw13_shown.g = some (true, ()) := by decide +kernel

theorem few13 (s : Str) (hs : s.length ≤ 9223372036854775807) : rivetlaw13_few.g s = some (s.take 20, ()) := by
  unfold rivetlaw13_few.g rivetlaw13_few.f
  have hm : mn (s.length : Int) 20 = ((min s.length 20 : Nat) : Int) := by unfold mn; split <;> omega
  rw [hm, if_pos (by omega)]
  simp only [Int.toNat_natCast, List.drop_zero]
  congr 2
  rw [List.take_eq_take_iff]; omega

theorem bytesOf_one (b : UInt8) : bytesOf [(b.toNat : Int)] = [b] := by simp [bytesOf]

theorem u8_of {c : Int} (h : (Lit.int .u8 c).wf = true) : ∃ b : UInt8, c = (b.toNat : Int) := by
  have := wfU8 h
  refine ⟨UInt8.ofNat c.toNat, ?_⟩
  rw [UInt8.toNat_ofNat']
  omega
end Rv
