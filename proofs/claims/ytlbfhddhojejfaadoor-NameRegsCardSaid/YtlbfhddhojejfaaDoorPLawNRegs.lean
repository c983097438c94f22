/- The registers' names. -/
import Derived.Test.YtlbfhddhojejfaaDoorPNameT
set_option linter.all false
namespace Rv
open Go

theorem regs_f (n : Nat) (a d : Int) : rivetlaw13_NameRegs.f n a d = rivetlaw13_NameRegs.f 0 (Int.tmod a 16) (Int.tmod d 10) := by
  have e1 : Int.tmod (Int.tmod a 16) 16 = Int.tmod a 16 := Int.tmod_tmod _ _
  have e2 : Int.tmod (Int.tmod d 10) 10 = Int.tmod d 10 := Int.tmod_tmod _ _
  unfold rivetlaw13_NameRegs.f
  rw [e1, e2]
  rfl

def regsRow (k : Nat) : Bool := (List.range 10).all fun d => decide (rivetlaw13_NameRegs.f 0 (k : Int) (d : Int) = some (true, ()))
theorem rr0 : regsRow 0 = true := by decide +kernel
theorem rr1 : regsRow 1 = true := by decide +kernel
theorem rr2 : regsRow 2 = true := by decide +kernel
theorem rr3 : regsRow 3 = true := by decide +kernel
theorem rr4 : regsRow 4 = true := by decide +kernel
theorem rr5 : regsRow 5 = true := by decide +kernel
theorem rr6 : regsRow 6 = true := by decide +kernel
theorem rr7 : regsRow 7 = true := by decide +kernel
theorem rr8 : regsRow 8 = true := by decide +kernel
theorem rr9 : regsRow 9 = true := by decide +kernel
theorem rr10 : regsRow 10 = true := by decide +kernel
theorem rr11 : regsRow 11 = true := by decide +kernel
theorem rr12 : regsRow 12 = true := by decide +kernel
theorem rr13 : regsRow 13 = true := by decide +kernel
theorem rr14 : regsRow 14 = true := by decide +kernel
theorem rr15 : regsRow 15 = true := by decide +kernel

theorem regs_rows (k : Nat) (hk : k < 16) : regsRow k = true := by
  have : k = 0 ∨ k = 1 ∨ k = 2 ∨ k = 3 ∨ k = 4 ∨ k = 5 ∨ k = 6 ∨ k = 7 ∨ k = 8 ∨ k = 9 ∨ k = 10 ∨ k = 11 ∨ k = 12 ∨ k = 13 ∨ k = 14 ∨ k = 15 := by omega
  rcases this with rfl | rfl | rfl | rfl | rfl | rfl | rfl | rfl | rfl | rfl | rfl | rfl | rfl | rfl | rfl | rfl
  · exact rr0
  · exact rr1
  · exact rr2
  · exact rr3
  · exact rr4
  · exact rr5
  · exact rr6
  · exact rr7
  · exact rr8
  · exact rr9
  · exact rr10
  · exact rr11
  · exact rr12
  · exact rr13
  · exact rr14
  · exact rr15

theorem nregs_wf {a d : Int} (h : (Lit.int .u8 a).wf = true ∧ (Lit.int .u8 d).wf = true ∧ True) : rivetlaw13_NameRegs.g a d = some (true, ()) := by
  obtain ⟨b, rfl⟩ := u8_of h.1
  obtain ⟨c, rfl⟩ := u8_of h.2.1
  unfold rivetlaw13_NameRegs.g
  rw [regs_f]
  have e1 : Int.tmod (b.toNat : Int) 16 = ((b.toNat % 16 : Nat) : Int) := rfl
  have e2 : Int.tmod (c.toNat : Int) 10 = ((c.toNat % 10 : Nat) : Int) := rfl
  rw [e1, e2]
  have h1 := regs_rows (b.toNat % 16) (Nat.mod_lt _ (by decide))
  unfold regsRow at h1
  have := List.all_eq_true.1 h1 (c.toNat % 10) (List.mem_range.2 (Nat.mod_lt _ (by decide)))
  simpa using this
end Rv
