/- Texts put together, part 17 of 18. -/
import Derived.Test.YtaonefbdamklhaaGreatDoorQ7
set_option linter.all false
namespace Rv
open Go
def noMn (r : Str) : Prop := ∃ c t, r = c :: t ∧ (c = 95 ∨ (97 ≤ c.toNat ∧ c.toNat ≤ 117 ∧ (c.toNat = 101 → r.length ≤ 5)))
theorem nt_first : (L.nameTbl.all fun e => match e.2.2 with | [] => true | c :: t => !(c == 95) && (decide (c.toNat < 97) || decide (117 < c.toNat) || (c.toNat == 101 && decide (t.length = 5)))) = true := by decide +kernel
theorem ofR_noMn {r : Str} (h : noMn r) : (L.ofR r).2.2.2.1 = false := by
 unfold L.ofR
 cases hf : L.nameTbl.find? fun e => e.2.2 == r with
 | none => rfl
 | some e =>
  exfalso
  have h1 := List.mem_of_find?_eq_some hf
  have h2 := List.find?_some hf
  simp only [beq_iff_eq] at h2
  have h3 := List.all_eq_true.1 nt_first e h1
  obtain ⟨c, t, rfl, hc⟩ := h
  rw [h2] at h3
  simp only [Bool.and_eq_true, Bool.or_eq_true, Bool.not_eq_true', decide_eq_true_eq, beq_iff_eq, beq_eq_false_iff_ne] at h3
  rcases hc with rfl | ⟨c1, c2, c3⟩
  ·exact h3.1 rfl
  ·rcases h3.2 with (h | h) | ⟨h4, h5⟩
   ·omega
   ·omega
   ·have := c3 h4; simp at this; omega
theorem fit07_noMn (s : Str) (hs : s.length ≤ 20) : ∃ r, rivetref07_Fit.g s = some (r, ()) ∧ noMn r ∧ 1 ≤ r.length ∧ r.length ≤ 7 := by
 unfold rivetref07_Fit.g rivetref07_Fit.f
 have e1 : Int.tmod (s.length : Int) 26 = ((s.length % 26 : Nat) : Int) := by
  have : Int.tmod (s.length : Int) 26 = (s.length : Int) % 26 := Int.tmod_eq_emod_of_nonneg (by omega)
  rw [this]; omega
 have hk : s.length % 26 = s.length := Nat.mod_eq_of_lt (by omega)
 rw [e1, hk]
 have e2 : IntKind.u8.wrap (97 + IntKind.u8.wrap ((s.length : Nat) : Int)) = ((97 + s.length : Nat) : Int) := by
  rw [w8u (x := ((s.length : Nat) : Int)) (by omega), w8u (by omega)]; omega
 rw [e2]
 have hb : bytesOf [((97 + s.length : Nat) : Int)] = [UInt8.ofNat (97 + s.length)] := rfl
 rw [hb]
 have hn : (UInt8.ofNat (97 + s.length)).toNat = 97 + s.length := by rw [UInt8.toNat_ofNat', Nat.mod_eq_of_lt (by omega)]
 have hL : isL (UInt8.ofNat (97 + s.length)) = true := by unfold isL; rw [hn]; simp; omega
 obtain ⟨r, h1, ⟨c, t, h2, h3⟩, _, h4, h5⟩ := fit07_loop2 (Q := fun c => c.toNat = 97 + s.length) s (by omega) (1000 + s.length) (1000 + s.length) 0 [UInt8.ofNat (97 + s.length)] (by omega) (by omega) (by omega) rfl ⟨_, _, rfl, hn⟩ (by rw [List.all_cons, isW, hL]; rfl)
 exact ⟨r, h1, ⟨c, t, h2, .inr ⟨by omega, by omega, fun g => by omega⟩⟩, by rw [h2]; simp, h4⟩
theorem fit13_noMn (s : Str) (hs : s.length ≤ 20) : ∃ r, rivetref13_Fit.g s = some (r, ()) ∧ noMn r := by
 unfold rivetref13_Fit.g rivetref13_Fit.f
 obtain ⟨r, hr, hm, h1, h7⟩ := fit07_noMn s hs
 rw [hr, Option.bind_some]
 simp only [dt]
 split
 ·have e1 : mn (r.length : Int) 11 = r.length := by unfold mn; rw [if_neg (by omega)]
  rw [e1, if_pos (by omega)]
  simp only [Int.toNat_natCast, List.take_length, List.drop_zero]
  rw [if_pos (by simp; omega)]
  exact ⟨_, rfl, 95, r, rfl, .inl rfl⟩
 ·exact ⟨r, rfl, hm⟩
end Rv
