/- The mnemonics' table. -/
import Derived.Test.YtlbfhddhojejfaaDoorPName
set_option linter.all false
namespace Rv
open Go

theorem nt_rows : ∀ e ∈ L.nameTbl, L.mnemR e.2.1.1 e.2.1.2.1 e.2.1.2.2 = e.2.2 ∧ L.ofR e.2.2 = (e.2.1.1, e.2.1.2.1, e.2.1.2.2, true, ()) ∧ e.2.2 ≠ [] := by decide +kernel
theorem nt_label : ∀ e ∈ L.nameTbl, e.2.1.1 ≤ 7 → labelOk e.2.2 = true ∧ e.2.2.length ≤ 4 := by decide +kernel
theorem nt_range : ∀ e ∈ L.nameTbl, 1 ≤ e.2.1.1 ∧ e.2.1.1 ≤ 10 ∧ 0 ≤ e.2.1.2.1 ∧ e.2.1.2.1 ≤ 15 := by decide +kernel

theorem mnem_mem {k o : Int} {u : Bool} (h : L.mnemR k o u ≠ []) : ∃ e ∈ L.nameTbl, e.2.1 = (k, o, u) ∧ e.2.2 = L.mnemR k o u := by
  unfold L.mnemR at h ⊢
  cases hf : L.nameTbl.find? fun e => e.2.1 == (k, o, u) with
  | none => rw [hf] at h; exact absurd rfl h
  | some e =>
    have h1 := List.mem_of_find?_eq_some hf
    have h2 : e.2.1 = (k, o, u) := by simpa using List.find?_some hf
    exact ⟨e, h1, h2, rfl⟩

theorem mnem_of {k o : Int} {u : Bool} (h : L.mnemR k o u ≠ []) : L.ofR (L.mnemR k o u) = (k, o, u, true, ()) ∧ 1 ≤ k ∧ k ≤ 10 ∧ 0 ≤ o ∧ o ≤ 15 := by
  obtain ⟨e, he, hk, hs⟩ := mnem_mem h
  obtain ⟨h1, h2, h3⟩ := nt_rows e he
  have h4 := nt_range e he
  rw [hk] at h2 h4
  rw [← hs]
  exact ⟨h2, h4⟩

theorem mnem_uniq {k o k' o' : Int} {u u' : Bool} (h : L.mnemR k o u ≠ []) (e : L.mnemR k o u = L.mnemR k' o' u') : k = k' ∧ o = o' ∧ u = u' := by
  have h1 := (mnem_of h).1
  have h2 := (mnem_of (e ▸ h : L.mnemR k' o' u' ≠ [])).1
  rw [e, h2] at h1
  simp only [Prod.mk.injEq] at h1
  exact ⟨h1.1.symm, h1.2.1.symm, h1.2.2.1.symm⟩

theorem mnemO_eq {k o : Int} (u : Bool) (hk : -9223372036854775808 ≤ k ∧ k ≤ 9223372036854775807) (ho : -9223372036854775808 ≤ o ∧ o ≤ 9223372036854775807) : L.mnemO k o u = some (L.mnemR k o u, ()) := by
  unfold L.mnemO
  rw [if_pos ⟨hk.1, hk.2, ho.1, ho.2⟩]

theorem ofR_none {s : Str} (h : ∀ k o u, L.mnemR k o u = s → s = []) : L.ofR s = (0, 0, false, false, ()) := by
  unfold L.ofR
  cases hf : L.nameTbl.find? fun e => e.2.2 == s with
  | none => rfl
  | some e =>
    have h1 := List.mem_of_find?_eq_some hf
    have h2 : e.2.2 = s := by simpa using List.find?_some hf
    obtain ⟨h3, _, h4⟩ := nt_rows e h1
    exact absurd (h2 ▸ h _ _ _ (h3.trans h2)) h4

theorem regs_closed : ∀ k : Nat, k < 17 → name_RegName.g (k : Int) = some (if k < 10 then [82, UInt8.ofNat (48 + k)] else if k < 16 then [82, 49, UInt8.ofNat (38 + k)] else [], ()) := by decide +kernel
end Rv
