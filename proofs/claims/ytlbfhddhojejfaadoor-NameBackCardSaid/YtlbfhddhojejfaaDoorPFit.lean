/- Names that are made. -/
import Derived.Test.YtlbfhddhojejfaaDoorPScanL
import Derived.Test.YtlbfhddhojejfaaDoorPWb
set_option linter.all false
namespace Rv
open Go

/-- Letters, digits and underscores, no digit ahead. -/
def okName (s : Str) : Prop := (∃ c r, s = c :: r ∧ isL c = true) ∧ s.all isW = true ∧ s.length ≤ 12

theorem fit_byte : ((List.range 12).all fun k => isW ((([97, 98, 99, 88, 89, 90, 95, 48, 49, 57, 82, 109] : Str).take (k + 1)).drop k).head! && decide (((([97, 98, 99, 88, 89, 90, 95, 48, 49, 57, 82, 109] : Str).take (k + 1)).drop k).length = 1)) = true := by decide +kernel

theorem fit07_loop {Q : UInt8 → Prop} (s : Str) (hs : s.length ≤ 9223372036854775807) (n : Nat) : ∀ (m i : Nat) (out : Str), i ≤ s.length → 6 - i < m → i ≤ 6 → out.length = i + 1 → (∃ c r, out = c :: r ∧ Q c) → out.all isW = true →
    ∃ r, rivetref07_Fit.l4 n m s ([97, 98, 99, 88, 89, 90, 95, 48, 49, 57, 82, 109] : Str) out (i : Int) = some (r, ()) ∧ (∃ c t, r = c :: t ∧ Q c) ∧ r.all isW = true ∧ r.length ≤ 7 := by
  intro m
  induction m with
  | zero => intro i out _ h; omega
  | succ m ih =>
    intro i out hi hm h6 hl hh ha
    simp only [rivetref07_Fit.l4, dt]
    by_cases h1 : i < s.length
    · rw [if_pos (by omega)]
      by_cases h2 : i < 6
      · rw [if_pos (by omega), if_pos (by omega), if_pos (by omega), bt_nat]
        have hb := byte_lt (s.getD i 0)
        generalize s.getD i 0 = b at *
        have e0 : Int.tmod (IntKind.i64.wrap (b.toNat : Int)) 12 = ((b.toNat % 12 : Nat) : Int) := by
          rw [w64 (by omega)]
          have : Int.tmod (b.toNat : Int) 12 = (b.toNat : Int) % 12 := Int.tmod_eq_emod_of_nonneg (by omega)
          rw [this]; omega
        rw [e0]
        have hk : b.toNat % 12 < 12 := Nat.mod_lt _ (by omega)
        generalize b.toNat % 12 = k at *
        rw [w64 (x := (k : Int) + 1) (by omega), w64 (x := (i : Int) + 1) (by omega), show (k : Int) + 1 = ((k + 1 : Nat) : Int) by omega, show (i : Int) + 1 = ((i + 1 : Nat) : Int) by omega, Int.toNat_natCast, Int.toNat_natCast]
        have hf := List.all_eq_true.1 fit_byte k (by simpa using hk)
        simp only [Bool.and_eq_true, decide_eq_true_eq] at hf
        obtain ⟨f1, f2⟩ := hf
        generalize ((([97, 98, 99, 88, 89, 90, 95, 48, 49, 57, 82, 109] : Str).take (k + 1)).drop k) = w at *
        obtain ⟨c, rfl⟩ : ∃ c, w = [c] := by
          match w, f2 with
          | [c], _ => exact ⟨c, rfl⟩
        rw [if_pos ⟨by omega, by simp only [List.length_cons, List.length_nil]; omega⟩, if_pos ⟨by omega, by omega⟩, if_pos (by simp; omega)]
        refine ih (i + 1) (out ++ [c]) (by omega) (by omega) (by omega) (by simp; omega) ?_ ?_
        · obtain ⟨a, r, rfl, h⟩ := hh
          exact ⟨a, r ++ [c], rfl, h⟩
        · have f1 : isW c = true := f1
          rw [List.all_append, ha, List.all_cons, f1]; rfl
      · rw [if_neg (by omega)]
        exact ⟨out, rfl, hh, ha, by omega⟩
    · rw [if_neg (by omega)]
      exact ⟨out, rfl, hh, ha, by omega⟩

/-- A letter that no register begins with. -/
def isH (c : UInt8) : Prop := isL c = true ∧ c ≠ 82 ∧ isD c = false

theorem fit07_eq' (s : Str) (hs : s.length ≤ 9223372036854775807) : ∃ r, rivetref07_Fit.g s = some (r, ()) ∧ (∃ c t, r = c :: t ∧ isH c ∧ (s.length ≤ 6 → c ≠ 122)) ∧ r.all isW = true ∧ r.length ≤ 7 := by
  unfold rivetref07_Fit.g rivetref07_Fit.f
  have e1 : Int.tmod (s.length : Int) 26 = ((s.length % 26 : Nat) : Int) := by
    have : Int.tmod (s.length : Int) 26 = (s.length : Int) % 26 := Int.tmod_eq_emod_of_nonneg (by omega)
    rw [this]; omega
  have hk : s.length % 26 < 26 := Nat.mod_lt _ (by omega)
  rw [e1]
  have e2 : IntKind.u8.wrap (97 + IntKind.u8.wrap ((s.length % 26 : Nat) : Int)) = ((97 + s.length % 26 : Nat) : Int) := by
    rw [w8u (x := ((s.length % 26 : Nat) : Int)) (by omega), w8u (by omega)]; omega
  rw [e2]
  have hb : bytesOf [((97 + s.length % 26 : Nat) : Int)] = [UInt8.ofNat (97 + s.length % 26)] := rfl
  rw [hb]
  have hn : (UInt8.ofNat (97 + s.length % 26)).toNat = 97 + s.length % 26 := by rw [UInt8.toNat_ofNat', Nat.mod_eq_of_lt (by omega)]
  have hL : isL (UInt8.ofNat (97 + s.length % 26)) = true := by unfold isL; rw [hn]; simp; omega
  have hne : UInt8.ofNat (97 + s.length % 26) ≠ 82 := fun e => by have := congrArg UInt8.toNat e; rw [hn] at this; simp at this; omega
  have hD : isD (UInt8.ofNat (97 + s.length % 26)) = false := by unfold isD; rw [hn, decide_eq_false_iff_not]; omega
  have hz : s.length ≤ 6 → UInt8.ofNat (97 + s.length % 26) ≠ 122 := fun h6 e => by have := congrArg UInt8.toNat e; rw [hn] at this; simp at this; omega
  exact fit07_loop (Q := fun c => isH c ∧ (s.length ≤ 6 → c ≠ 122)) s hs (1000 + s.length) (1000 + s.length) 0 _ (by omega) (by omega) (by omega) rfl ⟨_, _, rfl, ⟨hL, hne, hD⟩, hz⟩ (by rw [List.all_cons, isW, hL]; rfl)

theorem fit07_eq (s : Str) (hs : s.length ≤ 9223372036854775807) : ∃ r, rivetref07_Fit.g s = some (r, ()) ∧ (∃ c t, r = c :: t ∧ isL c = true) ∧ r.all isW = true ∧ r.length ≤ 7 := by
  obtain ⟨r, h1, ⟨c, t, h2, h3⟩, h4⟩ := fit07_eq' s hs
  exact ⟨r, h1, ⟨c, t, h2, h3.1.1⟩, h4⟩

theorem fit13_eq (s : Str) (hs : s.length ≤ 9223372036854775807) : ∃ r, rivetref13_Fit.g s = some (r, ()) ∧ okName r := by
  unfold rivetref13_Fit.g rivetref13_Fit.f
  obtain ⟨r, hr, hh, ha, hl⟩ := fit07_eq s hs
  rw [hr, Option.bind_some]
  simp only [dt]
  split
  · have e1 : mn (r.length : Int) 11 = r.length := by unfold mn; rw [if_neg (by omega)]
    rw [e1, if_pos (by omega)]
    simp only [Int.toNat_natCast, List.take_length, List.drop_zero]
    rw [if_pos (by simp; omega)]
    refine ⟨_, rfl, ⟨95, r, rfl, by decide⟩, ?_, by simp; omega⟩
    rw [List.all_append, ha]; rfl
  · exact ⟨r, rfl, hh, ha, by omega⟩

theorem line_name (k : Int) {s : Str} (h : okName s) : lineR k s = .ok [(1, k, s, 0, ())] := by
  obtain ⟨⟨c, r, rfl, hL⟩, ha, _⟩ := h
  have hW : isW c = true := by simp [isW, hL]
  obtain ⟨h1, h2⟩ := blank_facts hW
  rw [lineR_cons, if_neg h1, if_neg h2]
  unfold tokAt
  rw [if_pos hL, wordOf_all ha]
  simp only [List.length_cons]
  rw [List.drop_eq_nil_of_le (by omega), lineR_nil]

/-- A dot and a name. -/
theorem line_dot (k : Int) {s : Str} (h : okName s) : lineR k (46 :: s) = .ok [(4, k, s, 0, ())] := by
  have h' := h
  obtain ⟨⟨c, r, rfl, hL⟩, ha, _⟩ := h
  rw [lineR_cons, if_neg (by decide), if_neg (by decide)]
  unfold tokAt
  have d1 : ¬ isL 46 = true := by decide
  have d2 : ¬ isD 46 = true := by decide
  have d3 : (46 : UInt8) = 46 ∧ ∃ d ∈ (c :: r).head?, isL d = true := ⟨rfl, c, by simp, hL⟩
  rw [if_neg d1, if_neg d2, if_pos d3, wordOf_all ha]
  simp only [List.length_cons]
  rw [List.drop_eq_nil_of_le (by simp), lineR_nil]

theorem okName_no59 {s : Str} (h : okName s) : (59 : UInt8) ∉ s := fun hm => absurd (List.all_eq_true.1 h.2.1 59 hm) (by decide)

end Rv
