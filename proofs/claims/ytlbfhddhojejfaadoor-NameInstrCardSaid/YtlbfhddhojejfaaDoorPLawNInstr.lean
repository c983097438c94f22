/- Each instruction has a mnemonic. -/
import Derived.Test.YtlbfhddhojejfaaDoorPNameT
set_option linter.all false
namespace Rv
open Go

/-- A kind, an operation, a mark that an instruction may have. -/
def goodI (k o : Int) (u : Bool) : Prop := ((k = 1 ∨ k = 2) ∧ 0 ≤ o ∧ o < 12 ∧ (u = true → o = 0 ∧ k = 2 ∨ 8 ≤ o ∧ o ≤ 10)) ∨ ((k = 3 ∨ k = 4) ∧ o = 0 ∧ u = false) ∨ (k = 5 ∧ 0 ≤ o ∧ o < 4 ∧ u = false) ∨ ((k = 6 ∨ k = 7) ∧ 0 ≤ o ∧ o < 16)

def goodR (r : Option (Int × Int × Int × Int × Int × Int × Bool × Unit)) : Prop := ∃ y, r = some y ∧ goodI y.1 y.2.1 y.2.2.2.2.2.2.1

theorem goodR_mk {a b c d e f : Int} {g : Bool} (h : goodI a b g) : goodR (some (a, b, c, d, e, f, g, ())) := ⟨_, rfl, h⟩

theorem and_lt (x : Int) (m : Nat) (hm : m < 1000000) : 0 ≤ bitsI .and .i64 x (m : Int) ∧ bitsI .and .i64 x (m : Int) ≤ m := by
  have h1 : (BitVec.ofInt 64 x &&& BitVec.ofInt 64 (m : Int)).toNat ≤ m := by
    rw [BitVec.toNat_and]
    have : (BitVec.ofInt 64 (m : Int)).toNat = m := by rw [BitVec.toNat_ofInt]; omega
    rw [this]
    exact Nat.and_le_right
  show 0 ≤ IntKind.i64.wrap (((BitVec.ofInt 64 x &&& BitVec.ofInt 64 (m : Int)).toNat : Nat) : Int) ∧ IntKind.i64.wrap (((BitVec.ofInt 64 x &&& BitVec.ofInt 64 (m : Int)).toNat : Nat) : Int) ≤ m
  rw [w64 (by omega)]
  omega

theorem tmod_bd (x : Int) {m : Int} (hm : 0 < m) : -m < Int.tmod x m ∧ Int.tmod x m < m := ⟨Int.lt_tmod_of_pos x hm, Int.tmod_lt_of_pos x hm⟩

theorem j25_good (n : Nat) (a1 a2 a3 a4 a5 a6 : Int) (a7 : Bool) (k o c d e f : Int) (u : Bool) (h : goodI k o u) : goodR (rivetref03_Fit.j25 n a1 a2 a3 a4 a5 a6 a7 k o c d e f u) := goodR_mk h

theorem j10_good (n : Nat) (op a0 a1 a2 a3 a4 a5 : Int) (a6 : Bool) (b0 b1 b2 b3 b4 b5 : Int) (b6 : Bool) (k c d e f : Int) (u : Bool) (hk : k = 1 ∨ k = 2) (ho : 0 ≤ op ∧ op < 12) (hu : u = true → 8 ≤ op ∧ op ≤ 10) :
    goodR (rivetref03_Fit.j10 n op a0 a1 a2 a3 a4 a5 a6 b0 b1 b2 b3 b4 b5 b6 k op c d e f u) := by
  have h1 : goodI k op u := Or.inl ⟨hk, ho.1, ho.2, fun h => Or.inr (hu h)⟩
  unfold rivetref03_Fit.j10
  by_cases e1 : k = 1
  · rw [if_pos (by simp [e1])]; exact goodR_mk h1
  · rw [if_neg (by simp [e1])]
    by_cases e2 : op = 0
    · rw [if_pos (by simp [e2])]
      by_cases e3 : a6 = true
      · rw [if_pos e3]
        exact j25_good _ _ _ _ _ _ _ _ _ _ _ _ _ _ _ (Or.inl ⟨hk, ho.1, ho.2, fun _ => Or.inl ⟨e2, by omega⟩⟩)
      · rw [if_neg e3]; exact j25_good _ _ _ _ _ _ _ _ _ _ _ _ _ _ _ h1
    · rw [if_neg (by simp [e2])]; exact j25_good _ _ _ _ _ _ _ _ _ _ _ _ _ _ _ h1

theorem j7_good (n : Nat) (op a0 a1 a2 a3 a4 a5 : Int) (a6 : Bool) (b0 b1 b2 b3 b4 b5 : Int) (b6 : Bool) (k c d e f : Int) (u : Bool) (hk : k = 1 ∨ k = 2) (ho : 0 ≤ op ∧ op < 12) :
    goodR (rivetref03_Fit.j7 n op a0 a1 a2 a3 a4 a5 a6 b0 b1 b2 b3 b4 b5 b6 k op c d e f u) := by
  have h9 : ∀ d, goodR (rivetref03_Fit.j9 n op a0 a1 a2 a3 a4 a5 a6 b0 b1 b2 b3 b4 b5 b6 k op c d e f u) := by
    intro d
    unfold rivetref03_Fit.j9
    by_cases e1 : a6 = true
    · rw [if_pos e1]
      by_cases e2 : (8 : Int) ≤ op
      · rw [if_pos (by simpa using e2)]
        exact j10_good _ _ _ _ _ _ _ _ _ _ _ _ _ _ _ _ _ _ _ _ _ _ hk ho (fun h => ⟨e2, by simpa using h⟩)
      · rw [if_neg (by simpa using e2)]
        exact j10_good _ _ _ _ _ _ _ _ _ _ _ _ _ _ _ _ _ _ _ _ _ _ hk ho (fun h => by cases h)
    · rw [if_neg e1]
      exact j10_good _ _ _ _ _ _ _ _ _ _ _ _ _ _ _ _ _ _ _ _ _ _ hk ho (fun h => by cases h)
  unfold rivetref03_Fit.j7
  split <;> exact h9 _

theorem fit03 (i0 i1 i2 i3 i4 i5 : Int) (u : Bool) : goodR (rivetref03_Fit.g i0 i1 i2 i3 i4 i5 u) := by
  unfold rivetref03_Fit.g
  generalize 1000 + i0.toNat + i1.toNat + i2.toNat + i3.toNat + i4.toNat + i5.toNat = n
  unfold rivetref03_Fit.f
  have t1 := tmod_bd i0 (m := 7) (by decide)
  have t2 := tmod_bd i1 (m := 12) (by decide)
  have e1 : IntKind.i64.wrap (Int.tmod i0 7 + 7) = Int.tmod i0 7 + 7 := w64 (by omega)
  have e2 : IntKind.i64.wrap (Int.tmod i1 12 + 12) = Int.tmod i1 12 + 12 := w64 (by omega)
  rw [e1, e2]
  have t3 := tmod_bd (Int.tmod i0 7 + 7) (m := 7) (by decide)
  have t4 := tmod_bd (Int.tmod i1 12 + 12) (m := 12) (by decide)
  have t5 : 0 ≤ Int.tmod (Int.tmod i0 7 + 7) 7 := Int.tmod_nonneg _ (by omega)
  have t6 : 0 ≤ Int.tmod (Int.tmod i1 12 + 12) 12 := Int.tmod_nonneg _ (by omega)
  generalize Int.tmod (Int.tmod i0 7 + 7) 7 = q at *
  generalize Int.tmod (Int.tmod i1 12 + 12) 12 = op at *
  have e3 : IntKind.i64.wrap (1 + q) = 1 + q := w64 (by omega)
  rw [e3]
  clear e1 e2 e3 t1 t2
  generalize hk : 1 + q = k
  have a3 : 0 ≤ bitsI .and .i64 i1 3 ∧ bitsI .and .i64 i1 3 ≤ 3 := and_lt i1 3 (by decide)
  have a15 : 0 ≤ bitsI .and .i64 i1 15 ∧ bitsI .and .i64 i1 15 ≤ 15 := and_lt i1 15 (by decide)
  simp only [dt]
  have hop : 0 ≤ op ∧ op < 12 := ⟨t6, t4.2⟩
  have g5 : k = 5 → goodI k (bitsI .and .i64 i1 3) false := fun h => Or.inr (Or.inr (Or.inl ⟨h, a3.1, by have := a3.2; omega, rfl⟩))
  have g67 : ∀ v, k = 6 ∨ k = 7 → goodI k (bitsI .and .i64 i1 15) v := fun v h => Or.inr (Or.inr (Or.inr ⟨h, a15.1, by have := a15.2; omega⟩))
  have g34 : ¬ k = 1 → ¬ k = 2 → ¬ k = 5 → ¬ k = 6 → ¬ k = 7 → goodI k 0 false := fun h1 h2 h5 h6 h7 => Or.inr (Or.inl ⟨by omega, rfl, rfl⟩)
  have J19 : k = 5 → ∀ c, goodR (rivetref03_Fit.j19 n i0 i1 i2 i3 i4 i5 u 0 0 0 0 0 0 false k (bitsI .and .i64 i1 3) c 0 0 0 false) := fun h c => goodR_mk (g5 h)
  by_cases k1 : k = 1
  · rw [if_pos k1, if_pos k1]; exact j7_good _ _ _ _ _ _ _ _ _ _ _ _ _ _ _ _ _ _ _ _ _ _ (Or.inl k1) hop
  · rw [if_neg k1]
    by_cases k2 : k = 2
    · rw [if_pos k2]; exact j7_good _ _ _ _ _ _ _ _ _ _ _ _ _ _ _ _ _ _ _ _ _ _ (Or.inr k2) hop
    · rw [if_neg k2]
      by_cases k5 : k = 5
      · rw [if_pos k5]; exact J19 k5 _
      · rw [if_neg k5]
        by_cases k6 : k = 6
        · rw [if_pos k6]; exact goodR_mk (g67 _ (Or.inl k6))
        · rw [if_neg k6]
          by_cases k7 : k = 7
          · rw [if_pos k7]; exact goodR_mk (g67 _ (Or.inr k7))
          · rw [if_neg k7]; exact goodR_mk (g34 k1 k2 k5 k6 k7)

/-- The kind whose mnemonic it has. -/
def kmap (k : Int) : Int := if k = 2 then 1 else if k = 6 then 7 else k

def goodB (k o : Nat) (u : Bool) : Bool := ((k == 1 || k == 2) && decide (o < 12) && (!u || o == 0 || (decide (8 ≤ o) && decide (o ≤ 10)))) || ((k == 3 || k == 4) && o == 0 && !u) || (k == 5 && decide (o < 4) && !u) || k == 6 || k == 7
theorem good_all : ((List.range 8).all fun k => (List.range 16).all fun o => [true, false].all fun u => !goodB k o u || (L.mnemR (kmap (k : Int)) (o : Int) u != [])) = true := by decide +kernel

theorem good_tbl (k : Nat) (hk : k < 8) (o : Nat) (ho : o < 16) (u : Bool) (h : goodB k o u = true) : L.mnemR (kmap k) o u ≠ [] := by
  have h1 := List.all_eq_true.1 good_all k (List.mem_range.2 hk)
  have h2 := List.all_eq_true.1 h1 o (List.mem_range.2 ho)
  have h3 := List.all_eq_true.1 h2 u (by cases u <;> simp)
  rw [h] at h3
  simpa using h3

theorem mnem_good {k o : Int} {u : Bool} (h : goodI k o u) : L.mnemR (kmap k) o u ≠ [] ∧ 1 ≤ k ∧ k ≤ 7 ∧ 0 ≤ o ∧ o < 16 := by
  have hb : 1 ≤ k ∧ k ≤ 7 ∧ 0 ≤ o ∧ o < 16 := by unfold goodI at h; omega
  obtain ⟨a, rfl⟩ : ∃ a : Nat, k = (a : Int) := ⟨k.toNat, by omega⟩
  obtain ⟨b, rfl⟩ : ∃ b : Nat, o = (b : Int) := ⟨o.toNat, by omega⟩
  refine ⟨good_tbl a (by omega) b (by omega) u ?_, hb⟩
  unfold goodI at h
  unfold goodB
  rcases h with ⟨h1, h2, h3, h4⟩ | ⟨h1, h2, h3⟩ | ⟨h1, h2, h3, h4⟩ | ⟨h1, h2⟩
  · have e1 : (a == 1 || a == 2) = true := by simp; omega
    have e2 : decide (b < 12) = true := by simp; omega
    have e3 : (!u || b == 0 || (decide (8 ≤ b) && decide (b ≤ 10))) = true := by
      cases u with
      | false => rfl
      | true => have := h4 rfl; simp; omega
    simp only [e1, e2, e3, Bool.true_and, Bool.true_or]
  · have e1 : (a == 3 || a == 4) = true := by simp; omega
    have e2 : (b == 0) = true := by simp; omega
    simp only [e1, e2, h3, Bool.not_false, Bool.true_and, Bool.or_true, Bool.true_or]
  · have e1 : (a == 5) = true := by simp; omega
    have e2 : decide (b < 4) = true := by simp; omega
    simp only [e1, e2, h4, Bool.not_false, Bool.true_and, Bool.or_true, Bool.true_or]
  · have e1 : (a == 6) = true ∨ (a == 7) = true := by simp; omega
    rcases e1 with e | e
    · simp only [e, Bool.or_true, Bool.true_or]
    · simp only [e, Bool.or_true]

theorem j8_instr (n : Nat) {k o : Int} {u : Bool} (b0 b2 b3 b4 b5 : Int) (h : L.mnemR k o u ≠ []) (hk : k ≤ 7) : rivetlaw13_NameInstr.j8 n true k b0 o b2 b3 b4 b5 u = some (true, ()) := by
  obtain ⟨h1, h2⟩ := mnem_of h
  obtain ⟨e, he, hkey, hs⟩ := mnem_mem h
  have hl := nt_label e he (by rw [hkey]; exact hk)
  rw [hs] at hl
  unfold rivetlaw13_NameInstr.j8
  rw [mnemO_eq u (by omega) (by omega), Option.bind_some]
  have ho : L.nameOfO (L.mnemR k o u) = some (k, o, u, true, ()) := by unfold L.nameOfO; rw [h1]
  have hlen : ((L.mnemR k o u).length : Int) ≤ 4 := by omega
  simp [ho, h, label_eq, hl.1, hlen]

theorem ninstr_eq (i0 i1 i2 i3 i4 i5 : Int) (u : Bool) : rivetlaw13_NameInstr.g i0 i1 i2 i3 i4 i5 u = some (true, ()) := by
  unfold rivetlaw13_NameInstr.g
  generalize 1000 + i0.toNat + i1.toNat + i2.toNat + i3.toNat + i4.toNat + i5.toNat = n
  unfold rivetlaw13_NameInstr.f
  obtain ⟨y, hy, hg⟩ := fit03 i0 i1 i2 i3 i4 i5 u
  rw [shown13, hy, Option.bind_some, Option.bind_some]
  obtain ⟨k, o, a, b, c, d, v, _⟩ := y
  dsimp only at hg ⊢
  obtain ⟨hm, hr⟩ := mnem_good hg
  unfold kmap at hm
  by_cases e2 : k = 2
  · rw [if_pos (by simp [e2])]
    rw [if_pos e2] at hm
    unfold rivetlaw13_NameInstr.j6
    rw [if_neg (by decide)]
    exact j8_instr n _ _ _ _ _ hm (by decide)
  · rw [if_neg (by simp [e2])]
    rw [if_neg e2] at hm
    unfold rivetlaw13_NameInstr.j6
    by_cases e6 : k = 6
    · rw [if_pos (by simp [e6])]
      rw [if_pos e6] at hm
      exact j8_instr n _ _ _ _ _ hm (by decide)
    · rw [if_neg (by simp [e6])]
      rw [if_neg e6] at hm
      exact j8_instr n _ _ _ _ _ hm (by omega)
end Rv
