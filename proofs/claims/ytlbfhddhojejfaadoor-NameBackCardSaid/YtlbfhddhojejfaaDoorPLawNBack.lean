/- Each mnemonic is of just what it was made for. -/
import Derived.Test.YtlbfhddhojejfaaDoorPNameT
set_option linter.all false
namespace Rv
open Go

/-- What stands of the registers, at one number. -/
def regBack (op : Nat) : Bool :=
  match name_RegName.g (op : Int) with
  | some (s, _) => (match name_Reg.g s with
    | some (r, is, _) => (is == decide (op < 16)) && (!is || decide (r = (op : Int)))
    | none => false)
  | none => false
theorem regBack_all : ((List.range 17).all regBack) = true := by decide +kernel
def regLab (op : Nat) : Bool :=
  match name_RegName.g (op : Int) with
  | some (s, _) => !labelOk s
  | none => false
theorem regLab_all : ((List.range 16).all regLab) = true := by decide +kernel

theorem nback_eq (x0 x1 y0 y1 : UInt8) (u v : Bool) : rivetlaw13_NameBack.g x0.toNat x1.toNat y0.toNat y1.toNat u v = some (true, ()) := by
  unfold rivetlaw13_NameBack.g
  generalize 1000 + (x0.toNat : Int).toNat + (x1.toNat : Int).toNat + (y0.toNat : Int).toNat + (y1.toNat : Int).toNat = n
  unfold rivetlaw13_NameBack.f
  have k1 : ∀ x y : Int, ([x, y] : List Int).getD ((0 : Int)).toNat 0 = x := fun _ _ => rfl
  have k2 : ∀ x y : Int, ([x, y] : List Int).getD ((1 : Int)).toNat 0 = y := fun _ _ => rfl
  have k3 : ∀ x y : Bool, ([x, y] : List Bool).getD ((0 : Int)).toNat false = x := fun _ _ => rfl
  have k4 : ∀ x y : Bool, ([x, y] : List Bool).getD ((1 : Int)).toNat false = y := fun _ _ => rfl
  have b0 : (0 : Int) ≤ 0 ∧ (0 : Int) < 2 := by decide
  have b1 : (0 : Int) ≤ 1 ∧ (1 : Int) < 2 := by decide
  have m1 : ∀ z : UInt8, IntKind.i64.wrap (Int.tmod (z.toNat : Int) 12) = ((z.toNat % 12 : Nat) : Int) := fun z => by
    have : Int.tmod (z.toNat : Int) 12 = ((z.toNat % 12 : Nat) : Int) := rfl
    rw [this, w64 (by omega)]
  have m2 : ∀ z : UInt8, IntKind.i64.wrap (Int.tmod (z.toNat : Int) 17) = ((z.toNat % 17 : Nat) : Int) := fun z => by
    have : Int.tmod (z.toNat : Int) 17 = ((z.toNat % 17 : Nat) : Int) := rfl
    rw [this, w64 (by omega)]
  simp only [k1, k2, k3, k4, m1, m2, if_pos b0, if_pos b1]
  have l1 : x0.toNat % 12 < 12 := Nat.mod_lt _ (by decide)
  have l2 : x1.toNat % 17 < 17 := Nat.mod_lt _ (by decide)
  have l3 : y0.toNat % 12 < 12 := Nat.mod_lt _ (by decide)
  have l4 : y1.toNat % 17 < 17 := Nat.mod_lt _ (by decide)
  generalize x0.toNat % 12 = k at *
  generalize x1.toNat % 17 = o at *
  generalize y0.toNat % 12 = k' at *
  generalize y1.toNat % 17 = o' at *
  rw [shown13, Option.bind_some, mnemO_eq u (by omega) (by omega), Option.bind_some, mnemO_eq v (by omega) (by omega), Option.bind_some]
  unfold L.nameOfO
  rw [Option.bind_some]
  dsimp only
  by_cases hm : L.mnemR k o u = []
  · rw [if_pos (by simp [hm]), hm]
    rfl
  · rw [if_neg (by simp [hm])]
    obtain ⟨hof, _⟩ := mnem_of hm
    rw [hof]
    dsimp only
    have hJ : ∀ same, same = decide (L.mnemR k o u = L.mnemR k' o' v) → rivetlaw13_NameBack.j10 n true (k : Int) (o : Int) (L.mnemR k o u) (L.mnemR k' o' v) (k : Int) (o : Int) u true same u v = some (true, ()) := by
      intro same hs
      unfold rivetlaw13_NameBack.j10
      have hr := List.all_eq_true.1 regBack_all o (List.mem_range.2 l2)
      unfold regBack at hr
      cases hn : name_RegName.g (o : Int) with
      | none => rw [hn] at hr; cases hr
      | some p =>
        obtain ⟨s, _⟩ := p
        rw [hn] at hr
        rw [Option.bind_some]
        dsimp only at hr ⊢
        cases hg : name_Reg.g s with
        | none => rw [hg] at hr; cases hr
        | some p =>
          obtain ⟨r, is, _⟩ := p
          rw [hg] at hr
          rw [Option.bind_some]
          dsimp only at hr ⊢
          simp only [Bool.and_eq_true, beq_iff_eq] at hr
          have hd : decide ((o : Int) < 16) = decide (o < 16) := decide_eq_decide.2 (by omega)
          have m3 : Int.tmod (o : Int) 16 = ((o % 16 : Nat) : Int) := rfl
          have hl := List.all_eq_true.1 regLab_all (o % 16) (List.mem_range.2 (Nat.mod_lt _ (by decide)))
          unfold regLab at hl
          cases hn2 : name_RegName.g ((o % 16 : Nat) : Int) with
          | none => rw [hn2] at hl; cases hl
          | some p2 =>
            obtain ⟨s2, _⟩ := p2
            rw [hn2] at hl
            dsimp only at hl
            have hl2 : labelOk s2 = false := by simpa using hl
            rw [hd, ← hr.1, m3, hn2]
            have h2 := hr.2
            simp only [if_true, if_pos b0, k3, beq_self_eq_true, decide_true, hs, Option.bind_some, label_eq, hl2]
            cases is
            · simp
            · simp at h2; simp [h2]
    have hK : decide ((k : Int) = (k' : Int)) = decide (k = k') := decide_eq_decide.2 (by omega)
    have hO : decide ((o : Int) = (o' : Int)) = decide (o = o') := decide_eq_decide.2 (by omega)
    rw [hK, hO]
    have hsame : ∀ b : Bool, b = (decide (k = k') && decide (o = o') && (u == v)) → b = decide (L.mnemR k o u = L.mnemR k' o' v) := by
      intro b hb
      rw [hb]
      by_cases e : L.mnemR k o u = L.mnemR k' o' v
      · obtain ⟨e1, e2, e3⟩ := mnem_uniq hm e
        have e1' : k = k' := by omega
        have e2' : o = o' := by omega
        simp [e1', e2', e3]
      · rw [decide_eq_false e]
        by_cases e1 : k = k' <;> by_cases e2 : o = o' <;> by_cases e3 : u = v <;> simp_all
    repeat' split
    all_goals (refine hJ _ (hsame _ ?_); simp_all)

theorem nback_wf {x0 x1 y0 y1 : Int} {u v : Bool} (h : (Lit.int .u8 x0).wf = true ∧ (Lit.int .u8 x1).wf = true ∧ (Lit.int .u8 y0).wf = true ∧ (Lit.int .u8 y1).wf = true ∧ True) : rivetlaw13_NameBack.g x0 x1 y0 y1 u v = some (true, ()) := by
  obtain ⟨h0, h1, h2, h3, _⟩ := h
  obtain ⟨a, rfl⟩ := u8_of h0
  obtain ⟨b, rfl⟩ := u8_of h1
  obtain ⟨c, rfl⟩ := u8_of h2
  obtain ⟨d, rfl⟩ := u8_of h3
  exact nback_eq a b c d u v
end Rv
