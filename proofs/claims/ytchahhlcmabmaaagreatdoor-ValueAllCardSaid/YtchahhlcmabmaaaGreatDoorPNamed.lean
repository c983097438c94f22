/- Labels that are made, and expressions of them. -/
import Derived.Test.YtchahhlcmabmaaaGreatDoorPGb
set_option linter.all false
namespace Rv
open Go

/-- Labels as Fit makes them: their names are labels, each once. -/
def goodSyms (l : List Sym) : Prop := (∀ x ∈ l, labelOk x.1 = true ∧ x.1.length ≤ 8 ∧ x.1 ≠ [122, 122, 95, 122, 122]) ∧ (l.map (·.1)).Nodup

theorem find16_loop (l : List Sym) (s : Str) (hl : l.length ≤ 4611686018427387904) (n : Nat) : ∀ (m i : Nat), i ≤ l.length → l.length - i < m →
    rivetref16_Find.l2 n m l s (i : Int) = some ((findR s (l.drop i)).getD 0, (findR s (l.drop i)).isSome, ()) := by
  intro m
  induction m with
  | zero => intro i _ h; omega
  | succ m ih =>
    intro i hi hm
    by_cases h1 : i < l.length
    · have hx : l.drop i = l.getD i (([] : Str), ((0 : Int), ())) :: l.drop (i + 1) := by
        rw [List.drop_eq_getElem_cons h1, List.getD_eq_getElem?_getD, List.getElem?_eq_getElem h1]; rfl
      rw [hx]
      simp only [rivetref16_Find.l2, dt, Int.toNat_natCast]
      rw [if_pos (by omega), if_pos (by omega)]
      generalize l.getD i (([] : Str), ((0 : Int), ())) = x
      unfold findR
      by_cases h2 : x.1 = s
      · rw [if_pos h2, if_pos h2, if_pos (by omega)]; rfl
      · rw [if_neg h2, if_neg h2, w64 (by omega), show (i : Int) + 1 = ((i + 1 : Nat) : Int) by omega, ih (i + 1) (by omega) (by omega)]
    · have hi' : i = l.length := by omega
      subst hi'
      simp only [rivetref16_Find.l2, dt]
      rw [if_neg (by omega), List.drop_length]
      rfl

theorem find16_eq (l : List Sym) (s : Str) (hl : l.length ≤ 4611686018427387904) : rivetref16_Find.g l s = some ((findR s l).getD 0, (findR s l).isSome, ()) := by
  unfold rivetref16_Find.g rivetref16_Find.f
  have := find16_loop l s hl (1000 + l.length + s.length) (1000 + l.length + s.length) 0 (by omega) (by omega)
  rwa [List.drop_zero] at this

theorem findR_mem {s : Str} : ∀ {l : List Sym}, findR s l = none → s ∉ l.map (·.1)
  | [], _ => by simp
  | x :: l, h => by
    unfold findR at h
    split at h
    · cases h
    · rename_i hne
      simp only [List.map_cons, List.mem_cons, not_or]
      exact ⟨fun e => hne e.symm, findR_mem h⟩

/-- One name, made. -/
theorem fit15_name (s : Str) (hs : s.length ≤ 9223372036854775807) : ∃ nm, rivetref15_Fit.g [((1 : Int), 0, s, ())] = some ([((2 : Int), 0, nm, ())], ()) ∧ labelOk nm = true ∧ nm.length ≤ 8 ∧ nm ≠ [122, 122, 95, 122, 122] := by
  obtain ⟨nm, hr, hlab, hlen, hz⟩ := fit13_label (s.take (min s.length 6)) (by simp; omega)
  refine ⟨nm, ?_, hlab, hlen, hz (by simp; omega)⟩
  have e1 : (mn (s.length : Int) 6) = ((min s.length 6 : Nat) : Int) := by unfold mn; split <;> omega
  have e2 : (s.take (mn (s.length : Int) 6).toNat).drop 0 = s.take (min s.length 6) := by rw [e1, Int.toNat_natCast, List.drop_zero]
  have hk : IntKind.i64.wrap (1 + Int.tmod (IntKind.i64.wrap (Int.tmod 1 6 + 6)) 6) = 2 := by decide +kernel
  have hlast : ∀ n m : Nat, rivetref15_Fit.l4 n (m + 1) [((1 : Int), 0, s, ())] [((2 : Int), 0, nm, ())] 1 ((1 : Nat) : Int) = rivetref15_Fit.j19 n [((2 : Int), 0, nm, ())] 1 := fun n m => by
    simp only [rivetref15_Fit.l4, dt]
    rw [if_neg (by simp)]
  have gen : ∀ k m : Nat, rivetref15_Fit.l4 (k + 1) (m + 1 + 1) [((1 : Int), 0, s, ())] [] 0 ((0 : Nat) : Int) = some ([((2 : Int), 0, nm, ())], ()) := fun k m => by
    have hp := fit15_push (k + 1) (rivetref15_Fit.l4 (k + 1) (m + 1)) [((1 : Int), 0, s, ())] [] (IntKind.i64.wrap (0 + 1)) 0 (by omega) rfl ((2 : Int), 0, nm, ())
    have h0 : ([((1 : Int), 0, s, ())] : List Item).getD ((0 : Nat) : Int).toNat ((0 : Int), ((0 : Int), (([] : Str), ()))) = ((1 : Int), 0, s, ()) := rfl
    rw [rivetref15_Fit.l4]
    simp only [dt, df, h0, hk]
    rw [if_pos (by simp), if_pos (by decide), if_pos (by simp), if_neg (by decide), if_neg (by decide)]
    unfold rivetref15_Fit.j9
    simp only [dt, h0]
    rw [if_neg (by decide), if_pos trivial, if_pos (by simp), if_pos (by simp), if_pos (by rw [e1]; omega), e2, hr, Option.bind_some]
    dsimp only
    rw [hp, show IntKind.i64.wrap (0 + 1) = 1 by decide +kernel, List.nil_append, show ((0 + 1 : Nat) : Int) = ((1 : Nat) : Int) from rfl, hlast]
    unfold rivetref15_Fit.j19
    simp only [dt]
    rw [if_neg (by decide), rivetref15_Fit.l21]
    simp only [dt]
    rw [if_neg (by decide)]
  exact gen 1000 999

end Rv
