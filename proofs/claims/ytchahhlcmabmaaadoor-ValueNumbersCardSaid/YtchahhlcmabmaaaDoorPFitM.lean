/- The loop of Fit. -/
import Derived.Test.YtchahhlcmabmaaaDoorPFitK
set_option linter.all false
namespace Rv
open Go

/-- What is asked of the items: names that are no longer than may be, numbers of 32 bits. -/
def wfItems (l : List Item) : Prop := ∀ x ∈ l, 0 ≤ x.2.1 ∧ x.2.1 ≤ 4294967295 ∧ x.2.2.1.length ≤ 9223372036854775807

theorem fit15_push (n : Nat) (rl) (l out : List Item) (t : Int) (i : Nat) (hi : i < 10) (hlen : out.length = i) (x : Item) :
    rivetref15_Fit.j18 n rl l out t (i : Int) x.1 x.2.1 x.2.2.1 = rl l (out ++ [x]) t ((i + 1 : Nat) : Int) := by
  unfold rivetref15_Fit.j18
  rw [if_pos (by simp; omega), w64 (by omega)]
  rfl

theorem getD_mem {l : List Item} {i : Nat} (h : i < l.length) (d : Item) : l.getD i d ∈ l := by
  rw [List.getD_eq_getElem?_getD, List.getElem?_eq_getElem h]; exact List.getElem_mem h

theorem fit15_j9 (n : Nat) (rl) (l out : List Item) (t : Int) (i : Nat) (hi : i < 10) (hil : i < l.length) (hlen : out.length = i) (ht : 0 ≤ t ∧ t ≤ i) (hw : wfItems l) (K : Int) (hK : 1 ≤ K ∧ K ≤ 6) (h3 : K = 3 → 1 ≤ t) (h4 : 4 ≤ K → 2 ≤ t) :
    ∃ x k, needsR x = (k, true) ∧ ¬ t < k ∧ goodItem x ∧ rivetref15_Fit.j9 n rl l out t (i : Int) K 0 ([] : Str) = rl l (out ++ [x]) (t + (1 - k)) ((i + 1 : Nat) : Int) := by
  have hx := hw _ (getD_mem hil ((0 : Int), ((0 : Int), (([] : Str), ()))))
  unfold rivetref15_Fit.j9
  simp only [dt, Int.toNat_natCast]
  generalize l.getD i ((0 : Int), ((0 : Int), (([] : Str), ()))) = y at hx ⊢
  obtain ⟨hy0, hy1, hy2⟩ := hx
  by_cases k1 : K = 1
  · subst k1
    rw [if_pos rfl, if_pos (by omega), w64 (by omega)]
    refine ⟨((1 : Int), y.2.1, ([] : Str), ()), 0, rfl, by omega, ⟨hy0, hy1, rfl⟩, ?_⟩
    exact fit15_push n rl l out _ i hi hlen ((1 : Int), y.2.1, ([] : Str), ())
  · rw [if_neg k1]
    by_cases k2 : K = 2
    · subst k2
      have e1 : (mn (y.2.2.1.length : Int) 6) = ((min y.2.2.1.length 6 : Nat) : Int) := by unfold mn; split <;> omega
      obtain ⟨r, hr, hlab, _⟩ := fit13_label (y.2.2.1.take (min y.2.2.1.length 6)) (by simp; omega)
      have e2 : (y.2.2.1.take (mn (y.2.2.1.length : Int) 6).toNat).drop 0 = y.2.2.1.take (min y.2.2.1.length 6) := by rw [e1, Int.toNat_natCast, List.drop_zero]
      rw [if_pos rfl, if_pos (by omega), if_pos (by omega), if_pos (by rw [e1]; omega), e2, hr, Option.bind_some, w64 (by omega)]
      have hn : needsR ((2 : Int), 0, r, ()) = (0, true) := by
        unfold needsR
        simp [hlab]
      refine ⟨((2 : Int), 0, r, ()), 0, hn, by omega, ⟨Int.le_refl 0, (by decide : (0 : Int) ≤ 4294967295), by rw [hn]⟩, ?_⟩
      exact fit15_push n rl l out _ i hi hlen ((2 : Int), 0, r, ())
    · rw [if_neg k2]
      by_cases k3 : K = 3
      · subst k3
        rw [if_pos rfl]
        refine ⟨((3 : Int), 0, ([] : Str), ()), 1, rfl, by have := h3 rfl; omega, ⟨by decide, by decide, rfl⟩, ?_⟩
        rw [show t + (1 - 1) = t by omega]
        exact fit15_push n rl l out _ i hi hlen ((3 : Int), 0, ([] : Str), ())
      · rw [if_neg k3, w64 (by omega)]
        have hn : needsR (K, 0, ([] : Str), ()) = (2, true) := by
          unfold needsR
          have : K = 4 ∨ K = 5 ∨ K = 6 := by omega
          simp [k1, k2, k3, this]
        refine ⟨(K, 0, ([] : Str), ()), 2, hn, by have := h4 (by omega); omega, ⟨Int.le_refl 0, (by decide : (0 : Int) ≤ 4294967295), by rw [hn]⟩, ?_⟩
        rw [show t + (1 - 2) = t - 1 by omega]
        exact fit15_push n rl l out _ i hi hlen (K, 0, ([] : Str), ())

theorem fit15_loop (l : List Item) (hl : l.length ≤ 9223372036854775807) (hw : wfItems l) (n : Nat) (hn : 100 ≤ n) : ∀ (m i : Nat) (out : List Item) (t : Int), i ≤ l.length → i ≤ 10 → 10 - i < m → out.length = i → enough 0 out = some t → 0 ≤ t → t ≤ i → (∀ x ∈ out, goodItem x) →
    ∃ r, rivetref15_Fit.l4 n m l out t (i : Int) = some (r, ()) ∧ wellL r ∧ r.length ≤ 19 ∧ ∀ x ∈ r, goodItem x := by
  intro m
  induction m with
  | zero => intro i out t _ _ h; omega
  | succ m ih =>
    intro i out t hi hi10 hm hlen he h0 ht hg
    have fin := fit15_after n hn out t he h0 (by omega) (by omega) hg
    simp only [rivetref15_Fit.l4, dt, df, Int.toNat_natCast]
    by_cases h1 : i < l.length
    · rw [if_pos (show (i : Int) < l.length by omega)]
      by_cases h2 : i < 10
      · rw [if_pos (show (i : Int) < 10 by omega), if_pos (by omega)]
        have hkk : IntKind.i64.wrap (1 + Int.tmod (IntKind.i64.wrap (Int.tmod (l.getD i ((0 : Int), ((0 : Int), (([] : Str), ())))).1 6 + 6)) 6) = kindOf (l.getD i ((0 : Int), ((0 : Int), (([] : Str), ())))).1 := rfl
        rw [hkk]
        have hK := kindOf_range (l.getD i ((0 : Int), ((0 : Int), (([] : Str), ())))).1
        generalize kindOf (l.getD i ((0 : Int), ((0 : Int), (([] : Str), ())))).1 = K at *
        have go : ∀ K : Int, 1 ≤ K ∧ K ≤ 6 → (K = 3 → 1 ≤ t) → (4 ≤ K → 2 ≤ t) → ∃ r, rivetref15_Fit.j9 n (rivetref15_Fit.l4 n m) l out t (i : Int) K 0 ([] : Str) = some (r, ()) ∧ wellL r ∧ r.length ≤ 19 ∧ ∀ x ∈ r, goodItem x := fun K hK h3 h4 => by
          obtain ⟨x, k, hx, hk, hgx, heq⟩ := fit15_j9 n (rivetref15_Fit.l4 n m) l out t i h2 h1 hlen ⟨h0, ht⟩ hw K hK h3 h4
          rw [heq]
          have hr := needs_range x
          rw [hx] at hr
          refine ih (i + 1) (out ++ [x]) (t + (1 - k)) (by omega) (by omega) (by omega) (by simp [hlen]) (enough_snoc he hx hk) (by simp at hr; omega) (by simp at hr; omega) fun y hy => ?_
          rcases List.mem_append.1 hy with hy | hy
          · exact hg y hy
          · rw [List.mem_singleton] at hy; subst hy; exact hgx
        by_cases k3 : K = 3
        · rw [if_pos k3]
          by_cases t1 : t < 1
          · rw [if_neg (by omega)]
            exact go 1 (by omega) (by omega) (by omega)
          · rw [if_pos t1]
            by_cases k4 : 3 < K
            · omega
            · rw [if_neg k4]
              exact go K hK (by omega) (by omega)
        · rw [if_neg k3]
          by_cases k4 : 3 < K
          · rw [if_pos k4]
            by_cases t2 : t < 2
            · rw [if_pos t2]
              exact go 1 (by omega) (by omega) (by omega)
            · rw [if_neg t2]
              exact go K hK (by omega) (by omega)
          · rw [if_neg k4]
            exact go K hK (by omega) (by omega)
      · rw [if_neg (by omega)]
        exact fin
    · rw [if_neg (by omega)]
      exact fin

/-- What Fit makes is an expression. -/
theorem fit15_eq (l : List Item) (hl : l.length ≤ 9223372036854775807) (hw : wfItems l) : ∃ r, rivetref15_Fit.g l = some (r, ()) ∧ wellL r ∧ r.length ≤ 19 ∧ ∀ x ∈ r, goodItem x := by
  unfold rivetref15_Fit.g rivetref15_Fit.f
  exact fit15_loop l hl hw _ (by omega) _ 0 [] 0 (by omega) (by omega) (by omega) rfl rfl (by omega) (by omega) (fun x hx => by cases hx)

end Rv
