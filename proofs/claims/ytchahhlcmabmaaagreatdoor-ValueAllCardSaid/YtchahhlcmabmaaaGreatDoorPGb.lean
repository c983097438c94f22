/- Plain texts: Names that are made are labels; Expressions that are made; Kinds, made of any number; The loop of Fit. -/
import Derived.Test.YtchahhlcmabmaaaGreatDoorPLabel
import Derived.Test.YtchahhlcmabmaaaGreatDoorPGa
set_option linter.all false
namespace Rv
open Go

theorem fit13_label (s : Str) (hs : s.length ≤ 9223372036854775807) : ∃ r, rivetref13_Fit.g s = some (r, ()) ∧ labelOk r = true ∧ r.length ≤ 8 ∧ (s.length ≤ 6 → r ≠ [122, 122, 95, 122, 122]) := by
  unfold rivetref13_Fit.g rivetref13_Fit.f
  obtain ⟨r, hr, ⟨c, t, rfl, ⟨hL, hne, hD⟩, hz⟩, ha, hl⟩ := fit07_eq' s hs
  rw [hr, Option.bind_some]
  simp only [dt]
  split
  · have e1 : mn ((c :: t).length : Int) 11 = (c :: t).length := by unfold mn; rw [if_neg (by omega)]
    rw [e1, if_pos (by omega)]
    simp only [Int.toNat_natCast, List.take_length, List.drop_zero]
    rw [if_pos (by simp at hl ⊢; omega)]
    refine ⟨_, rfl, ?_, by simp at hl ⊢; omega, fun _ e => by simp at e⟩
    unfold labelOk
    rw [List.all_append, ha]
    have h1 : ([95] ++ c :: t : Str).getD 0 0 = 95 := rfl
    have h2 : decide (([95] ++ c :: t : Str).length ≤ 12) = true := by rw [decide_eq_true_eq]; simp at hl ⊢; omega
    rw [h2]
    unfold regLike
    rw [h1]
    rfl
  · refine ⟨_, rfl, ?_, by omega, fun h6 e => hz h6 (by simp at e; exact e.1)⟩
    unfold labelOk
    have h1 : (c :: t : Str).getD 0 0 = c := rfl
    have h2 : decide ((c :: t : Str).length ≤ 12) = true := by rw [decide_eq_true_eq]; omega
    unfold regLike
    rw [h1, h2, hD, ha, decide_eq_false hne]
    rfl

end Rv

namespace Rv
open Go

/-- What is known of a made expression's items. -/
def goodItem (x : Item) : Prop := 0 ≤ x.2.1 ∧ x.2.1 ≤ 4294967295 ∧ (needsR x).2 = true

theorem fit15_end (n : Nat) : ∀ (m : Nat) (out : List Item) (t : Int), enough 0 out = some t → 1 ≤ t → t ≤ 10 → out.length + t ≤ 20 → t.toNat < m → (∀ x ∈ out, goodItem x) →
    ∃ r, rivetref15_Fit.l21 n m out t = some (r, ()) ∧ wellL r ∧ r.length ≤ 19 ∧ ∀ x ∈ r, goodItem x := by
  intro m
  induction m with
  | zero => intro out t _ _ _ _ h; omega
  | succ m ih =>
    intro out t he h1 h10 hl hm hg
    simp only [rivetref15_Fit.l21, dt]
    by_cases h2 : 1 < t
    · rw [if_pos h2, if_pos (by simp; omega), w64 (by omega)]
      refine ih _ (t - 1) ?_ (by omega) (by omega) (by simp; omega) (by omega) ?_
      · rw [enough_app, he, Option.bind_some]
        have e0 : needsR ((4 : Int), 0, ([] : Str), ()) = (2, true) := rfl
        simp only [enough, e0]
        rw [if_pos ⟨trivial, by omega⟩]
        congr 1
      · intro x hx
        rcases List.mem_append.1 hx with hx | hx
        · exact hg x hx
        · rw [List.mem_singleton] at hx
          subst hx
          exact ⟨by decide, by decide, rfl⟩
    · rw [if_neg h2]
      have : t = 1 := by omega
      subst this
      exact ⟨out, rfl, he, by omega, hg⟩

theorem enough_snoc {out : List Item} {t k : Int} {x : Item} (he : enough 0 out = some t) (hx : needsR x = (k, true)) (hk : ¬ t < k) : enough 0 (out ++ [x]) = some (t + (1 - k)) := by
  rw [enough_app, he, Option.bind_some]
  simp only [enough, hx]
  rw [if_pos ⟨trivial, hk⟩]

theorem fit15_after (n : Nat) (hn : 100 ≤ n) (out : List Item) (t : Int) (he : enough 0 out = some t) (h0 : 0 ≤ t) (h10 : t ≤ out.length) (hl : out.length ≤ 10) (hg : ∀ x ∈ out, goodItem x) :
    ∃ r, rivetref15_Fit.j19 n out t = some (r, ()) ∧ wellL r ∧ r.length ≤ 19 ∧ ∀ x ∈ r, goodItem x := by
  unfold rivetref15_Fit.j19
  simp only [dt]
  by_cases h : t = 0
  · rw [if_pos h]
    refine ⟨_, rfl, rfl, by simp, fun x hx => ?_⟩
    rw [List.mem_singleton] at hx
    subst hx
    exact ⟨by decide, by decide, rfl⟩
  · rw [if_neg h]
    exact fit15_end n n out t he (by omega) (by omega) (by omega) (by omega) hg

end Rv

namespace Rv
open Go

theorem tmod6 (k : Int) : -6 < Int.tmod k 6 ∧ Int.tmod k 6 < 6 := by
  by_cases h : 0 ≤ k
  · rw [Int.tmod_eq_emod_of_nonneg h]; omega
  · have : k = -(-k) := by omega
    rw [this, Int.neg_tmod, Int.tmod_eq_emod_of_nonneg (by omega)]; omega

/-- The kind that is made of a number. -/
def kindOf (k : Int) : Int := IntKind.i64.wrap (1 + Int.tmod (IntKind.i64.wrap (Int.tmod k 6 + 6)) 6)

theorem kindOf_range (k : Int) : 1 ≤ kindOf k ∧ kindOf k ≤ 6 := by
  unfold kindOf
  have h1 := tmod6 k
  rw [w64 (x := Int.tmod k 6 + 6) (by omega), Int.tmod_eq_emod_of_nonneg (show 0 ≤ Int.tmod k 6 + 6 by omega), w64 (by omega)]
  omega

end Rv

namespace Rv
open Go

/-- What is asked of the items: names that are no longer than may be, numbers of 32 bits. -/
def wfItems (l : List Item) : Prop := ∀ x ∈ l, 0 ≤ x.2.1 ∧ x.2.1 ≤ 4294967295 ∧ x.2.2.1.length ≤ 9223372036854775807

theorem fit15_push (n : Nat) (rl) (l out : List Item) (t : Int) (i : Nat) (hi : i < 10) (hlen : out.length = i) (x : Item) :
    rivetref15_Fit.j18 n rl l out t (i : Int) x.1 x.2.1 x.2.2.1 = rl l (out ++ [x]) t ((i + 1 : Nat) : Int) := by
  unfold rivetref15_Fit.j18
  rw [if_pos (by simp; omega), w64 (by omega)]
  rfl

theorem getD_mem {l : List Item} {i : Nat} (h : i < l.length) (d : Item) : l.getD i d ∈ l := by
  rw [List.getD_eq_getElem?_getD, List.getElem?_eq_getElem h]; exact List.getElem_mem h

theorem fit15_j9 (n : Nat) (rl) (l out : List Item) (t : Int) (i : Nat) (hi : i < 10) (hil : i < l.length) (hlen : out.length = i) (ht : 0 ≤ t ∧ t ≤ i) (hw : wfItems l) (K : Int) (hK : 1 ≤ K ∧ K ≤ 6) (h3 : K = 3 → 1 ≤ t) (h4 : 4 ≤ K → 2 ≤ t) :
    ∃ x k, needsR x = (k, true) ∧ ¬ t < k ∧ goodItem x ∧ rivetref15_Fit.j9 n rl l out t (i : Int) K 0 ([] : Str) = rl l (out ++ [x]) (t + (1 - k)) ((i + 1 : Nat) : Int) := by
  have hx := hw _ (getD_mem hil ((0 : Int), ((0 : Int), (([] : Str), ()))))
  unfold rivetref15_Fit.j9
  simp only [dt, Int.toNat_natCast]
  generalize l.getD i ((0 : Int), ((0 : Int), (([] : Str), ()))) = y at hx ⊢
  obtain ⟨hy0, hy1, hy2⟩ := hx
  by_cases k1 : K = 1
  · subst k1
    rw [if_pos rfl, if_pos (by omega), w64 (by omega)]
    refine ⟨((1 : Int), y.2.1, ([] : Str), ()), 0, rfl, by omega, ⟨hy0, hy1, rfl⟩, ?_⟩
    exact fit15_push n rl l out _ i hi hlen ((1 : Int), y.2.1, ([] : Str), ())
  · rw [if_neg k1]
    by_cases k2 : K = 2
    · subst k2
      have e1 : (mn (y.2.2.1.length : Int) 6) = ((min y.2.2.1.length 6 : Nat) : Int) := by unfold mn; split <;> omega
      obtain ⟨r, hr, hlab, _⟩ := fit13_label (y.2.2.1.take (min y.2.2.1.length 6)) (by simp; omega)
      have e2 : (y.2.2.1.take (mn (y.2.2.1.length : Int) 6).toNat).drop 0 = y.2.2.1.take (min y.2.2.1.length 6) := by rw [e1, Int.toNat_natCast, List.drop_zero]
      rw [if_pos rfl, if_pos (by omega), if_pos (by omega), if_pos (by rw [e1]; omega), e2, hr, Option.bind_some, w64 (by omega)]
      have hn : needsR ((2 : Int), 0, r, ()) = (0, true) := by
        unfold needsR
        simp [hlab]
      refine ⟨((2 : Int), 0, r, ()), 0, hn, by omega, ⟨Int.le_refl 0, (by decide : (0 : Int) ≤ 4294967295), by rw [hn]⟩, ?_⟩
      exact fit15_push n rl l out _ i hi hlen ((2 : Int), 0, r, ())
    · rw [if_neg k2]
      by_cases k3 : K = 3
      · subst k3
        rw [if_pos rfl]
        refine ⟨((3 : Int), 0, ([] : Str), ()), 1, rfl, by have := h3 rfl; omega, ⟨by decide, by decide, rfl⟩, ?_⟩
        rw [show t + (1 - 1) = t by omega]
        exact fit15_push n rl l out _ i hi hlen ((3 : Int), 0, ([] : Str), ())
      · rw [if_neg k3, w64 (by omega)]
        have hn : needsR (K, 0, ([] : Str), ()) = (2, true) := by
          unfold needsR
          have : K = 4 ∨ K = 5 ∨ K = 6 := by omega
          simp [k1, k2, k3, this]
        refine ⟨(K, 0, ([] : Str), ()), 2, hn, by have := h4 (by omega); omega, ⟨Int.le_refl 0, (by decide : (0 : Int) ≤ 4294967295), by rw [hn]⟩, ?_⟩
        rw [show t + (1 - 2) = t - 1 by omega]
        exact fit15_push n rl l out _ i hi hlen (K, 0, ([] : Str), ())

theorem fit15_loop (l : List Item) (hl : l.length ≤ 9223372036854775807) (hw : wfItems l) (n : Nat) (hn : 100 ≤ n) : ∀ (m i : Nat) (out : List Item) (t : Int), i ≤ l.length → i ≤ 10 → 10 - i < m → out.length = i → enough 0 out = some t → 0 ≤ t → t ≤ i → (∀ x ∈ out, goodItem x) →
    ∃ r, rivetref15_Fit.l4 n m l out t (i : Int) = some (r, ()) ∧ wellL r ∧ r.length ≤ 19 ∧ ∀ x ∈ r, goodItem x := by
  intro m
  induction m with
  | zero => intro i out t _ _ h; omega
  | succ m ih =>
    intro i out t hi hi10 hm hlen he h0 ht hg
    have fin := fit15_after n hn out t he h0 (by omega) (by omega) hg
    simp only [rivetref15_Fit.l4, dt, df, Int.toNat_natCast]
    by_cases h1 : i < l.length
    · rw [if_pos (show (i : Int) < l.length by omega)]
      by_cases h2 : i < 10
      · rw [if_pos (show (i : Int) < 10 by omega), if_pos (by omega)]
        have hkk : IntKind.i64.wrap (1 + Int.tmod (IntKind.i64.wrap (Int.tmod (l.getD i ((0 : Int), ((0 : Int), (([] : Str), ())))).1 6 + 6)) 6) = kindOf (l.getD i ((0 : Int), ((0 : Int), (([] : Str), ())))).1 := rfl
        rw [hkk]
        have hK := kindOf_range (l.getD i ((0 : Int), ((0 : Int), (([] : Str), ())))).1
        generalize kindOf (l.getD i ((0 : Int), ((0 : Int), (([] : Str), ())))).1 = K at *
        have go : ∀ K : Int, 1 ≤ K ∧ K ≤ 6 → (K = 3 → 1 ≤ t) → (4 ≤ K → 2 ≤ t) → ∃ r, rivetref15_Fit.j9 n (rivetref15_Fit.l4 n m) l out t (i : Int) K 0 ([] : Str) = some (r, ()) ∧ wellL r ∧ r.length ≤ 19 ∧ ∀ x ∈ r, goodItem x := fun K hK h3 h4 => by
          obtain ⟨x, k, hx, hk, hgx, heq⟩ := fit15_j9 n (rivetref15_Fit.l4 n m) l out t i h2 h1 hlen ⟨h0, ht⟩ hw K hK h3 h4
          rw [heq]
          have hr := needs_range x
          rw [hx] at hr
          refine ih (i + 1) (out ++ [x]) (t + (1 - k)) (by omega) (by omega) (by omega) (by simp [hlen]) (enough_snoc he hx hk) (by simp at hr; omega) (by simp at hr; omega) fun y hy => ?_
          rcases List.mem_append.1 hy with hy | hy
          · exact hg y hy
          · rw [List.mem_singleton] at hy; subst hy; exact hgx
        by_cases k3 : K = 3
        · rw [if_pos k3]
          by_cases t1 : t < 1
          · rw [if_neg (by omega)]
            exact go 1 (by omega) (by omega) (by omega)
          · rw [if_pos t1]
            by_cases k4 : 3 < K
            · omega
            · rw [if_neg k4]
              exact go K hK (by omega) (by omega)
        · rw [if_neg k3]
          by_cases k4 : 3 < K
          · rw [if_pos k4]
            by_cases t2 : t < 2
            · rw [if_pos t2]
              exact go 1 (by omega) (by omega) (by omega)
            · rw [if_neg t2]
              exact go K hK (by omega) (by omega)
          · rw [if_neg k4]
            exact go K hK (by omega) (by omega)
      · rw [if_neg (by omega)]
        exact fin
    · rw [if_neg (by omega)]
      exact fin

/-- What Fit makes is an expression. -/
theorem fit15_eq (l : List Item) (hl : l.length ≤ 9223372036854775807) (hw : wfItems l) : ∃ r, rivetref15_Fit.g l = some (r, ()) ∧ wellL r ∧ r.length ≤ 19 ∧ ∀ x ∈ r, goodItem x := by
  unfold rivetref15_Fit.g rivetref15_Fit.f
  exact fit15_loop l hl hw _ (by omega) _ 0 [] 0 (by omega) (by omega) (by omega) rfl rfl (by omega) (by omega) (fun x hx => by cases hx)

end Rv
