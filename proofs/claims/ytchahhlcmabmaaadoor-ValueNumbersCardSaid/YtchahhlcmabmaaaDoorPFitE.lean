/- Expressions that are made. -/
import Derived.Test.YtchahhlcmabmaaaDoorPValueN
import Derived.Test.YtchahhlcmabmaaaDoorPFitL
set_option linter.all false
namespace Rv
open Go

/-- What is known of a made expression's items. -/
def goodItem (x : Item) : Prop := 0 ≤ x.2.1 ∧ x.2.1 ≤ 4294967295 ∧ (needsR x).2 = true

theorem fit15_end (n : Nat) : ∀ (m : Nat) (out : List Item) (t : Int), enough 0 out = some t → 1 ≤ t → t ≤ 10 → out.length + t ≤ 20 → t.toNat < m → (∀ x ∈ out, goodItem x) →
    ∃ r, rivetref15_Fit.l21 n m out t = some (r, ()) ∧ wellL r ∧ r.length ≤ 19 ∧ ∀ x ∈ r, goodItem x := by
  intro m
  induction m with
  | zero => intro out t _ _ _ _ h; omega
  | succ m ih =>
    intro out t he h1 h10 hl hm hg
    simp only [rivetref15_Fit.l21, dt]
    by_cases h2 : 1 < t
    · rw [if_pos h2, if_pos (by simp; omega), w64 (by omega)]
      refine ih _ (t - 1) ?_ (by omega) (by omega) (by simp; omega) (by omega) ?_
      · rw [enough_app, he, Option.bind_some]
        have e0 : needsR ((4 : Int), 0, ([] : Str), ()) = (2, true) := rfl
        simp only [enough, e0]
        rw [if_pos ⟨trivial, by omega⟩]
        congr 1
      · intro x hx
        rcases List.mem_append.1 hx with hx | hx
        · exact hg x hx
        · rw [List.mem_singleton] at hx
          subst hx
          exact ⟨by decide, by decide, rfl⟩
    · rw [if_neg h2]
      have : t = 1 := by omega
      subst this
      exact ⟨out, rfl, he, by omega, hg⟩

theorem enough_snoc {out : List Item} {t k : Int} {x : Item} (he : enough 0 out = some t) (hx : needsR x = (k, true)) (hk : ¬ t < k) : enough 0 (out ++ [x]) = some (t + (1 - k)) := by
  rw [enough_app, he, Option.bind_some]
  simp only [enough, hx]
  rw [if_pos ⟨trivial, hk⟩]

theorem fit15_after (n : Nat) (hn : 100 ≤ n) (out : List Item) (t : Int) (he : enough 0 out = some t) (h0 : 0 ≤ t) (h10 : t ≤ out.length) (hl : out.length ≤ 10) (hg : ∀ x ∈ out, goodItem x) :
    ∃ r, rivetref15_Fit.j19 n out t = some (r, ()) ∧ wellL r ∧ r.length ≤ 19 ∧ ∀ x ∈ r, goodItem x := by
  unfold rivetref15_Fit.j19
  simp only [dt]
  by_cases h : t = 0
  · rw [if_pos h]
    refine ⟨_, rfl, rfl, by simp, fun x hx => ?_⟩
    rw [List.mem_singleton] at hx
    subst hx
    exact ⟨by decide, by decide, rfl⟩
  · rw [if_neg h]
    exact fit15_end n n out t he (by omega) (by omega) (by omega) (by omega) hg

end Rv
