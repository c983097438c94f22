/- Expressions: made, printed, scanned and parsed. -/
import Derived.Test.YtchahhlcmabmaaaDoorPPrint
import Derived.Test.YtchahhlcmabmaaaDoorPParseM
set_option linter.all false
namespace Rv
open Go

theorem shownE_eq : rivetlaw15_shown.g = some (true, ()) := by decide +kernel

theorem sameE_refl (a : List Item) (ha : a.length ≤ 1000) : rivetref15_Same.g a a = some (true, ()) := by
  have loop : ∀ (n m i : Nat), i ≤ a.length → a.length - i < m → rivetref15_Same.l4 n m a a (i : Int) = some (true, ()) := by
    intro n m
    induction m with
    | zero => intro i _ h; omega
    | succ m ih =>
      intro i hi hm
      rw [rivetref15_Same.l4]
      simp only [dt]
      by_cases h : i < a.length
      · rw [if_pos (by omega), if_pos (by omega), if_pos (by omega), if_neg (by simp), w64 (by omega)]
        exact ih (i + 1) (by omega) (by omega)
      · rw [if_neg (by omega)]
  unfold rivetref15_Same.g rivetref15_Same.f
  rw [if_neg (by simp)]
  exact loop _ _ 0 (by omega) (by omega)

/-- A text that is scanned, alone. -/
theorem scans_line {s : Str} {b : List Bt} (h : Scans s b) (hs : s.length ≤ 1000000) : ∃ ts : List TokL, ts.map bare = b ∧ scan_Line.g s = some (ts, 0, ()) := by
  obtain ⟨ts, h1, h2⟩ := h 0
  refine ⟨ts, h1, ?_⟩
  have := h2 [] (.inl rfl)
  rw [List.append_nil, lineR_nil] at this
  rw [line_eq s hs, this]
  simp [preE, lineOut]

theorem At.whole {ts : List TokL} {b : List Bt} (h : ts.map bare = b) : At ts 0 (b ++ []) := by
  unfold At
  rw [List.drop_zero, h, List.append_nil]

theorem noS_nil (all : List Str) : noS all [] := fun b r h => by cases h

/-- A made expression, as a tree. -/
theorem fit_tree (l : List Item) (hl : l.length ≤ 9223372036854775807) (hw : wfItems l) : ∃ t : Tr, rivetref15_Fit.g l = some (t.post, ()) ∧ t.ok ∧ t.plain ∧ wellL t.post ∧ t.post.length ≤ 19 := by
  obtain ⟨r, h1, h2, h3, h4⟩ := fit15_eq l hl hw
  obtain ⟨t, rfl, ho, hp⟩ := tree_of h2 h4
  exact ⟨t, h1, ho, hp, h2, h3⟩

end Rv
