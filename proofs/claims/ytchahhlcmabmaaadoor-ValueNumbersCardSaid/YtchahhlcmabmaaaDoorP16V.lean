/- What value.Of tells, by what the items come to. -/
import Derived.Test.YtchahhlcmabmaaaDoorP16
set_option linter.all false
namespace Rv
open Go

theorem val_err (labels : List Sym) (hlab : labels.length ≤ 4611686018427387904) {e : List Item} (h : wellL e) (hl : e.length ≤ 64) {x : Int} (hr : runR labels [] e = .error x) : value_Of.g e labels = some (0, 0, x, ()) := by
  rw [of_eq labels hlab e (by omega)]
  rcases of_well labels h hl with ⟨y, h1, h2⟩ | ⟨v, h1, h2⟩
  · rw [hr] at h1; cases h1; exact h2
  · rw [hr] at h1; cases h1

theorem val_ok (labels : List Sym) (hlab : labels.length ≤ 4611686018427387904) {e : List Item} (h : wellL e) (hl : e.length ≤ 64) {v : Val} (hr : runR labels [] e = .ok [v]) : value_Of.g e labels = some (v.1, v.2.1, 0, ()) := by
  rw [of_eq labels hlab e (by omega)]
  rcases of_well labels h hl with ⟨y, h1, h2⟩ | ⟨v', h1, h2⟩
  · rw [hr] at h1; cases h1
  · rw [hr] at h1; cases h1; exact h2

/-- Both ways of an expression's value. -/
theorem run_ways (labels : List Sym) {e : List Item} (h : wellL e) (hg : ∀ x ∈ e, goodItem x) : (∃ x, x ≠ 0 ∧ runR labels [] e = .error x) ∨ ∃ v, okV v ∧ runR labels [] e = .ok [v] := by
  rcases run_well labels h with ⟨x, hx⟩ | ⟨v, hv⟩
  · exact .inl ⟨x, run_err hx, hx⟩
  · exact .inr ⟨v, run_okV (fun x hx => ⟨(hg x hx).1, (hg x hx).2.1⟩) (fun u hu => by cases hu) hv v (by simp), hv⟩

abbrev iAdd : Item := (4, 0, [], ())
abbrev iSub : Item := (5, 0, [], ())
abbrev iMul : Item := (6, 0, [], ())
abbrev iNeg : Item := (3, 0, [], ())

end Rv
