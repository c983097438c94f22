/- Labels: where one is. -/
import Derived.Test.YtchahhlcmabmaaaDoorPExpr
set_option linter.all false
namespace Rv
open Go

abbrev Sym := Str × Int × Unit

/-- Where a name stands. -/
def findR (s : Str) : List Sym → Option Int
  | [] => none
  | x :: r => if x.1 = s then some x.2.1 else findR s r

def findI (s : Str) : List Sym → Option Nat
  | [] => none
  | x :: r => if x.1 = s then some 0 else (findI s r).map (· + 1)

theorem index_loop (l : List Sym) (s : Str) (hl : l.length ≤ 4611686018427387904) (n : Nat) : ∀ (m i : Nat), i ≤ l.length → l.length - i < m →
    slices_IndexFunc_api_Sym_api_Sym_c41.l2 n m l (l.length : Int) (i : Int) s = some ((match findI s (l.drop i) with | some k => ((i + k : Nat) : Int) | none => -1), s, ()) := by
  intro m
  induction m with
  | zero => intro i _ h; omega
  | succ m ih =>
    intro i hi hm
    by_cases h1 : i < l.length
    · have hx : l.drop i = l.getD i (([] : Str), ((0 : Int), ())) :: l.drop (i + 1) := by
        rw [List.drop_eq_getElem_cons h1, List.getD_eq_getElem?_getD, List.getElem?_eq_getElem h1]; rfl
      rw [hx]
      simp only [slices_IndexFunc_api_Sym_api_Sym_c41.l2, dt, value_Find_1.g, value_Find_1.f, Option.bind_some]
      rw [if_pos (by omega), if_pos (by omega), Int.toNat_natCast]
      generalize l.getD i (([] : Str), ((0 : Int), ())) = x
      unfold findI
      by_cases h2 : x.1 = s
      · rw [if_pos h2, if_pos h2]; simp
      · rw [if_neg h2, if_neg h2, w64 (by omega), show (i : Int) + 1 = ((i + 1 : Nat) : Int) by omega, ih (i + 1) (by omega) (by omega)]
        cases findI s (l.drop (i + 1)) with
        | none => rfl
        | some k => simp only [Option.map_some]; rw [show i + 1 + k = i + (k + 1) by omega]
    · have hi' : i = l.length := by omega
      subst hi'
      simp only [slices_IndexFunc_api_Sym_api_Sym_c41.l2, dt]
      rw [if_neg (by omega), List.drop_length]
      rfl

theorem findI_some (s : Str) : ∀ {l : List Sym} {k : Nat}, findI s l = some k → k < l.length ∧ findR s l = some (l.getD k (([] : Str), ((0 : Int), ()))).2.1
  | [], _, h => by cases h
  | x :: r, k, h => by
    unfold findI at h
    unfold findR
    by_cases h2 : x.1 = s
    · rw [if_pos h2] at h ⊢
      cases h
      exact ⟨by simp, rfl⟩
    · rw [if_neg h2] at h ⊢
      obtain ⟨j, hj, rfl⟩ := Option.map_eq_some_iff.1 h
      obtain ⟨h3, h4⟩ := findI_some s hj
      exact ⟨by simp; omega, by rw [h4]; rfl⟩

theorem findI_none (s : Str) : ∀ {l : List Sym}, findI s l = none → findR s l = none
  | [], _ => rfl
  | x :: r, h => by
    unfold findI at h
    unfold findR
    by_cases h2 : x.1 = s
    · rw [if_pos h2] at h; cases h
    · rw [if_neg h2] at h ⊢
      exact findI_none s (Option.map_eq_none_iff.1 h)

theorem find_eq (l : List Sym) (s : Str) (hl : l.length ≤ 4611686018427387904) : value_Find.g l s = some ((findR s l).getD 0, (findR s l).isSome, ()) := by
  unfold value_Find.g value_Find.f slices_IndexFunc_api_Sym_api_Sym_c41.g slices_IndexFunc_api_Sym_api_Sym_c41.f
  rw [show (0 : Int) = ((0 : Nat) : Int) from rfl, index_loop l s hl _ _ 0 (by omega) (by omega), Option.bind_some, List.drop_zero]
  dsimp only
  cases h : findI s l with
  | none =>
    rw [findI_none s h]
    rfl
  | some k =>
    obtain ⟨h1, h2⟩ := findI_some s h
    rw [h2]
    simp only [dt]
    rw [if_neg (by omega), if_pos (by omega)]
    simp

end Rv
