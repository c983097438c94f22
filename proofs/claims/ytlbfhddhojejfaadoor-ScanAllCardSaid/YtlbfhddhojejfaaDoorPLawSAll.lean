/- ScanAll: the plain law. -/
import Derived.Test.YtlbfhddhojejfaaDoorPRef14
set_option linter.all false
namespace Rv
open Go

abbrev TokA := Int × Int × Str × Int × Unit
abbrev dTokA : TokA := ((0 : Int), ((0 : Int), (([] : Str), ((0 : Int), ()))))

theorem jlen_app : ∀ a b : List TokA, L.joinR (a ++ b) = L.joinR a ++ L.joinR b
  | [], b => rfl
  | t :: a, b => by simp only [List.cons_append, L.joinR]; rw [jlen_app a b, ← List.append_assoc]

theorem short_loop (l : List TokA) (hl : l.length ≤ 9223372036854775807) (hw : ∀ t ∈ l, t.2.2.1.length ≤ 9223372036854775807) (n : Nat) : ∀ (m i : Nat) (out : List TokA), i ≤ l.length → i ≤ 30 → 30 - i < m → out.length = i → (L.joinR out).length ≤ 22 * i →
    ∃ r, rivetlaw14_short.l3 n m l out (i : Int) = some (r, ()) ∧ r.length ≤ 30 ∧ (L.joinR r).length ≤ 660 := by
  intro m
  induction m with
  | zero => intro i out _ _ h; omega
  | succ m ih =>
    intro i out hi h30 hm ho hj
    rw [rivetlaw14_short.l3]
    simp only [dt, Int.toNat_natCast]
    by_cases h1 : i < l.length
    · by_cases h2 : i < 30
      · have hmem : l.getD i dTokA ∈ l := by
          rw [List.getD_eq_getElem?_getD, List.getElem?_eq_getElem h1]; exact List.getElem_mem h1
        have hlen := hw _ hmem
        rw [if_pos (by omega), if_pos (by omega), if_pos (by omega)]
        generalize l.getD i dTokA = t at hlen ⊢
        have e1 : mn (t.2.2.1.length : Int) 20 = ((min t.2.2.1.length 20 : Nat) : Int) := by unfold mn; split <;> omega
        rw [if_pos (by rw [e1]; omega), if_pos (by simp; omega), e1, Int.toNat_natCast, List.drop_zero, w64 (by omega)]
        refine ih (i + 1) _ (by omega) (by omega) (by omega) (by simp [ho]) ?_
        rw [jlen_app, List.length_append]
        have : (L.joinR [(t.1, t.2.1, t.2.2.1.take (min t.2.2.1.length 20), t.2.2.2.1, ())]).length ≤ 22 := by
          simp only [L.joinR, List.append_nil, List.length_append, List.length_take, List.length_cons, List.length_nil]
          split <;> simp <;> omega
        omega
      · rw [if_pos (by omega), if_neg (by omega)]
        exact ⟨out, rfl, by omega, by omega⟩
    · rw [if_neg (by omega)]
      exact ⟨out, rfl, by omega, by omega⟩

theorem rjoin_loop (l : List TokA) (hl : l.length ≤ 1000) (n : Nat) : ∀ (m i : Nat) (out : Str), i ≤ l.length → l.length - i < m → out.length + (L.joinR (l.drop i)).length ≤ 1000000 →
    rivetref14_Join.l3 n m l out (i : Int) = some (out ++ L.joinR (l.drop i), ()) := by
  intro m
  induction m with
  | zero => intro i out _ h; omega
  | succ m ih =>
    intro i out hi hm hj
    rw [rivetref14_Join.l3]
    simp only [dt, rivetref14_Join.j7, Int.toNat_natCast]
    by_cases h1 : i < l.length
    · have hx : l.drop i = l.getD i dTokA :: l.drop (i + 1) := by
        rw [List.drop_eq_getElem_cons h1, List.getD_eq_getElem?_getD, List.getElem?_eq_getElem h1]; rfl
      rw [hx] at hj ⊢
      rw [if_pos (by omega), if_pos (by omega)]
      generalize l.getD i dTokA = t at hj ⊢
      have hjr : L.joinR (t :: l.drop (i + 1)) = ((if t.1 = 4 then [46] else []) ++ t.2.2.1 ++ [32]) ++ L.joinR (l.drop (i + 1)) := rfl
      rw [hjr] at hj ⊢
      have w1 : IntKind.i64.wrap ((i : Int) + 1) = ((i + 1 : Nat) : Int) := by rw [w64 (by omega)]; omega
      by_cases h4 : t.1 = 4
      · rw [if_pos h4] at hj ⊢
        rw [if_pos h4]
        simp only [List.length_append, List.length_cons, List.length_nil] at hj
        rw [if_pos (by simp; omega), if_pos (by simp; omega), if_pos (by simp; omega), if_pos (by simp; omega), w1, ih (i + 1) _ (by omega) (by omega) (by simp; omega)]
        simp
      · rw [if_neg h4] at hj ⊢
        rw [if_neg h4]
        simp only [List.length_append, List.length_cons, List.length_nil] at hj
        rw [if_pos (by omega), if_pos (by omega), if_pos (by simp; omega), w1, ih (i + 1) _ (by omega) (by omega) (by simp; omega)]
        simp
    · have : i = l.length := by omega
      subst this
      rw [if_neg (by omega), List.drop_length]
      simp [L.joinR]

theorem sall_law (s : Str) (l : List TokA) (hs : s.length ≤ 9223372036854775807) (hl : l.length ≤ 9223372036854775807) (hw : ∀ t ∈ l, t.2.2.1.length ≤ 9223372036854775807) : rivetlaw14_ScanAll.g s l = some (true, ()) := by
  unfold rivetlaw14_ScanAll.g rivetlaw14_ScanAll.f
  rw [shown_eq, Option.bind_some, few_eq s hs, Option.bind_some]
  dsimp only
  have hw100 : (s.take 100).length ≤ 100 := by simp; omega
  rw [line_eq _ (by omega), Option.bind_some, Option.bind_some]
  dsimp only
  rw [rline_eq _ (by omega), Option.bind_some]
  have hlen := lineOut_len (k := 0) (s := s.take 100)
  rw [same_eq _ _ (by omega), Option.bind_some]
  obtain ⟨r, hr, hr30, hrj⟩ := short_loop l hl hw (1000 + l.length) (1000 + l.length) 0 [] (by omega) (by omega) (by omega) rfl (by simp [L.joinR])
  have hsh : rivetlaw14_short.g l = some (r, ()) := hr
  have hj : L.joinO r = some (L.joinR r, ()) := by unfold L.joinO; rw [if_pos (by omega)]
  have hrj2 : rivetref14_Join.g r = some (L.joinR r, ()) := by
    unfold rivetref14_Join.g rivetref14_Join.f
    have := rjoin_loop r (by omega) (1000 + r.length) (1000 + r.length) 0 [] (by omega) (by omega) (by simp; omega)
    rw [List.drop_zero, List.nil_append] at this
    exact this
  rw [hsh, Option.bind_some]
  dsimp only
  rw [hj, Option.bind_some, Option.bind_some, hrj2, Option.bind_some]
  simp

theorem sall_wf {s : Str} {l : List TokA} (h : s.length ≤ maxLen ∧ (l.length ≤ maxLen ∧ ∀ t ∈ l, (Lit.int .i64 t.1).wf = true ∧ (Lit.int .i64 t.2.1).wf = true ∧ t.2.2.1.length ≤ maxLen ∧ (Lit.int .u32 t.2.2.2.1).wf = true ∧ True) ∧ True) : rivetlaw14_ScanAll.g s l = some (true, ()) :=
  sall_law s l (wfLen h.1) (wfLen h.2.1.1) (fun t ht => wfLen (h.2.1.2 t ht).2.2.1)

end Rv
