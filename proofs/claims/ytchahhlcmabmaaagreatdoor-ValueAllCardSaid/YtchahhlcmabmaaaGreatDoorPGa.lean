/- Plain texts: Expressions: which items are one; Labels: where one is; What expressions come to; The loop of value.Of; Values of expressions, put together; Values of expressions: parts of an expression. -/
import Derived.Test.YtchahhlcmabmaaaGreatDoorPLabel
set_option linter.all false
namespace Rv
open Go

abbrev Item := Int × Int × Str × Unit

/-- How many an item works on; may it be? -/
def needsR (x : Item) : Int × Bool :=
  if x.1 = 1 then (0, decide (x.2.2.1 = []))
  else if x.1 = 2 then (0, decide (x.2.1 = 0) && labelOk x.2.2.1)
  else if x.1 = 3 then (1, decide (x.2.1 = 0) && decide (x.2.2.1 = []))
  else if x.1 = 4 ∨ x.1 = 5 ∨ x.1 = 6 then (2, decide (x.2.1 = 0) && decide (x.2.2.1 = []))
  else (0, false)

theorem needs_eq (a b : Int) (c : Str) : expr_needs.g a b c = some ((needsR (a, b, c, ())).1, (needsR (a, b, c, ())).2, ()) := by
  unfold expr_needs.g expr_needs.f
  simp only [expr_needs.j2, dt, label_eq, Option.bind_some]
  unfold needsR
  dsimp only
  rcases propTF (b = 0) with hb | hb
  all_goals
    by_cases h1 : a = 1
    · subst h1; simp only [hb, if_true, if_false, decide_true, decide_false]
    by_cases h2 : a = 2
    · subst h2; simp only [hb, if_true, if_false, decide_true, decide_false, Bool.true_and, Bool.false_and, show ¬ ((2 : Int) = 1) by decide]
    by_cases h3 : a = 3
    · subst h3; simp only [hb, if_true, if_false, decide_true, decide_false, Bool.true_and, Bool.false_and, show ¬ ((3 : Int) = 1) by decide, show ¬ ((3 : Int) = 2) by decide]
    by_cases h4 : a = 4
    · subst h4; simp only [hb, if_true, if_false, decide_true, decide_false, Bool.true_and, Bool.false_and, true_or, show ¬ ((4 : Int) = 1) by decide, show ¬ ((4 : Int) = 2) by decide, show ¬ ((4 : Int) = 3) by decide]
    by_cases h5 : a = 5
    · subst h5; simp only [hb, if_true, if_false, decide_true, decide_false, Bool.true_and, Bool.false_and, true_or, or_true, show ¬ ((5 : Int) = 1) by decide, show ¬ ((5 : Int) = 2) by decide, show ¬ ((5 : Int) = 3) by decide, show ¬ ((5 : Int) = 4) by decide]
    by_cases h6 : a = 6
    · subst h6; simp only [hb, if_true, if_false, decide_true, decide_false, Bool.true_and, Bool.false_and, true_or, or_true, show ¬ ((6 : Int) = 1) by decide, show ¬ ((6 : Int) = 2) by decide, show ¬ ((6 : Int) = 3) by decide, show ¬ ((6 : Int) = 4) by decide, show ¬ ((6 : Int) = 5) by decide]
    simp only [hb, h1, h2, h3, h4, h5, h6, if_true, if_false, or_self]

/-- Are they an expression, where so many values are there already? -/
def wellR : Int → List Item → Bool
  | t, [] => decide (t = 1)
  | t, x :: r => (needsR x).2 && (!decide (t < (needsR x).1) && wellR (t + (1 - (needsR x).1)) r)

def well (e : List Item) : Bool := wellR 0 e && decide (e.length ≤ 64)

theorem needs_range (x : Item) : 0 ≤ (needsR x).1 ∧ (needsR x).1 ≤ 2 := by
  unfold needsR
  split
  · simp
  · split
    · simp
    · split
      · simp
      · split <;> simp

theorem well_loop (e : List Item) (he : e.length ≤ 4611686018427387904) (n : Nat) : ∀ (m i : Nat) (t : Int), i ≤ e.length → e.length - i < m → 0 ≤ t → t ≤ i →
    expr_Well.l3 n m e t e (e.length : Int) (i : Int) = some (wellR t (e.drop i) && decide (e.length ≤ 64), ()) := by
  intro m
  induction m with
  | zero => intro i t _ h; omega
  | succ m ih =>
    intro i t hi hm h0 ht
    by_cases h1 : i < e.length
    · have hx : e.drop i = e.getD i ((0 : Int), ((0 : Int), (([] : Str), ()))) :: e.drop (i + 1) := by
        rw [List.drop_eq_getElem_cons h1, List.getD_eq_getElem?_getD, List.getElem?_eq_getElem h1]; rfl
      rw [hx]
      simp only [expr_Well.l3, dt, df, needs_eq, Option.bind_some]
      rw [if_pos (by omega), if_pos (by omega), Int.toNat_natCast]
      generalize e.getD i ((0 : Int), ((0 : Int), (([] : Str), ()))) = x
      obtain ⟨a, b, c, u⟩ := x
      cases u
      have hr := needs_range (a, b, c, ())
      simp only [wellR]
      generalize needsR (a, b, c, ()) = y at *
      obtain ⟨k, ok⟩ := y
      simp only at hr ⊢
      cases ok
      · rfl
      · rw [if_pos (show (!true) = false from rfl)]
        by_cases h2 : t < k
        · rw [if_pos h2]; simp [h2]
        · rw [if_neg h2, w64 (x := 1 - k) (by omega), w64 (x := t + (1 - k)) (by omega), w64 (x := (i : Int) + 1) (by omega), show (i : Int) + 1 = ((i + 1 : Nat) : Int) by omega]
          rw [ih (i + 1) (t + (1 - k)) (by omega) (by omega) (by omega) (by omega)]
          simp [h2]
    · have hi' : i = e.length := by omega
      subst hi'
      simp only [expr_Well.l3, dt]
      rw [if_neg (by omega), List.drop_length]
      simp only [wellR]
      by_cases h3 : t = 1
      · rw [if_pos h3]
        simp [h3]
        omega
      · rw [if_neg h3]; simp [h3]

theorem well_eq (e : List Item) (he : e.length ≤ 4611686018427387904) : expr_Well.g e = some (well e, ()) := by
  unfold expr_Well.g expr_Well.f
  exact well_loop e he _ _ 0 0 (by omega) (by omega) (by omega) (by omega)

end Rv

namespace Rv
open Go

abbrev Sym := Str × Int × Unit

/-- Where a name stands. -/
def findR (s : Str) : List Sym → Option Int
  | [] => none
  | x :: r => if x.1 = s then some x.2.1 else findR s r

def findI (s : Str) : List Sym → Option Nat
  | [] => none
  | x :: r => if x.1 = s then some 0 else (findI s r).map (· + 1)

theorem index_loop (l : List Sym) (s : Str) (hl : l.length ≤ 4611686018427387904) (n : Nat) : ∀ (m i : Nat), i ≤ l.length → l.length - i < m →
    slices_IndexFunc_api_Sym_api_Sym_c23.l2 n m l (l.length : Int) (i : Int) s = some ((match findI s (l.drop i) with | some k => ((i + k : Nat) : Int) | none => -1), s, ()) := by
  intro m
  induction m with
  | zero => intro i _ h; omega
  | succ m ih =>
    intro i hi hm
    by_cases h1 : i < l.length
    · have hx : l.drop i = l.getD i (([] : Str), ((0 : Int), ())) :: l.drop (i + 1) := by
        rw [List.drop_eq_getElem_cons h1, List.getD_eq_getElem?_getD, List.getElem?_eq_getElem h1]; rfl
      rw [hx]
      simp only [slices_IndexFunc_api_Sym_api_Sym_c23.l2, dt, value_Find_1.g, value_Find_1.f, Option.bind_some]
      rw [if_pos (by omega), if_pos (by omega), Int.toNat_natCast]
      generalize l.getD i (([] : Str), ((0 : Int), ())) = x
      unfold findI
      by_cases h2 : x.1 = s
      · rw [if_pos h2, if_pos h2]; simp
      · rw [if_neg h2, if_neg h2, w64 (by omega), show (i : Int) + 1 = ((i + 1 : Nat) : Int) by omega, ih (i + 1) (by omega) (by omega)]
        cases findI s (l.drop (i + 1)) with
        | none => rfl
        | some k => simp only [Option.map_some]; rw [show i + 1 + k = i + (k + 1) by omega]
    · have hi' : i = l.length := by omega
      subst hi'
      simp only [slices_IndexFunc_api_Sym_api_Sym_c23.l2, dt]
      rw [if_neg (by omega), List.drop_length]
      rfl

theorem findI_some (s : Str) : ∀ {l : List Sym} {k : Nat}, findI s l = some k → k < l.length ∧ findR s l = some (l.getD k (([] : Str), ((0 : Int), ()))).2.1
  | [], _, h => by cases h
  | x :: r, k, h => by
    unfold findI at h
    unfold findR
    by_cases h2 : x.1 = s
    · rw [if_pos h2] at h ⊢
      cases h
      exact ⟨by simp, rfl⟩
    · rw [if_neg h2] at h ⊢
      obtain ⟨j, hj, rfl⟩ := Option.map_eq_some_iff.1 h
      obtain ⟨h3, h4⟩ := findI_some s hj
      exact ⟨by simp; omega, by rw [h4]; rfl⟩

theorem findI_none (s : Str) : ∀ {l : List Sym}, findI s l = none → findR s l = none
  | [], _ => rfl
  | x :: r, h => by
    unfold findI at h
    unfold findR
    by_cases h2 : x.1 = s
    · rw [if_pos h2] at h; cases h
    · rw [if_neg h2] at h ⊢
      exact findI_none s (Option.map_eq_none_iff.1 h)

theorem find_eq (l : List Sym) (s : Str) (hl : l.length ≤ 4611686018427387904) : value_Find.g l s = some ((findR s l).getD 0, (findR s l).isSome, ()) := by
  unfold value_Find.g value_Find.f slices_IndexFunc_api_Sym_api_Sym_c23.g slices_IndexFunc_api_Sym_api_Sym_c23.f
  rw [show (0 : Int) = ((0 : Nat) : Int) from rfl, index_loop l s hl _ _ 0 (by omega) (by omega), Option.bind_some, List.drop_zero]
  dsimp only
  cases h : findI s l with
  | none =>
    rw [findI_none s h]
    rfl
  | some k =>
    obtain ⟨h1, h2⟩ := findI_some s h
    rw [h2]
    simp only [dt]
    rw [if_neg (by omega), if_pos (by omega)]
    simp

end Rv

namespace Rv
open Go

abbrev Val := Int × Int × Unit

theorem pop_eq (l : List Val) (v : Val) (hl : l.length ≤ 4611686018427387904) : value_stack_api_Value_pop.g (l ++ [v]) = some (v.1, v.2.1, l, ()) := by
  unfold value_stack_api_Value_pop.g value_stack_api_Value_pop.f
  have e1 : IntKind.i64.wrap (((l ++ [v]).length : Int) - 1) = (l.length : Int) := by
    rw [w64 (by simp; omega)]; simp
  have e2 : (l ++ [v]).getD l.length ((0 : Int), ((0 : Int), ())) = v := by
    rw [List.getD_eq_getElem?_getD, List.getElem?_append_right (Nat.le_refl _)]; simp
  rw [e1, Int.toNat_natCast, if_pos (by simp; omega), if_pos (by simp; omega), e2, List.take_left]

/-- The values of one item, the last one on top. -/
def stepR (labels : List Sym) (st : List Val) (x : Item) : Except Int (List Val) :=
  if x.1 = 2 then match findR x.2.2.1 labels with
    | some a => .ok (st ++ [(IntKind.u32.wrap a, 1, ())])
    | none => .error 25
  else if x.1 = 3 then match st.getLast? with
    | some v => .ok (st.dropLast ++ [(IntKind.u32.wrap (0 - v.1), IntKind.i64.wrap (0 - v.2.1), ())])
    | none => .error 99
  else if x.1 = 4 ∨ x.1 = 5 ∨ x.1 = 6 then match st.getLast?, st.dropLast.getLast? with
    | some b, some a =>
      if x.1 = 4 then .ok (st.dropLast.dropLast ++ [(IntKind.u32.wrap (a.1 + b.1), IntKind.i64.wrap (a.2.1 + b.2.1), ())])
      else if x.1 = 5 then .ok (st.dropLast.dropLast ++ [(IntKind.u32.wrap (a.1 - b.1), IntKind.i64.wrap (a.2.1 - b.2.1), ())])
      else if a.2.1 = 0 ∧ b.2.1 = 0 then .ok (st.dropLast.dropLast ++ [(IntKind.u32.wrap (a.1 * b.1), 0, ())])
      else .error 27
    | _, _ => .error 99
  else .ok (st ++ [(x.2.1, 0, ())])

def runR (labels : List Sym) : List Val → List Item → Except Int (List Val)
  | st, [] => .ok st
  | st, x :: r => match stepR labels st x with
    | .ok st => runR labels st r
    | .error e => .error e

theorem runR_app (labels : List Sym) : ∀ (a b : List Item) (st : List Val), runR labels st (a ++ b) = match runR labels st a with
    | .ok st => runR labels st b
    | .error e => .error e
  | [], b, st => rfl
  | x :: a, b, st => by
    simp only [List.cons_append, runR]
    cases stepR labels st x with
    | ok st => exact runR_app labels a b st
    | error e => rfl

theorem times_neg (a b : Int) : value_times.g a b (-1) = some (IntKind.u32.wrap (0 - a), IntKind.i64.wrap (0 - b), ()) := by
  unfold value_times.g value_times.f
  have e1 : IntKind.u32.wrap (-1) = 4294967295 := by rw [IntKind.wrap_u32]; rfl
  have e2 : IntKind.u32.wrap (4294967295 * a) = IntKind.u32.wrap (0 - a) := by rw [IntKind.wrap_u32, IntKind.wrap_u32]; omega
  rw [e1, e2, show -1 * b = 0 - b by omega]

theorem sum_eq (a b c d : Int) : value_sum.g a b c d = some (IntKind.u32.wrap (a + c), IntKind.i64.wrap (b + d), ()) := rfl

theorem i64_add_neg (a b : Int) : IntKind.i64.wrap (a + IntKind.i64.wrap (0 - b)) = IntKind.i64.wrap (a - b) := by
  rw [IntKind.wrap_i64, IntKind.wrap_i64, IntKind.wrap_i64]; omega

theorem u32_add_neg (a b : Int) : IntKind.u32.wrap (a + IntKind.u32.wrap (0 - b)) = IntKind.u32.wrap (a - b) := by
  rw [IntKind.wrap_u32, IntKind.wrap_u32, IntKind.wrap_u32]; omega

end Rv

namespace Rv
open Go

def lastV (st : List Val) : Option (Int × Int × Int × Unit) :=
  match st.getLast? with
  | some v => some (v.1, v.2.1, 0, ())
  | none => none

theorem of_push (labels : List Sym) (e : List Item) (n : Nat) (rl) (t : Int) (i : Nat) (hi : i ≤ 1000) (b0 b1 : Int) (st : List Val) (hst : st.length ≤ 1000) (v0 v1 : Int) :
    value_Of.j27 n rl labels e t (i : Int) b0 b1 st v0 v1 = rl labels e t ((i + 1 : Nat) : Int) b0 b1 (st ++ [(v0, v1, ())]) := by
  unfold value_Of.j27
  rw [if_pos (by simp; omega), w64 (by omega)]
  rfl

theorem snocV (st : List Val) : st = [] ∨ ∃ l v, st = l ++ [v] := by
  rcases List.eq_nil_or_concat st with h | ⟨l, v, h⟩
  · exact .inl h
  · exact .inr ⟨l, v, by rw [h, List.concat_eq_append]⟩

theorem last1 (l : List Val) (v : Val) : (l ++ [v]).getLast? = some v ∧ (l ++ [v]).dropLast = l := by simp

theorem of_loop (labels : List Sym) (hlab : labels.length ≤ 4611686018427387904) (e : List Item) (he : e.length ≤ 999) (n : Nat) : ∀ (m i : Nat) (st : List Val) (b0 b1 : Int), i ≤ e.length → e.length - i < m → wellR (st.length : Int) (e.drop i) = true → st.length ≤ i →
    value_Of.l5 n m labels e (e.length : Int) (i : Int) b0 b1 st = match runR labels st (e.drop i) with
      | .error x => some (0, 0, x, ())
      | .ok st' => lastV st' := by
  intro m
  induction m with
  | zero => intro i st b0 b1 _ h; omega
  | succ m ih =>
    intro i st b0 b1 hi hm hw hst
    by_cases h1 : i < e.length
    · have hx : e.drop i = e.getD i ((0 : Int), ((0 : Int), (([] : Str), ()))) :: e.drop (i + 1) := by
        rw [List.drop_eq_getElem_cons h1, List.getD_eq_getElem?_getD, List.getElem?_eq_getElem h1]; rfl
      rw [hx] at hw ⊢
      simp only [value_Of.l5, dt, df]
      rw [if_pos (by omega), if_pos (by omega), Int.toNat_natCast]
      generalize e.getD i ((0 : Int), ((0 : Int), (([] : Str), ()))) = x at hw ⊢
      obtain ⟨a, b, c, u⟩ := x
      cases u
      simp only [wellR, Bool.and_eq_true, Bool.not_eq_true', decide_eq_false_iff_not] at hw
      obtain ⟨hk, hlt, hw⟩ := hw
      have next : ∀ (s : List Val) (v0 v1 : Int), s.length + 1 ≤ i + 1 → wellR ((s.length + 1 : Nat) : Int) (e.drop (i + 1)) = true →
          value_Of.j27 n (value_Of.l5 n m) labels e (e.length : Int) (i : Int) b0 b1 s v0 v1 = match runR labels (s ++ [(v0, v1, ())]) (e.drop (i + 1)) with
            | .error x => some (0, 0, x, ())
            | .ok st' => lastV st' := fun s v0 v1 hs hws => by
        rw [of_push labels e n _ _ i (by omega) b0 b1 s (by omega) v0 v1]
        exact ih (i + 1) _ b0 b1 (by omega) (by omega) (by simpa using hws) (by simpa using hs)
      simp only [runR, stepR]
      by_cases k2 : a = 2
      · subst k2
        rw [if_pos rfl, if_pos rfl, find_eq labels c hlab, Option.bind_some]
        have e0 : (needsR (2, b, c, ())).1 = 0 := rfl
        rw [e0] at hw
        cases hf : findR c labels with
        | none => rfl
        | some at_ =>
          dsimp only [Option.isSome, Option.getD]
          rw [if_neg (by simp)]
          exact next st _ 1 (by omega) (by simpa using hw)
      · rw [if_neg k2, if_neg k2]
        by_cases k3 : a = 3
        · subst k3
          have e0 : (needsR (3, b, c, ())).1 = 1 := rfl
          rw [e0] at hlt hw
          rcases snocV st with rfl | ⟨l, v, rfl⟩
          · simp at hlt
          · obtain ⟨g1, g2⟩ := last1 l v
            rw [if_pos rfl, if_pos rfl, g1, g2, pop_eq l v (by simp at hst; omega), Option.bind_some]
            dsimp only
            rw [times_neg, Option.bind_some]
            exact next l _ _ (by simp at hst; omega) (by simpa using hw)
        · rw [if_neg k3, if_neg k3]
          by_cases k4 : a = 4 ∨ a = 5 ∨ a = 6
          · have e0 : (needsR (a, b, c, ())).1 = 2 := by
              unfold needsR
              rcases k4 with rfl | rfl | rfl <;> rfl
            rw [e0] at hlt hw
            rcases snocV st with rfl | ⟨l0, v, rfl⟩
            · simp at hlt
            · rcases snocV l0 with rfl | ⟨l, w, rfl⟩
              · simp at hlt
              · obtain ⟨g1, g2⟩ := last1 (l ++ [w]) v
                obtain ⟨g3, g4⟩ := last1 l w
                have hl : l.length ≤ 1000 := by simp at hst; omega
                have hn := next l
                rw [if_pos k4, g1, g2, g3, g4, pop_eq (l ++ [w]) v (by simp; omega), Option.bind_some]
                dsimp only
                have hp2 := pop_eq l w (by omega)
                simp only [hp2, Option.bind_some, sum_eq, times_neg, u32_add_neg, i64_add_neg]
                have hs1 : l.length + 1 ≤ i + 1 := by simp at hst; omega
                have hw1 : wellR ((l.length + 1 : Nat) : Int) (e.drop (i + 1)) = true := by
                  have : ((l ++ [w] ++ [v]).length : Int) + (1 - 2) = ((l.length + 1 : Nat) : Int) := by simp; omega
                  rw [← this]; exact hw
                rcases k4 with rfl | rfl | rfl
                · rw [if_pos rfl, if_pos rfl, Int.add_comm v.1 w.1, Int.add_comm v.2.1 w.2.1]
                  exact next l _ _ hs1 hw1
                · rw [if_neg (show ¬ (5 : Int) = 4 by decide), if_neg (show ¬ (5 : Int) = 4 by decide), if_pos rfl, if_pos rfl]
                  exact next l _ _ hs1 hw1
                · rw [if_neg (show ¬ (6 : Int) = 4 by decide), if_neg (show ¬ (6 : Int) = 4 by decide), if_neg (show ¬ (6 : Int) = 5 by decide), if_neg (show ¬ (6 : Int) = 5 by decide), if_pos rfl]
                  by_cases z1 : v.2.1 = 0
                  · by_cases z2 : w.2.1 = 0
                    · rw [if_pos (show w.2.1 = 0 ∧ v.2.1 = 0 from ⟨z2, z1⟩)]
                      simp only [z1, z2, decide_true, Bool.and_self, Bool.not_true, if_true]
                      rw [if_neg (by decide), Int.mul_comm v.1 w.1]
                      exact next l _ _ hs1 hw1
                    · rw [if_neg (show ¬ (w.2.1 = 0 ∧ v.2.1 = 0) from fun h => z2 h.1)]
                      simp [z1, z2]
                  · rw [if_neg (show ¬ (w.2.1 = 0 ∧ v.2.1 = 0) from fun h => z1 h.2)]
                    simp [z1]
          · have ha : a = 1 := by
              apply Classical.byContradiction
              intro h1'
              have : (needsR (a, b, c, ())).2 = false := by
                unfold needsR
                simp [h1', k2, k3, k4]
              rw [this] at hk
              cases hk
            subst ha
            have e0 : (needsR (1, b, c, ())).1 = 0 := rfl
            rw [e0] at hw
            rw [if_neg k4, if_neg (show ¬ (1 : Int) = 4 by decide), if_neg (show ¬ (1 : Int) = 5 by decide), if_neg (show ¬ (1 : Int) = 6 by decide)]
            exact next st b 0 (by omega) (by simpa using hw)
    · have hi' : i = e.length := by omega
      subst hi'
      simp only [value_Of.l5, dt]
      rw [if_neg (by omega), List.drop_length]
      simp only [runR]
      rw [List.drop_length] at hw
      rcases snocV st with rfl | ⟨l, v, rfl⟩
      · simp [wellR] at hw
      · rw [pop_eq l v (by simp at hst; omega), Option.bind_some]
        simp [lastV]

/-- What an expression comes to: number, addresses, error. -/
def ofR (labels : List Sym) (e : List Item) : Option (Int × Int × Int × Unit) :=
  if well e = true then (match runR labels [] e with
    | .error x => some (0, 0, x, ())
    | .ok st => lastV st)
  else some (0, 0, 23, ())

theorem of_eq (labels : List Sym) (hlab : labels.length ≤ 4611686018427387904) (e : List Item) (he : e.length ≤ 4611686018427387904) : value_Of.g e labels = ofR labels e := by
  unfold value_Of.g value_Of.f ofR
  rw [well_eq e he, Option.bind_some]
  dsimp only
  by_cases hw : well e = true
  · rw [hw, if_neg (by decide), if_pos rfl]
    unfold well at hw
    rw [Bool.and_eq_true, decide_eq_true_eq] at hw
    exact of_loop labels hlab e (by omega) _ _ 0 [] 0 0 (by omega) (by omega) (by simpa using hw.1) (by simp)
  · have hw' : well e = false := by simpa using hw
    rw [hw']
    rfl

end Rv

namespace Rv
open Go

/-- How many values an item leaves. -/
theorem step_len (labels : List Sym) (x : Item) (st st' : List Val) (hk : (needsR x).2 = true) (hl : ¬ (st.length : Int) < (needsR x).1) (h : stepR labels st x = .ok st') : (st'.length : Int) = st.length + (1 - (needsR x).1) := by
  obtain ⟨a, b, c, u⟩ := x
  cases u
  unfold stepR at h
  dsimp only at h
  by_cases k2 : a = 2
  · subst k2
    rw [if_pos rfl] at h
    have e0 : (needsR (2, b, c, ())).1 = 0 := rfl
    rw [e0]
    split at h
    · cases h; simp
    · cases h
  · rw [if_neg k2] at h
    by_cases k3 : a = 3
    · subst k3
      have e0 : (needsR (3, b, c, ())).1 = 1 := rfl
      rw [e0] at hl ⊢
      rcases snocV st with rfl | ⟨l, v, rfl⟩
      · simp at hl
      · rw [if_pos rfl, (last1 l v).1, (last1 l v).2] at h
        cases h; simp
    · rw [if_neg k3] at h
      by_cases k4 : a = 4 ∨ a = 5 ∨ a = 6
      · have e0 : (needsR (a, b, c, ())).1 = 2 := by
          unfold needsR
          rcases k4 with rfl | rfl | rfl <;> rfl
        rw [e0] at hl ⊢
        rcases snocV st with rfl | ⟨l0, v, rfl⟩
        · simp at hl
        · rcases snocV l0 with rfl | ⟨l, w, rfl⟩
          · simp at hl
          · rw [if_pos k4, (last1 _ v).1, (last1 _ v).2, (last1 l w).1, (last1 l w).2] at h
            dsimp only at h
            split at h
            · cases h; simp; omega
            · split at h
              · cases h; simp; omega
              · split at h
                · cases h; simp; omega
                · cases h
      · rw [if_neg k4] at h
        have ha : a = 1 := by
          apply Classical.byContradiction
          intro h1'
          have : (needsR (a, b, c, ())).2 = false := by
            unfold needsR
            simp [h1', k2, k3, k4]
          rw [this] at hk
          cases hk
        subst ha
        have e0 : (needsR (1, b, c, ())).1 = 0 := rfl
        rw [e0]
        cases h; simp

def onE (f : List Val → List Val) : Except Int (List Val) → Except Int (List Val)
  | .ok l => .ok (f l)
  | .error e => .error e

/-- What lies below does not matter. -/
theorem step_base (labels : List Sym) (x : Item) (base st : List Val) (hl : ¬ (st.length : Int) < (needsR x).1) : stepR labels (base ++ st) x = onE (base ++ ·) (stepR labels st x) := by
  obtain ⟨a, b, c, u⟩ := x
  cases u
  unfold stepR
  dsimp only
  by_cases k2 : a = 2
  · subst k2
    rw [if_pos rfl, if_pos rfl]
    cases findR c labels with
    | none => rfl
    | some y => simp [onE]
  · rw [if_neg k2, if_neg k2]
    by_cases k3 : a = 3
    · subst k3
      have e0 : (needsR (3, b, c, ())).1 = 1 := rfl
      rw [e0] at hl
      rcases snocV st with rfl | ⟨l, v, rfl⟩
      · simp at hl
      · rw [if_pos rfl, if_pos rfl, ← List.append_assoc, (last1 (base ++ l) v).1, (last1 (base ++ l) v).2, (last1 l v).1, (last1 l v).2]
        simp [onE]
    · rw [if_neg k3, if_neg k3]
      by_cases k4 : a = 4 ∨ a = 5 ∨ a = 6
      · have e0 : (needsR (a, b, c, ())).1 = 2 := by
          unfold needsR
          rcases k4 with rfl | rfl | rfl <;> rfl
        rw [e0] at hl
        rcases snocV st with rfl | ⟨l0, v, rfl⟩
        · simp at hl
        · rcases snocV l0 with rfl | ⟨l, w, rfl⟩
          · simp at hl
          · rw [if_pos k4, if_pos k4, ← List.append_assoc, ← List.append_assoc, (last1 (base ++ l ++ [w]) v).1, (last1 (base ++ l ++ [w]) v).2, (last1 (base ++ l) w).1, (last1 (base ++ l) w).2, (last1 (l ++ [w]) v).1, (last1 (l ++ [w]) v).2, (last1 l w).1, (last1 l w).2]
            dsimp only
            split
            · simp [onE]
            · split
              · simp [onE]
              · split
                · simp [onE]
                · rfl
      · rw [if_neg k4, if_neg k4]
        simp [onE]

/-- Enough values are there for each item; so many there are at the end. -/
def enough : Int → List Item → Option Int
  | t, [] => some t
  | t, x :: r => if (needsR x).2 = true ∧ ¬ t < (needsR x).1 then enough (t + (1 - (needsR x).1)) r else none

theorem wellR_enough : ∀ (e : List Item) (t : Int), (wellR t e = true) = (enough t e = some 1)
  | [], t => by simp [wellR, enough]
  | x :: r, t => by
    simp only [wellR, enough, Bool.and_eq_true, Bool.not_eq_true', decide_eq_false_iff_not]
    by_cases h : (needsR x).2 = true ∧ ¬ t < (needsR x).1
    · rw [if_pos h, ← wellR_enough r]
      simp [h.1, h.2]
    · rw [if_neg h]
      apply propext
      constructor
      · intro h'; exact absurd ⟨h'.1, h'.2.1⟩ h
      · intro h'; cases h'

theorem enough_app : ∀ (a b : List Item) (t : Int), enough t (a ++ b) = (enough t a).bind fun k => enough k b
  | [], b, t => rfl
  | x :: a, b, t => by
    simp only [List.cons_append, enough]
    split
    · exact enough_app a b _
    · rfl

theorem run_base (labels : List Sym) : ∀ (e : List Item) (base st : List Val) (k : Int), enough (st.length : Int) e = some k → runR labels (base ++ st) e = onE (base ++ ·) (runR labels st e) ∧ ∀ st', runR labels st e = .ok st' → (st'.length : Int) = k
  | [], base, st, k, h => by
    simp only [enough, Option.some.injEq] at h
    exact ⟨rfl, fun st' h' => by cases h'; exact h⟩
  | x :: e, base, st, k, h => by
    simp only [enough] at h
    split at h
    · rename_i hc
      simp only [runR]
      rw [step_base labels x base st hc.2]
      cases hs : stepR labels st x with
      | error er => exact ⟨rfl, fun st' h' => by cases h'⟩
      | ok s2 =>
        have hl := step_len labels x st s2 hc.1 hc.2 hs
        rw [← hl] at h
        exact run_base labels e base s2 k h
    · cases h

end Rv

namespace Rv
open Go

/-- An expression that may be: as many values as it needs, and one at the end. -/
def wellL (e : List Item) : Prop := enough 0 e = some 1

theorem enough_shift : ∀ (e : List Item) (t k j : Int), 0 ≤ j → enough t e = some k → enough (t + j) e = some (k + j)
  | [], t, k, j, _, h => by
    simp only [enough, Option.some.injEq] at h ⊢
    omega
  | x :: e, t, k, j, hj, h => by
    simp only [enough] at h ⊢
    split at h
    · rename_i hc
      rw [if_pos ⟨hc.1, by omega⟩, show t + j + (1 - (needsR x).1) = (t + (1 - (needsR x).1)) + j by omega]
      exact enough_shift e _ k j hj h
    · cases h

/-- The value of an expression alone: an error, or one value. -/
theorem run_well (labels : List Sym) {e : List Item} (h : wellL e) : (∃ x, runR labels [] e = .error x) ∨ ∃ v, runR labels [] e = .ok [v] := by
  obtain ⟨_, h2⟩ := run_base labels e [] [] 1 h
  cases hr : runR labels [] e with
  | error x => exact .inl ⟨x, rfl⟩
  | ok st =>
    have := h2 st hr
    match st, this with
    | [v], _ => exact .inr ⟨v, rfl⟩

theorem run_on (labels : List Sym) {e : List Item} (h : wellL e) (base : List Val) : runR labels base e = onE (base ++ ·) (runR labels [] e) := by
  have := (run_base labels e base [] 1 h).1
  rwa [List.append_nil] at this

theorem well_of {e : List Item} (h : wellL e) (hl : e.length ≤ 64) : well e = true := by
  unfold well
  rw [Bool.and_eq_true, decide_eq_true_eq, wellR_enough]
  exact ⟨h, hl⟩

/-- What value.Of tells of an expression. -/
theorem of_well (labels : List Sym) {e : List Item} (h : wellL e) (hl : e.length ≤ 64) : (∃ x, runR labels [] e = .error x ∧ ofR labels e = some (0, 0, x, ())) ∨ ∃ v : Val, runR labels [] e = .ok [v] ∧ ofR labels e = some (v.1, v.2.1, 0, ()) := by
  unfold ofR
  rw [if_pos (well_of h hl)]
  rcases run_well labels h with ⟨x, hx⟩ | ⟨v, hv⟩
  · exact .inl ⟨x, hx, by rw [hx]⟩
  · exact .inr ⟨v, hv, by rw [hv]; rfl⟩

/-- Two expressions, and what works on both. -/
theorem well_two {a b : List Item} (ha : wellL a) (hb : wellL b) (x : Item) (hx : needsR x = (2, true)) : wellL (a ++ b ++ [x]) := by
  unfold wellL at *
  have h1 : enough 1 b = some 2 := enough_shift b 0 1 1 (by omega) hb
  rw [enough_app, enough_app, ha, Option.bind_some, h1, Option.bind_some]
  simp [enough, hx]

theorem well_one {a : List Item} (ha : wellL a) (x : Item) (hx : needsR x = (1, true)) : wellL (a ++ [x]) := by
  unfold wellL at *
  rw [enough_app, ha, Option.bind_some]
  simp [enough, hx]

end Rv
