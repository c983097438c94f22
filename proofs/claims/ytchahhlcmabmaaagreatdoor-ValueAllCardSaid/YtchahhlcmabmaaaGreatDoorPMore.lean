/- Values: ranges, errors, moved labels, sums and opposites. -/
import Derived.Test.YtchahhlcmabmaaaGreatDoorPGa
set_option linter.all false
namespace Rv
open Go

def okV (v : Val) : Prop := (0 ≤ v.1 ∧ v.1 ≤ 4294967295) ∧ (-9223372036854775808 ≤ v.2.1 ∧ v.2.1 ≤ 9223372036854775807)

theorem u32_range (a : Int) : 0 ≤ IntKind.u32.wrap a ∧ IntKind.u32.wrap a ≤ 4294967295 := by rw [IntKind.wrap_u32]; omega
theorem i64_range (a : Int) : -9223372036854775808 ≤ IntKind.i64.wrap a ∧ IntKind.i64.wrap a ≤ 9223372036854775807 := by rw [IntKind.wrap_i64]; omega
theorem okV_wrap (a b : Int) : okV (IntKind.u32.wrap a, IntKind.i64.wrap b, ()) := ⟨u32_range a, i64_range b⟩

theorem okV_c {a c : Int} (h1 : 0 ≤ a ∧ a ≤ 4294967295) (h2 : -9223372036854775808 ≤ c ∧ c ≤ 9223372036854775807) : okV (a, c, ()) := ⟨h1, h2⟩

theorem mem_dropLast {α : Type} {l : List α} {x : α} (h : x ∈ l.dropLast) : x ∈ l := List.dropLast_subset l h

theorem step_okV {labels : List Sym} {x : Item} {st st' : List Val} (hx : 0 ≤ x.2.1 ∧ x.2.1 ≤ 4294967295) (hst : ∀ v ∈ st, okV v) (h : stepR labels st x = .ok st') : ∀ v ∈ st', okV v := by
  have snoc : ∀ (l : List Val) (u : Val), (∀ v ∈ l, okV v) → okV u → ∀ v ∈ l ++ [u], okV v := fun l u hl hu v hv => by
    rcases List.mem_append.1 hv with hv | hv
    · exact hl v hv
    · rw [List.mem_singleton] at hv; subst hv; exact hu
  have hd : ∀ v ∈ st.dropLast, okV v := fun v hv => hst v (mem_dropLast hv)
  have hdd : ∀ v ∈ st.dropLast.dropLast, okV v := fun v hv => hd v (mem_dropLast hv)
  unfold stepR at h
  split at h
  · split at h
    · simp only [Except.ok.injEq] at h; subst h
      exact snoc _ _ hst (okV_c (u32_range _) (by decide))
    · cases h
  · split at h
    · split at h
      · simp only [Except.ok.injEq] at h; subst h
        exact snoc _ _ hd (okV_wrap _ _)
      · cases h
    · split at h
      · split at h
        · split at h
          · simp only [Except.ok.injEq] at h; subst h
            exact snoc _ _ hdd (okV_wrap _ _)
          · split at h
            · simp only [Except.ok.injEq] at h; subst h
              exact snoc _ _ hdd (okV_wrap _ _)
            · split at h
              · simp only [Except.ok.injEq] at h; subst h
                exact snoc _ _ hdd (okV_c (u32_range _) (by decide))
              · cases h
        · cases h
      · simp only [Except.ok.injEq] at h; subst h
        exact snoc _ _ hst (okV_c hx (by decide))

theorem run_okV {labels : List Sym} : ∀ {e : List Item} {st st' : List Val}, (∀ x ∈ e, 0 ≤ x.2.1 ∧ x.2.1 ≤ 4294967295) → (∀ v ∈ st, okV v) → runR labels st e = .ok st' → ∀ v ∈ st', okV v
  | [], st, st', _, hst, h => by
    simp only [runR, Except.ok.injEq] at h
    subst h; exact hst
  | x :: e, st, st', hx, hst, h => by
    simp only [runR] at h
    cases hs : stepR labels st x with
    | ok s =>
      rw [hs] at h
      exact run_okV (fun y hy => hx y (by simp [hy])) (step_okV (hx x (by simp)) hst hs) h
    | error k => rw [hs] at h; cases h

theorem step_err {labels : List Sym} {x : Item} {st : List Val} {k : Int} (h : stepR labels st x = .error k) : k = 25 ∨ k = 99 ∨ k = 27 := by
  unfold stepR at h
  split at h
  · split at h
    · cases h
    · cases h; simp
  · split at h
    · split at h
      · cases h
      · cases h; simp
    · split at h
      · split at h
        · split at h
          · cases h
          · split at h
            · cases h
            · split at h
              · cases h
              · cases h; simp
        · cases h; simp
      · cases h

theorem run_err {labels : List Sym} : ∀ {e : List Item} {st : List Val} {k : Int}, runR labels st e = .error k → k ≠ 0
  | [], st, k, h => by cases h
  | x :: e, st, k, h => by
    simp only [runR] at h
    cases hs : stepR labels st x with
    | ok s => rw [hs] at h; exact run_err h
    | error k' =>
      rw [hs] at h
      cases h
      rcases step_err hs with rfl | rfl | rfl <;> decide

/-- Two expressions, and one item that works on both. -/
theorem run_two (labels : List Sym) {p q : List Item} (hq : wellL q) (x : Item) : runR labels [] (p ++ q ++ [x]) = match runR labels [] p with
    | .error e => .error e
    | .ok st => match runR labels [] q with
      | .error e => .error e
      | .ok st' => stepR labels (st ++ st') x := by
  rw [runR_app, runR_app]
  cases hp : runR labels [] p with
  | error e => rfl
  | ok st =>
    dsimp only
    rw [run_on labels hq st]
    cases runR labels [] q with
    | error e => rfl
    | ok st' =>
      simp only [onE, runR]
      cases stepR labels (st ++ st') x <;> rfl

theorem run_one (labels : List Sym) {p : List Item} (x : Item) : runR labels [] (p ++ [x]) = match runR labels [] p with
    | .error e => .error e
    | .ok st => stepR labels st x := by
  rw [runR_app]
  cases hp : runR labels [] p with
  | error e => rfl
  | ok st =>
    simp only [runR]
    cases stepR labels st x <;> rfl

theorem step_add (labels : List Sym) (v w : Val) (n : Int) (s : Str) : stepR labels ([v] ++ [w]) (4, n, s, ()) = .ok [(IntKind.u32.wrap (v.1 + w.1), IntKind.i64.wrap (v.2.1 + w.2.1), ())] := rfl
theorem step_sub (labels : List Sym) (v w : Val) (n : Int) (s : Str) : stepR labels ([v] ++ [w]) (5, n, s, ()) = .ok [(IntKind.u32.wrap (v.1 - w.1), IntKind.i64.wrap (v.2.1 - w.2.1), ())] := rfl
theorem step_mul (labels : List Sym) (v w : Val) (n : Int) (s : Str) : stepR labels ([v] ++ [w]) (6, n, s, ()) = if v.2.1 = 0 ∧ w.2.1 = 0 then .ok [(IntKind.u32.wrap (v.1 * w.1), 0, ())] else .error 27 := rfl
theorem step_neg (labels : List Sym) (v : Val) (n : Int) (s : Str) : stepR labels [v] (3, n, s, ()) = .ok [(IntKind.u32.wrap (0 - v.1), IntKind.i64.wrap (0 - v.2.1), ())] := rfl

/-- Only what is named matters. -/
theorem step_congr {l1 l2 : List Sym} {x : Item} (h : x.1 = 2 → findR x.2.2.1 l1 = findR x.2.2.1 l2) (st : List Val) : stepR l1 st x = stepR l2 st x := by
  unfold stepR
  by_cases h2 : x.1 = 2
  · rw [if_pos h2, if_pos h2, h h2]
  · rw [if_neg h2, if_neg h2]

theorem run_congr {l1 l2 : List Sym} : ∀ {e : List Item} (st : List Val), (∀ x ∈ e, x.1 = 2 → findR x.2.2.1 l1 = findR x.2.2.1 l2) → runR l1 st e = runR l2 st e
  | [], st, _ => rfl
  | x :: e, st, h => by
    simp only [runR]
    rw [step_congr (h x (by simp)) st]
    cases stepR l2 st x with
    | ok s => exact run_congr s fun y hy => h y (by simp [hy])
    | error k => rfl

/-- The one error, where all names are there. -/
theorem step_err27 {labels : List Sym} {x : Item} {st : List Val} {k : Int} (hn : x.1 = 2 → (findR x.2.2.1 labels).isSome = true) (hl : ¬ (st.length : Int) < (needsR x).1) (h : stepR labels st x = .error k) : k = 27 := by
  unfold stepR at h
  split at h
  · rename_i h2
    have := hn h2
    split at h
    · cases h
    · rename_i h0; rw [h0] at this; cases this
  · rename_i h2
    split at h
    · rename_i h3
      have e0 : (needsR x).1 = 1 := by unfold needsR; rw [if_neg (by omega), if_neg (by omega), if_pos h3]
      rw [e0] at hl
      split at h
      · cases h
      · rename_i h0
        rw [List.getLast?_eq_none_iff] at h0
        subst h0; simp at hl
    · rename_i h3
      split at h
      · rename_i h4
        have e0 : (needsR x).1 = 2 := by unfold needsR; rw [if_neg (by omega), if_neg (by omega), if_neg h3, if_pos h4]
        rw [e0] at hl
        split at h
        · split at h
          · cases h
          · split at h
            · cases h
            · split at h
              · cases h
              · cases h; rfl
        · rename_i h0
          rcases snocV st with rfl | ⟨l0, v, rfl⟩
          · simp at hl
          · rcases snocV l0 with rfl | ⟨l, w, rfl⟩
            · simp at hl
            · exact (h0 v w (last1 (l ++ [w]) v).1 (by rw [(last1 (l ++ [w]) v).2, (last1 l w).1])).elim
      · cases h

theorem run_err27 {labels : List Sym} : ∀ {e : List Item} {st : List Val} {j k : Int}, (∀ x ∈ e, x.1 = 2 → (findR x.2.2.1 labels).isSome = true) → enough (st.length : Int) e = some j → runR labels st e = .error k → k = 27
  | [], st, j, k, _, _, h => by cases h
  | x :: e, st, j, k, hn, he, h => by
    unfold enough at he
    split at he
    case isFalse => cases he
    rename_i hc
    simp only [runR] at h
    cases hs : stepR labels st x with
    | ok s =>
      rw [hs] at h
      have hl := step_len labels x st s hc.1 hc.2 hs
      exact run_err27 (fun y hy => hn y (by simp [hy])) (by rw [hl]; exact he) h
    | error k' =>
      rw [hs] at h
      cases h
      exact step_err27 (hn x (by simp)) hc.2 hs

/-- A value, if all labels are moved. -/
def mv (by' : Int) (v : Val) : Val := (IntKind.u32.wrap (v.1 + by' * v.2.1), v.2.1, ())

theorem wrap64_ex (a : Int) : ∃ k, IntKind.i64.wrap a = a + 18446744073709551616 * k := ⟨-((a + 9223372036854775808) / 18446744073709551616), by rw [IntKind.wrap_i64]; omega⟩
theorem wrap32_ex (a : Int) : ∃ k, IntKind.u32.wrap a = a + 4294967296 * k := ⟨-(a / 4294967296), by rw [IntKind.wrap_u32]; omega⟩
theorem wrap32_of {a b : Int} (k : Int) (h : a = b + 4294967296 * k) : IntKind.u32.wrap a = IntKind.u32.wrap b := by
  rw [IntKind.wrap_u32, IntKind.wrap_u32]; omega

theorem mv_add (b x y c d : Int) : IntKind.u32.wrap (IntKind.u32.wrap (x + b * c) + IntKind.u32.wrap (y + b * d)) = IntKind.u32.wrap (IntKind.u32.wrap (x + y) + b * IntKind.i64.wrap (c + d)) := by
  obtain ⟨k1, e1⟩ := wrap32_ex (x + b * c)
  obtain ⟨k2, e2⟩ := wrap32_ex (y + b * d)
  obtain ⟨k3, e3⟩ := wrap32_ex (x + y)
  obtain ⟨k4, e4⟩ := wrap64_ex (c + d)
  rw [e1, e2, e3, e4]
  have h1 : b * (c + d + 18446744073709551616 * k4) = b * c + b * d + 18446744073709551616 * (b * k4) := by
    rw [Int.mul_add, Int.mul_add, Int.mul_left_comm]
  rw [h1]
  exact wrap32_of (k1 + k2 - k3 - 4294967296 * (b * k4)) (by omega)

theorem mv_sub (b x y c d : Int) : IntKind.u32.wrap (IntKind.u32.wrap (x + b * c) - IntKind.u32.wrap (y + b * d)) = IntKind.u32.wrap (IntKind.u32.wrap (x - y) + b * IntKind.i64.wrap (c - d)) := by
  obtain ⟨k1, e1⟩ := wrap32_ex (x + b * c)
  obtain ⟨k2, e2⟩ := wrap32_ex (y + b * d)
  obtain ⟨k3, e3⟩ := wrap32_ex (x - y)
  obtain ⟨k4, e4⟩ := wrap64_ex (c - d)
  rw [e1, e2, e3, e4]
  have h1 : b * (c - d + 18446744073709551616 * k4) = b * c - b * d + 18446744073709551616 * (b * k4) := by
    rw [Int.mul_add, Int.mul_sub, Int.mul_left_comm]
  rw [h1]
  exact wrap32_of (k1 - k2 - k3 - 4294967296 * (b * k4)) (by omega)

theorem mv_mul (b x y : Int) : IntKind.u32.wrap (IntKind.u32.wrap (x + b * 0) * IntKind.u32.wrap (y + b * 0)) = IntKind.u32.wrap (IntKind.u32.wrap (x * y) + b * 0) := by
  rw [Int.mul_zero, Int.add_zero, Int.add_zero, Int.add_zero]
  simp only [IntKind.wrap_u32]
  rw [← Int.mul_emod]
  omega

theorem findR_moved (by' : Int) (s : Str) : ∀ l : List Sym, findR s (l.map fun x => (x.1, IntKind.i64.wrap (x.2.1 + by'), ())) = (findR s l).map fun a => IntKind.i64.wrap (a + by')
  | [] => rfl
  | x :: l => by
    simp only [List.map_cons, findR]
    by_cases h : x.1 = s
    · rw [if_pos h, if_pos h]; rfl
    · rw [if_neg h, if_neg h, findR_moved by' s l]

theorem step_moved (by' : Int) (labels : List Sym) (x : Item) (hx : 0 ≤ x.2.1 ∧ x.2.1 ≤ 4294967295) (st : List Val) : stepR (labels.map fun x => (x.1, IntKind.i64.wrap (x.2.1 + by'), ())) (st.map (mv by')) x = onE (List.map (mv by')) (stepR labels st x) := by
  unfold stepR
  rw [findR_moved]
  by_cases h2 : x.1 = 2
  · rw [if_pos h2, if_pos h2]
    cases findR x.2.2.1 labels with
    | none => rfl
    | some a =>
      simp only [Option.map_some, onE, List.map_append, List.map_cons, List.map_nil, mv, Int.mul_one]
      congr 4
      rw [IntKind.wrap_i64, IntKind.wrap_u32, IntKind.wrap_u32, IntKind.wrap_u32]
      omega
  · rw [if_neg h2, if_neg h2]
    by_cases h3 : x.1 = 3
    · rw [if_pos h3, if_pos h3]
      rcases snocV st with rfl | ⟨l, v, rfl⟩
      · rfl
      · simp only [List.map_append, List.map_cons, List.map_nil, List.getLast?_append, List.getLast?_singleton, Option.some_or, List.dropLast_concat, onE, mv]
        congr 4
        have := mv_sub by' 0 v.1 0 v.2.1
        simp only [Int.mul_zero, Int.add_zero] at this
        rw [show IntKind.u32.wrap 0 = 0 by decide] at this
        exact this
    · rw [if_neg h3, if_neg h3]
      by_cases h4 : x.1 = 4 ∨ x.1 = 5 ∨ x.1 = 6
      · rw [if_pos h4, if_pos h4]
        rcases snocV st with rfl | ⟨l0, v, rfl⟩
        · rfl
        · rcases snocV l0 with rfl | ⟨l, w, rfl⟩
          · rfl
          · simp only [List.map_append, List.map_cons, List.map_nil, List.getLast?_append, List.getLast?_singleton, Option.some_or, List.dropLast_concat]
            by_cases k4 : x.1 = 4
            · rw [if_pos k4, if_pos k4]
              simp only [List.map_append, List.map_cons, List.map_nil, onE, mv]
              rw [mv_add]
            · rw [if_neg k4, if_neg k4]
              by_cases k5 : x.1 = 5
              · rw [if_pos k5, if_pos k5]
                simp only [List.map_append, List.map_cons, List.map_nil, onE, mv]
                rw [mv_sub]
              · rw [if_neg k5, if_neg k5]
                by_cases hz : w.2.1 = 0 ∧ v.2.1 = 0
                · rw [if_pos hz, if_pos (show (mv by' w).2.1 = 0 ∧ (mv by' v).2.1 = 0 from hz)]
                  simp only [List.map_append, List.map_cons, List.map_nil, onE, mv, hz.1, hz.2]
                  rw [mv_mul]
                · rw [if_neg hz, if_neg (show ¬ ((mv by' w).2.1 = 0 ∧ (mv by' v).2.1 = 0) from hz)]
                  rfl
      · rw [if_neg h4, if_neg h4]
        simp only [List.map_append, List.map_cons, List.map_nil, onE, mv, Int.mul_zero, Int.add_zero]
        rw [show IntKind.u32.wrap x.2.1 = x.2.1 by rw [IntKind.wrap_u32]; omega]

theorem run_moved (by' : Int) (labels : List Sym) : ∀ (e : List Item) (st : List Val), (∀ x ∈ e, 0 ≤ x.2.1 ∧ x.2.1 ≤ 4294967295) → runR (labels.map fun x => (x.1, IntKind.i64.wrap (x.2.1 + by'), ())) (st.map (mv by')) e = onE (List.map (mv by')) (runR labels st e)
  | [], st, _ => rfl
  | x :: e, st, h => by
    simp only [runR]
    rw [step_moved by' labels x (h x (by simp)) st]
    cases stepR labels st x with
    | ok s => exact run_moved by' labels e s fun y hy => h y (by simp [hy])
    | error k => rfl

end Rv
