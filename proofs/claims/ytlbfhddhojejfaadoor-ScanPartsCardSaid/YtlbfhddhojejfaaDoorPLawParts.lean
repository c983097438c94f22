/- The law ScanParts, plainly. -/
import Derived.Test.YtlbfhddhojejfaaDoorPScanL
set_option linter.all false
namespace Rv
open Go

/-- A semicolon is made a blank. -/
def noSemi (b : UInt8) : UInt8 := if b = 59 then 32 else b

/-- The place of a token, so much further. -/
def further (j : Int) (t : Tok) : Tok := (t.1, IntKind.i64.wrap (IntKind.i64.wrap (t.2.1 + j) + 1), t.2.2.1, t.2.2.2.1, ())

theorem parts_last (n : Nat) (x : Str) (l m o : List Tok) (g : Int) (hl : l.length < 1000000) (hm : m.length < 1000000) (ho : o.length < 1000000) : ∀ (q i : Nat), i ≤ m.length → m.length - i < q →
    rivetlaw14_ScanParts.l18 n q true x l ((m.take i).map (further x.length) ++ m.drop i) o g (i : Int) = some (decide (g = 0) && decide (o = l ++ m.map (further x.length)), ()) := by
  intro q
  induction q with
  | zero => intro i _ h; omega
  | succ q ih =>
    intro i hi hq
    have hlen := map_len (further x.length) m i hi
    simp only [rivetlaw14_ScanParts.l18, dt, df]
    rw [hlen]
    by_cases hlt : i < m.length
    · rw [if_pos (by omega), if_pos (by omega), if_pos (by omega), w64 (x := (i : Int) + 1) (by omega), show (i : Int) + 1 = ((i + 1 : Nat) : Int) by omega, Int.toNat_natCast]
      have := set_map (further x.length) (0, 0, [], 0, ()) m i hlt
      have ih' := ih (i + 1) (by omega) (by omega)
      rw [← this] at ih'
      exact ih'
    · rw [if_neg (by omega)]
      have : i = m.length := by omega
      subst this
      rw [List.take_length, List.drop_length, List.append_nil]
      simp only [if_true, List.nil_append, List.length_nil, Nat.zero_add]
      by_cases hg : g = 0
      · rw [if_pos hg, if_pos (by omega), if_pos (by simp; omega), same_eq _ _ (by omega)]
        simp [hg]
      · rw [if_neg hg]
        simp [hg]

theorem parts_end (n : Nat) (hn : 1000 ≤ n) (a b x : Str) (hb : b.length ≤ 9223372036854775807) (hx : x.length ≤ 100) (hno : (59 : UInt8) ∉ x) (m : Nat) (i : Int) (ha : ¬ i < ((a.take 100).length : Int)) (ha' : a.length ≤ 9223372036854775807) : rivetlaw14_ScanParts.l4 n (m + 1) a b true x i = some (true, ()) := by
  simp only [rivetlaw14_ScanParts.l4, dt, df]
  rw [few_eq a ha', Option.bind_some, if_neg ha, few_eq b hb, Option.bind_some, line_eq x (by omega), Option.bind_some]
  have hy : (b.take 100).length ≤ 100 := by simp; omega
  generalize b.take 100 = y at *
  rw [line_eq y (by omega), Option.bind_some, if_pos (by simp; omega), if_pos (by simp; omega), line_eq _ (by simp; omega), Option.bind_some]
  have e : lineR 0 (x ++ [32] ++ y) = match lineR 0 x with
      | .error e => .error e
      | .ok l => match lineR (0 + x.length + 1) y with
        | .error e => .error e
        | .ok m => .ok (l ++ m) := by
    rw [List.append_assoc, List.cons_append, List.nil_append, lineR_app (.inl rfl) _ x.length 0 x (Nat.le_refl _)]
    cases lineR 0 x with
    | error e => rfl
    | ok l =>
      simp only [hno, if_false]
      cases lineR (0 + x.length + 1) y <;> rfl
  have e2 : lineR (0 + x.length + 1) y = exMap (List.map (shift (x.length + 1))) (lineR 0 y) := by
    rw [show (0 : Int) + x.length + 1 = 0 + ((x.length : Int) + 1) by omega, lineR_shift _ y.length 0 y (Nat.le_refl _)]
  rw [e, e2]
  simp only [if_true]
  have nz : ∀ (s : Str) (e : Int), lineR 0 s = .error e → e ≠ 0 := by
    have gen : ∀ (n : Nat) (k : Int) (s : Str) (e : Int), s.length ≤ n → lineR k s = .error e → e ≠ 0 := by
      intro n
      induction n with
      | zero =>
        intro k s e hs h
        have : s = [] := List.length_eq_zero_iff.1 (by omega)
        subst this
        rw [lineR_nil] at h; cases h
      | succ n ih =>
        intro k s e hs h
        cases s with
        | nil => rw [lineR_nil] at h; cases h
        | cons c r =>
          simp only [List.length_cons] at hs
          rw [lineR_cons] at h
          split at h
          · cases h
          · split at h
            · exact ih _ _ _ (by omega) h
            · split at h
              · rename_i e' hT
                cases h
                unfold tokAt at hT
                (repeat' split at hT) <;> first | (cases hT; done) | (cases hT; decide)
              · split at h
                · rename_i hE
                  cases h
                  exact ih _ _ _ (by simp; omega) hE
                · cases h
    exact fun s e h => gen s.length 0 s e (Nat.le_refl _) h
  have hlx := lineOut_len (k := 0) (s := x)
  have hly := lineOut_len (k := 0) (s := y)
  cases h1 : lineR 0 x with
  | error e1 =>
    have := nz x e1 h1
    simp only [lineOut]
    rw [if_pos this]
    simp
  | ok l =>
    simp only [lineOut, List.nil_append]
    simp only [ne_eq, not_true_eq_false, if_false]
    rw [h1] at hlx
    simp only [lineOut, List.nil_append] at hlx
    cases h2 : lineR 0 y with
    | error e2 =>
      have := nz y e2 h2
      simp only [exMap]
      rw [if_pos this]
      simp
    | ok m' =>
      rw [h2] at hly
      simp only [lineOut, List.nil_append] at hly
      simp only [exMap]
      simp only [ne_eq, not_true_eq_false, if_false]
      have hf : m'.map (further x.length) = m'.map (shift ((x.length : Int) + 1)) := by
        apply List.map_congr_left
        intro t ht
        have := lineR_bound y.length 0 y m' (Nat.le_refl _) h2 t ht
        unfold further shift
        rw [w64 (x := t.2.1 + x.length) (by omega), w64 (by omega)]
        obtain ⟨t1, t2, t3, t4, _⟩ := t
        simp only [Prod.mk.injEq, true_and, and_true]
        omega
      have := parts_last n x l m' (l ++ m'.map (shift ((x.length : Int) + 1))) 0 (by omega) (by omega) (by simp; omega) n 0 (by omega) (by omega)
      rw [List.take_zero, List.map_nil, List.nil_append, List.drop_zero] at this
      refine Eq.trans this ?_
      rw [hf]
      simp

theorem parts_loop (n : Nat) (a b : Str) (hb : b.length ≤ 9223372036854775807) (ha : a.length ≤ 9223372036854775807) (hn : 1000 ≤ n) : ∀ (q i : Nat), i ≤ (a.take 100).length → (a.take 100).length - i < q →
    rivetlaw14_ScanParts.l4 n q a b true ((a.take i).map noSemi) (i : Int) = some (true, ()) := by
  intro q
  induction q with
  | zero => intro i _ h; omega
  | succ q ih =>
    intro i hi hq
    have h100 : (a.take 100).length ≤ 100 := by simp; omega
    have hle : (a.take 100).length ≤ a.length := by simp; omega
    have hxl : ((a.take i).map noSemi).length = i := by simp; omega
    by_cases hlt : i < (a.take 100).length
    · have hia : i < a.length := by omega
      have step := ih (i + 1) (by omega) (by omega)
      have htake : (a.take (i + 1)).map noSemi = (a.take i).map noSemi ++ [noSemi (a.getD i 0)] := by
        rw [List.take_succ_eq_append_getElem hia, List.map_append]
        simp [List.getD, hia]
      rw [htake] at step
      simp only [rivetlaw14_ScanParts.l4, dt, df]
      rw [few_eq a ha, Option.bind_some]
      dsimp only
      rw [if_pos (by omega), if_pos (by omega), w64 (by omega), bt_nat]
      have b59 : (((a.getD i 0).toNat : Int) = 59) = (a.getD i 0 = 59) := byte_is _ 59 (by decide)
      have hone : (a.take (i + 1)).drop i = [a.getD i 0] := by
        rw [List.drop_take, drop_cons hia]
        simp [show i + 1 - i = 1 by omega]
      unfold rivetlaw14_ScanParts.j5
      rw [w64 (by omega), show (i : Int) + 1 = ((i + 1 : Nat) : Int) by omega, Int.toNat_natCast, Int.toNat_natCast, hone]
      by_cases h59 : a.getD i 0 = 59
      · rw [if_pos (b59.mpr h59), if_pos (by simp; omega)]
        rw [h59] at step
        exact step
      · rw [if_neg (fun h => h59 (b59.mp h)), if_pos (by omega), if_pos (by omega), if_pos (by simp; omega)]
        have : noSemi (a.getD i 0) = a.getD i 0 := if_neg h59
        rw [this] at step
        exact step
    · refine parts_end n hn a b _ hb (by omega) ?_ q i (by omega) ha
      intro hm
      obtain ⟨c, _, hc⟩ := List.mem_map.1 hm
      unfold noSemi at hc
      split at hc
      · exact absurd hc (by decide)
      · rename_i h; exact h hc

theorem parts_law (a b : Str) (ha : a.length ≤ 9223372036854775807) (hb : b.length ≤ 9223372036854775807) : rivetlaw14_ScanParts.g a b = some (true, ()) := by
  unfold rivetlaw14_ScanParts.g rivetlaw14_ScanParts.f
  rw [shown_eq, Option.bind_some]
  have := parts_loop (1000 + a.length + b.length) a b hb ha (by omega) (1000 + a.length + b.length) 0 (by omega) (by simp; omega)
  simpa using this

theorem parts_wf {a b : Str} (h : a.length ≤ maxLen ∧ b.length ≤ maxLen ∧ True) : rivetlaw14_ScanParts.g a b = some (true, ()) := parts_law a b (wfLen h.1) (wfLen h.2.1)

end Rv
