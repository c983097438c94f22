/- The law ScanBlanks, plainly. -/
import Derived.Test.YtlbfhddhojejfaaDoorPScanL
set_option linter.all false
namespace Rv
open Go

def oddB (c : Int) : Bool := decide (c < 9 ∨ 9 < c ∧ c < 32 ∨ 126 < c ∨ c = 33 ∨ c = 47 ∨ c = 60 ∨ c = 91 ∨ c = 39)

theorem odd_tok {c : Int} (h0 : 0 ≤ c) (h1 : c ≤ 255) (ho : oddB c = true) (w : Str) : lineR 0 (UInt8.ofNat c.toNat :: 32 :: w) = .error 20 := by
  have ho := of_decide_eq_true ho
  have hb : (UInt8.ofNat c.toNat).toNat = c.toNat := by rw [UInt8.toNat_ofNat', Nat.mod_eq_of_lt (by omega)]
  have ne : ∀ n : Nat, n < 256 → c ≠ n → UInt8.ofNat c.toNat ≠ UInt8.ofNat n := fun n hn hc e => by
    have := congrArg UInt8.toNat e
    rw [hb, UInt8.toNat_ofNat', Nat.mod_eq_of_lt hn] at this
    omega
  have h59 : UInt8.ofNat c.toNat ≠ 59 := ne 59 (by omega) (by omega)
  have h32 : UInt8.ofNat c.toNat ≠ 32 := ne 32 (by omega) (by omega)
  have h9 : UInt8.ofNat c.toNat ≠ 9 := ne 9 (by omega) (by omega)
  have h46 : UInt8.ofNat c.toNat ≠ 46 := ne 46 (by omega) (by omega)
  rw [lineR_cons, if_neg h59, if_neg (fun h => h.elim h32 h9)]
  have hL : isL (UInt8.ofNat c.toNat) = false := by unfold isL; rw [hb]; simp; omega
  have hD : isD (UInt8.ofNat c.toNat) = false := by unfold isD; rw [hb]; simp; omega
  have hS : isS (UInt8.ofNat c.toNat) = false := by
    unfold isS
    have n1 := ne 44 (by omega) (by omega)
    have n2 := ne 58 (by omega) (by omega)
    have n3 := ne 43 (by omega) (by omega)
    have n4 := ne 45 (by omega) (by omega)
    have n5 := ne 42 (by omega) (by omega)
    have n6 := ne 40 (by omega) (by omega)
    have n7 := ne 41 (by omega) (by omega)
    have n8 := ne 61 (by omega) (by omega)
    rw [List.contains_eq_mem, decide_eq_false_iff_not]
    intro hm
    simp only [List.mem_cons, List.not_mem_nil, or_false] at hm
    rcases hm with e | e | e | e | e | e | e | e
    · exact n1 e
    · exact n2 e
    · exact n3 e
    · exact n4 e
    · exact n5 e
    · exact n6 e
    · exact n7 e
    · exact n8 e
  unfold tokAt
  rw [hL, hD, hS]
  simp [h46]

/-- The place of a token, so much nearer. -/
def nearer (k : Int) (t : Tok) : Tok := (t.1, IntKind.i64.wrap (t.2.1 - k), t.2.2.1, t.2.2.2.1, ())

theorem blanks_loop (n : Nat) (c : Int) (hd : Bool) (w : Str) (k : Int) (l : List Tok) (e : Int) (m : List Tok) (f : Int) (o : List Tok) (g : Int) (hm : m.length < 1000000) : ∀ (q i : Nat), i ≤ m.length → m.length - i < q →
    rivetlaw14_ScanBlanks.l9 n q c hd w k l e ((m.take i).map (nearer k) ++ m.drop i) f o g (i : Int) = rivetlaw14_ScanBlanks.j13 n c hd w l e (m.map (nearer k)) f o g (oddB c) := by
  intro q
  induction q with
  | zero => intro i _ h; omega
  | succ q ih =>
    intro i hi hq
    have hlen := map_len (nearer k) m i hi
    simp only [rivetlaw14_ScanBlanks.l9, dt, df]
    rw [hlen]
    by_cases hlt : i < m.length
    · rw [if_pos (by omega), if_pos (by omega), if_pos (by omega), w64 (x := (i : Int) + 1) (by omega), show (i : Int) + 1 = ((i + 1 : Nat) : Int) by omega, Int.toNat_natCast]
      have := set_map (nearer k) (0, 0, [], 0, ()) m i hlt
      have ih' := ih (i + 1) (by omega) (by omega)
      rw [← this] at ih'
      exact ih'
    · rw [if_neg (by omega)]
      have : i = m.length := by omega
      subst this
      rw [List.take_length, List.drop_length, List.append_nil]
      unfold oddB
      (repeat' split) <;> first | (congr 1; symm; rw [decide_eq_true_eq]; omega) | (congr 1; apply decide_eq_decide.2; omega)

theorem blanks_end (n : Nat) (c : Int) (w : Str) (l : List Tok) (e : Int) (odd : Bool) (hw : w.length ≤ 100) (hl : l.length < 1000000) (h0 : 0 ≤ c) (h1 : c ≤ 255) (ho : odd = oddB c) : rivetlaw14_ScanBlanks.j13 n c true w l e l e l e odd = some (true, ()) := by
  unfold rivetlaw14_ScanBlanks.j13
  have hb : bytesOf [c] = [UInt8.ofNat c.toNat] := rfl
  rw [hb]
  simp only [List.cons_append, List.nil_append, List.length_cons, List.length_nil]
  rw [if_pos (by omega), if_pos (by omega), line_eq _ (by simp; omega), Option.bind_some, if_pos (by omega), if_pos (by omega), line_eq _ (by simp; omega), Option.bind_some, same_eq l l (by omega)]
  simp only [decide_true, if_true, Option.bind_some]
  have h59 : lineR 0 (59 :: 32 :: UInt8.ofNat c.toNat :: w) = .ok [] := by rw [lineR_cons, if_pos rfl]
  rw [h59]
  cases hodd : odd with
  | false => rfl
  | true =>
    rw [odd_tok h0 h1 (by rw [← ho, hodd])]
    rfl

theorem blanks_law (s : Str) (n c : Int) (hs : s.length ≤ 9223372036854775807) (hn0 : 0 ≤ n) (hn1 : n ≤ 255) (hc0 : 0 ≤ c) (hc1 : c ≤ 255) : rivetlaw14_ScanBlanks.g s n c = some (true, ()) := by
  unfold rivetlaw14_ScanBlanks.g rivetlaw14_ScanBlanks.f
  rw [shown_eq, few_eq s hs]
  simp only [Option.bind_some]
  have hw : (s.take 100).length ≤ 100 := by simp; omega
  generalize hwd : s.take 100 = w at *
  have hk : IntKind.i64.wrap (Int.tmod n 16) = ((n.toNat % 16 : Nat) : Int) := by
    have : Int.tmod n 16 = n % 16 := Int.tmod_eq_emod_of_nonneg hn0
    rw [this, w64 (by omega)]; omega
  rw [hk]
  have hk16 : n.toNat % 16 < 16 := Nat.mod_lt _ (by omega)
  generalize n.toNat % 16 = k at *
  rw [if_pos ⟨by omega, by simp only [List.length_cons, List.length_nil]; omega⟩]
  have hpad : ((([32, 32, 32, 32, 32, 32, 32, 32, 32, 32, 32, 32, 32, 32, 32, 32] : Str).take ((k : Int)).toNat).drop 0) = List.replicate k 32 := by
    rw [List.drop_zero, Int.toNat_natCast]
    have : ([32, 32, 32, 32, 32, 32, 32, 32, 32, 32, 32, 32, 32, 32, 32, 32] : Str) = List.replicate 16 32 := rfl
    rw [this, List.take_replicate, Nat.min_eq_left (by omega)]
  rw [hpad, line_eq w (by omega), Option.bind_some, if_pos (by simp; omega), line_eq _ (by simp; omega), Option.bind_some, if_pos (by simp; omega), if_pos (by simp; omega), line_eq _ (by simp; omega), Option.bind_some]
  have e2 : lineR 0 (List.replicate k 32 ++ w) = exMap (List.map (shift k)) (lineR 0 w) := by
    rw [lineR_blanks, ← lineR_shift (k : Int) w.length 0 w (Nat.le_refl _)]
  have e3 : lineR 0 ((w ++ [9]) ++ List.replicate k 32) = lineR 0 w := by
    rw [List.append_assoc, List.cons_append, List.nil_append, lineR_app (.inr rfl) _ w.length 0 w (Nat.le_refl _)]
    have : ∀ j : Int, lineR j (List.replicate k 32) = .ok [] := fun j => by
      have := lineR_blanks j k []
      rw [List.append_nil, lineR_nil] at this
      exact this
    cases lineR 0 w with
    | error e => rfl
    | ok l =>
      simp only [this, List.append_nil]
      split <;> rfl
  rw [e2, e3]
  have hlen := lineOut_len (k := 0) (s := w)
  have hnear : ((lineOut [] (exMap (List.map (shift k)) (lineR 0 w))).1).map (nearer k) = (lineOut [] (lineR 0 w)).1 := by
    cases h : lineR 0 w with
    | error e => rfl
    | ok l =>
      simp only [exMap, lineOut, List.nil_append, List.map_map]
      have hbd := lineR_bound w.length 0 w l (Nat.le_refl _) h
      conv => rhs; rw [← List.map_id l]
      apply List.map_congr_left
      intro t ht
      have := hbd t ht
      simp only [Function.comp, nearer, shift, id]
      rw [w64 (by omega)]
      obtain ⟨t1, t2, t3, t4, _⟩ := t
      simp only [Prod.mk.injEq, true_and, and_true]
      omega
  have herr : (lineOut [] (exMap (List.map (shift k)) (lineR 0 w))).2.1 = (lineOut [] (lineR 0 w)).2.1 := by
    cases lineR 0 w <;> rfl
  have hml : (lineOut [] (exMap (List.map (shift k)) (lineR 0 w))).1.length < 1000000 := by
    have := congrArg List.length hnear
    rw [List.length_map] at this
    omega
  have := blanks_loop (1000 + s.length + n.toNat + c.toNat) c true w k (lineOut [] (lineR 0 w)).1 (lineOut [] (lineR 0 w)).2.1 (lineOut [] (exMap (List.map (shift k)) (lineR 0 w))).1 (lineOut [] (exMap (List.map (shift k)) (lineR 0 w))).2.1 (lineOut [] (lineR 0 w)).1 (lineOut [] (lineR 0 w)).2.1 hml (1000 + s.length + n.toNat + c.toNat) 0 (by omega) (by
    have h1 : w.length ≤ s.length := by rw [← hwd]; simp; omega
    have h2 := congrArg List.length hnear
    rw [List.length_map] at h2
    omega)
  rw [List.take_zero, List.map_nil, List.nil_append, List.drop_zero] at this
  refine Eq.trans this ?_
  rw [hnear, herr]
  exact blanks_end _ c w _ _ _ hw (by omega) hc0 hc1 rfl

theorem blanks_wf {s : Str} {n c : Int} (h : s.length ≤ maxLen ∧ (Lit.int .u8 n).wf = true ∧ (Lit.int .u8 c).wf = true ∧ True) : rivetlaw14_ScanBlanks.g s n c = some (true, ()) :=
  blanks_law s n c (wfLen h.1) (wfU8 h.2.1).1 (wfU8 h.2.1).2 (wfU8 h.2.2.1).1 (wfU8 h.2.2.1).2

end Rv
