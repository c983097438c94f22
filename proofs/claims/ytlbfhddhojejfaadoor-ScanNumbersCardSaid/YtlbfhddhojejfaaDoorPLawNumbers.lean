/- The law ScanNumbers, plainly. -/
import Derived.Test.YtlbfhddhojejfaaDoorPFit
set_option linter.all false
namespace Rv
open Go

/-- A digit's sign. -/
def dch (d : Nat) : UInt8 := if d < 10 then UInt8.ofNat (48 + d) else UInt8.ofNat (87 + d)

theorem dch_tab : ((List.range 16).all fun d => decide (digOf (dch d) = some d) && isW (dch d) && (decide (10 ≤ d) || isD (dch d)) && decide ((([48, 49, 50, 51, 52, 53, 54, 55, 56, 57, 97, 98, 99, 100, 101, 102] : Str).take (d + 1)).drop d = [dch d])) = true := by decide +kernel

theorem dch_facts {d : Nat} (h : d < 16) : digOf (dch d) = some d ∧ isW (dch d) = true ∧ (d < 10 → isD (dch d) = true) ∧ (([48, 49, 50, 51, 52, 53, 54, 55, 56, 57, 97, 98, 99, 100, 101, 102] : Str).take (d + 1)).drop d = [dch d] := by
  have := List.all_eq_true.1 dch_tab d (by simpa using h)
  simp only [Bool.and_eq_true, decide_eq_true_eq, Bool.or_eq_true] at this
  obtain ⟨⟨⟨h1, h2⟩, h3⟩, h4⟩ := this
  exact ⟨h1, h2, fun h => h3.resolve_left (by omega), h4⟩

/-- So many digits of a number. -/
def digs (b : Nat) : Nat → Nat → Str
  | 0, _ => []
  | k + 1, x => digs b k (x / b) ++ [dch (x % b)]

theorem digs_len (b : Nat) : ∀ (k x : Nat), (digs b k x).length = k
  | 0, _ => rfl
  | k + 1, x => by simp [digs, digs_len b k]

theorem numFrom_app (b : Nat) : ∀ (s t : Str) (v : Nat), numFrom b v (s ++ t) = (numFrom b v s).bind fun w => numFrom b w t
  | [], t, v => rfl
  | c :: s, t, v => by
    simp only [List.cons_append, numFrom]
    cases digOf c with
    | none => rfl
    | some d =>
      simp only
      split
      · split
        · exact numFrom_app b s t _
        · rfl
      · rfl

theorem numFrom_zeros (b : Nat) (hb : 0 < b) : ∀ z : Nat, numFrom b 0 (List.replicate z 48) = some 0
  | 0 => rfl
  | z + 1 => by
    rw [List.replicate_succ]
    have h : digOf 48 = some 0 := by decide
    simp only [numFrom, h]
    rw [if_pos hb, if_pos (by omega), Nat.zero_mul, Nat.add_zero]
    exact numFrom_zeros b hb z

theorem numFrom_digs (b : Nat) (hb : 2 ≤ b) (hb16 : b ≤ 16) (z : Nat) : ∀ (k x : Nat), x < b ^ k → x < 4294967296 → numFrom b 0 (List.replicate z 48 ++ digs b k x) = some x
  | 0, x, h, _ => by
    have : x = 0 := by simpa using h
    subst this
    rw [digs, List.append_nil]
    exact numFrom_zeros b (by omega) z
  | k + 1, x, h, hx => by
    rw [digs, ← List.append_assoc, numFrom_app]
    have h1 : x / b < b ^ k := by rw [Nat.div_lt_iff_lt_mul (by omega)]; rw [Nat.pow_succ] at h; exact h
    have h2 : x / b ≤ x := Nat.div_le_self _ _
    rw [numFrom_digs b hb hb16 z k (x / b) h1 (by omega)]
    have hd : x % b < b := Nat.mod_lt _ (by omega)
    simp only [Option.bind_some, numFrom, (dch_facts (show x % b < 16 by omega)).1]
    have e : x / b * b + x % b = x := by rw [Nat.mul_comm]; exact Nat.div_add_mod x b
    rw [if_pos hd, e, if_pos hx]

theorem digs_all (b : Nat) (hb : 2 ≤ b) (hb16 : b ≤ 16) (p : UInt8 → Bool) (hp : ∀ d, d < b → p (dch d) = true) : ∀ k x, (digs b k x).all p = true
  | 0, _ => rfl
  | k + 1, x => by
    rw [digs, List.all_append, digs_all b hb hb16 p hp k]
    have := hp (x % b) (Nat.mod_lt _ (by omega))
    simpa using this

/-- A number alone. -/
theorem line_num (k : Int) {c : UInt8} {r : Str} (hD : isD c = true) (ha : (c :: r).all isW = true) : lineR k (c :: r) = match num (c :: r) with
    | some v => .ok [(2, k, c :: r, v, ())]
    | none => .error 21 := by
  have hW : isW c = true := by simp [isW, hD]
  obtain ⟨h1, h2⟩ := blank_facts hW
  have hL : ¬ isL c = true := by
    intro h
    unfold isL at h
    unfold isD at hD
    simp only [decide_eq_true_eq] at h hD
    omega
  rw [lineR_cons, if_neg h1, if_neg h2]
  unfold tokAt
  rw [if_neg hL, if_pos hD, wordOf_all ha]
  cases num (c :: r) with
  | none => rfl
  | some v =>
    simp only [List.length_cons]
    rw [List.drop_eq_nil_of_le (by omega), lineR_nil]

theorem tmod_nat (a b : Nat) : Int.tmod (a : Int) (b : Int) = ((a % b : Nat) : Int) := by
  rw [Int.tmod_eq_emod_of_nonneg (by omega)]; simp
theorem tdiv_nat (a b : Nat) : Int.tdiv (a : Int) (b : Int) = ((a / b : Nat) : Int) := by
  rw [Int.tdiv_eq_ediv_of_nonneg (by omega)]; simp

theorem numbers_end (n : Nat) (n0 : Nat) (z : Nat) (s : Str) (hn0 : n0 < 4294967296) (hs : s.length ≤ 9223372036854775807) (x y : Int) (D : Str) (i : Int) (hi : ¬ i < 10) (m : Nat) (noughts : Int) (hz : Int.tmod noughts 16 = (z : Int)) (hz16 : z < 16) :
    rivetlaw14_ScanNumbers.l8 n (m + 1) n0 noughts s true (digs 10 10 n0) (digs 16 10 n0) x y D i = some (true, ()) := by
  simp only [rivetlaw14_ScanNumbers.l8, dt, df]
  rw [if_neg hi, hz]
  have hpad : ((([48, 48, 48, 48, 48, 48, 48, 48, 48, 48, 48, 48, 48, 48, 48] : Str).take ((z : Int)).toNat).drop 0) = List.replicate z 48 := by
    rw [List.drop_zero, Int.toNat_natCast]
    have : ([48, 48, 48, 48, 48, 48, 48, 48, 48, 48, 48, 48, 48, 48, 48] : Str) = List.replicate 15 48 := rfl
    rw [this, List.take_replicate, Nat.min_eq_left (by omega)]
  rw [hpad]
  have h10 := digs_len 10 10 n0
  have h16 := digs_len 16 10 n0
  rw [if_pos ⟨by omega, by simp only [List.length_cons, List.length_nil]; omega⟩]
  have hrl : (List.replicate z (48 : UInt8)).length = z := List.length_replicate
  rw [if_pos (by simp; omega), if_pos (by simp; omega), if_pos (by simp; omega), if_pos (by simp; omega), if_pos (by simp; omega)]
  -- the two numbers
  have w10 : (List.replicate z (48 : UInt8) ++ digs 10 10 n0).all isW = true := by
    rw [List.all_append, digs_all 10 (by omega) (by omega) isW fun d hd => (dch_facts (by omega)).2.1]
    simp [List.all_replicate]; right; decide
  have w16 : (List.replicate z (48 : UInt8) ++ digs 16 10 n0).all isW = true := by
    rw [List.all_append, digs_all 16 (by omega) (by omega) isW fun d hd => (dch_facts (by omega)).2.1]
    simp [List.all_replicate]; right; decide
  have d10 : (List.replicate z (48 : UInt8) ++ digs 10 10 n0).all isD = true := by
    rw [List.all_append, digs_all 10 (by omega) (by omega) isD fun d hd => (dch_facts (by omega)).2.2.1 hd]
    simp [List.all_replicate]; right; decide
  have v10 := numFrom_digs 10 (by omega) (by omega) z 10 n0 (by omega) hn0
  have v16 := numFrom_digs 16 (by omega) (by omega) z 10 n0 (by omega) hn0
  have l10 : (List.replicate z (48 : UInt8) ++ digs 10 10 n0).length = z + 10 := by simp [h10]
  have l16 : (List.replicate z (48 : UInt8) ++ digs 16 10 n0).length = z + 10 := by simp [h16]
  have e1 : (((((([48, 120] : Str) ++ List.replicate z 48) ++ digs 16 10 n0) ++ ([32] : Str)) ++ List.replicate z 48) ++ digs 10 10 n0) = (48 :: 120 :: (List.replicate z 48 ++ digs 16 10 n0)) ++ 32 :: (List.replicate z 48 ++ digs 10 10 n0) := by simp
  rw [e1]
  generalize hA : List.replicate z (48 : UInt8) ++ digs 16 10 n0 = A at *
  generalize hB : List.replicate z (48 : UInt8) ++ digs 10 10 n0 = B at *
  have hA0 : A ≠ [] := by intro h; rw [h] at l16; simp at l16
  have numA : num (48 :: 120 :: A) = some n0 := by
    unfold num
    have : ([48, 120] : Str).isPrefixOf (48 :: 120 :: A) = true := by simp [List.isPrefixOf]
    rw [if_pos this]
    simp only [List.drop_succ_cons, List.drop_zero]
    rw [if_neg hA0]; exact v16
  obtain ⟨b0, B', rfl⟩ : ∃ b r, B = b :: r := by
    cases B with
    | nil => simp at l10
    | cons b r => exact ⟨b, r, rfl⟩
  have numB : num (b0 :: B') = some n0 := by
    unfold num
    have : ¬ ([48, 120] : Str).isPrefixOf (b0 :: B') = true := by
      cases B' with
      | nil => simp [List.isPrefixOf]
      | cons b1 B'' =>
        have : isD b1 = true := List.all_eq_true.1 d10 b1 (by simp)
        intro h
        simp only [List.isPrefixOf, Bool.and_true, Bool.and_eq_true, beq_iff_eq] at h
        rw [← h.2] at this
        exact absurd this (by decide)
    rw [if_neg this, if_neg (by simp)]; exact v10
  have line1 : lineR 0 ((48 :: 120 :: A) ++ 32 :: (b0 :: B')) = .ok [(2, 0, 48 :: 120 :: A, (n0 : Int), ()), (2, (A.length : Int) + 3, b0 :: B', (n0 : Int), ())] := by
    have hw : (48 :: 120 :: A).all isW = true := by
      simp only [List.all_cons, w16, Bool.and_true]; decide
    have no59 : (59 : UInt8) ∉ 48 :: 120 :: A := fun hm => absurd (List.all_eq_true.1 hw 59 hm) (by decide)
    rw [lineR_app (.inl rfl) _ _ 0 _ (Nat.le_refl _), line_num 0 (by decide) hw, numA]
    simp only [no59, if_false]
    rw [line_num _ (List.all_eq_true.1 d10 b0 (by simp)) w10, numB]
    simp only [List.cons_append, List.nil_append, List.length_cons]
    congr 5
    omega
  rw [line_eq _ (by simp at l10 ⊢; omega), line1, Option.bind_some, if_pos (by omega), if_pos (by simp; omega), if_pos (by simp; omega)]
  -- with another letter in it
  have e2 : ([49] : Str) ++ (((digs 16 10 n0).take (((digs 16 10 n0).length : Int)).toNat).drop ((2 : Int)).toNat) ++ ([103] : Str) = 49 :: ((digs 16 10 n0).drop 2 ++ [103]) := by
    rw [Int.toNat_natCast, List.take_length]; rfl
  rw [e2]
  have line2 : lineR 0 (49 :: ((digs 16 10 n0).drop 2 ++ [103])) = .error 21 := by
    have hall : (49 :: ((digs 16 10 n0).drop 2 ++ [103])).all isW = true := by
      have h1 := digs_all 16 (by omega) (by omega) isW (fun d hd => (dch_facts (by omega)).2.1) 10 n0
      simp only [List.all_cons, List.all_append, List.all_nil, Bool.and_true, Bool.and_eq_true]
      refine ⟨by decide, List.all_eq_true.2 fun x hx => List.all_eq_true.1 h1 x (List.mem_of_mem_drop hx), by decide⟩
    rw [line_num 0 (by decide) hall]
    have : num (49 :: ((digs 16 10 n0).drop 2 ++ [103])) = none := by
      unfold num
      have : ¬ ([48, 120] : Str).isPrefixOf (49 :: ((digs 16 10 n0).drop 2 ++ [103])) = true := by simp [List.isPrefixOf]
      rw [if_neg this, if_neg (by simp), show (49 :: ((digs 16 10 n0).drop 2 ++ [103]) : Str) = (49 :: (digs 16 10 n0).drop 2) ++ [103] from rfl, numFrom_app]
      cases numFrom 10 0 (49 :: (digs 16 10 n0).drop 2) with
      | none => rfl
      | some w =>
        have : digOf 103 = some 16 := by decide
        simp only [Option.bind_some, numFrom, this]
        rw [if_neg (by omega)]
    rw [this]
  have line3 : lineR 0 ([52, 50, 57, 52, 57, 54, 55, 50, 57, 54] : Str) = .error 21 := by
    rw [line_num 0 (by decide) (by decide)]
    have : num ([52, 50, 57, 52, 57, 54, 55, 50, 57, 54] : Str) = none := by decide +kernel
    rw [this]
  have line4 : lineR 0 ([48, 120] : Str) = .error 21 := by
    rw [line_num 0 (by decide) (by decide)]
    have : num ([48, 120] : Str) = none := by decide +kernel
    rw [this]
  rw [line_eq _ (by simp; omega), line2, Option.bind_some, line_eq _ (by decide), line3, Option.bind_some, line_eq _ (by decide), line4, Option.bind_some, few_eq s hs, Option.bind_some]
  obtain ⟨r, hr, hok⟩ := fit13_eq (s.take 100) (by simp; omega)
  have hrl := hok.2.2
  rw [hr, Option.bind_some, if_pos (by simp; omega), if_pos (by simp; omega)]
  have line5 : lineR 0 ((r ++ [32, 46]) ++ r) = .ok [(1, 0, r, 0, ()), (4, (r.length : Int) + 1, r, 0, ())] := by
    rw [show (r ++ [32, 46]) ++ r = r ++ 32 :: (46 :: r) by simp, lineR_app (.inl rfl) _ _ 0 _ (Nat.le_refl _), line_name 0 hok]
    simp only [okName_no59 hok, if_false]
    rw [line_dot _ hok]
    simp only [List.cons_append, List.nil_append]
    rw [show (0 : Int) + (r.length : Int) + 1 = (r.length : Int) + 1 by omega]
  rw [line_eq _ (by simp; omega), line5, Option.bind_some]
  have ew : IntKind.i64.wrap ((r.length : Int) + 1) = (r.length : Int) + 1 := w64 (by omega)
  simp [lineOut, ew]

theorem numbers_loop (n : Nat) (n0 : Nat) (z : Nat) (s : Str) (hn0 : n0 < 4294967296) (hs : s.length ≤ 9223372036854775807) (noughts : Int) (hz : Int.tmod noughts 16 = (z : Int)) (hz16 : z < 16) : ∀ (q i x y : Nat) (dec hex : Str), i ≤ 10 → 10 - i < q → x < 4294967296 → y < 4294967296 → dec.length ≤ 10 → hex.length ≤ 10 → dec.length = i → hex.length = i →
    digs 10 (10 - i) x ++ dec = digs 10 10 n0 → digs 16 (10 - i) y ++ hex = digs 16 10 n0 →
    rivetlaw14_ScanNumbers.l8 n q n0 noughts s true dec hex x y ([48, 49, 50, 51, 52, 53, 54, 55, 56, 57, 97, 98, 99, 100, 101, 102] : Str) (i : Int) = some (true, ()) := by
  intro q
  induction q with
  | zero => intro i x y dec hex _ h; omega
  | succ q ih =>
    intro i x y dec hex hi hq hx hy hdl hhl hdi hhi hd hh
    by_cases hlt : i < 10
    · simp only [rivetlaw14_ScanNumbers.l8, dt, df]
      have m10 : Int.tmod (x : Int) 10 = ((x % 10 : Nat) : Int) := tmod_nat x 10
      have m16 : Int.tmod (y : Int) 16 = ((y % 16 : Nat) : Int) := tmod_nat y 16
      have q10 : Int.tdiv (x : Int) 10 = ((x / 10 : Nat) : Int) := tdiv_nat x 10
      have q16 : Int.tdiv (y : Int) 16 = ((y / 16 : Nat) : Int) := tdiv_nat y 16
      have b10 : x % 10 < 10 := Nat.mod_lt _ (by omega)
      have b16 : y % 16 < 16 := Nat.mod_lt _ (by omega)
      have c10 : x / 10 ≤ x := Nat.div_le_self _ _
      have c16 : y / 16 ≤ y := Nat.div_le_self _ _
      rw [if_pos (by omega), m10, m16, q10, q16, w32u (x := ((x % 10 : Nat) : Int) + 1) (by omega), w32u (x := ((y % 16 : Nat) : Int) + 1) (by omega), w32u (x := ((x / 10 : Nat) : Int)) (by omega), w32u (x := ((y / 16 : Nat) : Int)) (by omega), w64 (by omega)]
      have t10 := (dch_facts (show x % 10 < 16 by omega)).2.2.2
      have t16 := (dch_facts b16).2.2.2
      rw [show ((x % 10 : Nat) : Int) + 1 = ((x % 10 + 1 : Nat) : Int) by omega, show ((y % 16 : Nat) : Int) + 1 = ((y % 16 + 1 : Nat) : Int) by omega]
      simp only [Int.toNat_natCast]
      rw [t10, t16]
      rw [if_pos ⟨by omega, by simp only [List.length_cons, List.length_nil]; omega⟩, if_pos ⟨by omega, by omega⟩, if_pos (by simp; omega), if_pos ⟨by omega, by simp only [List.length_cons, List.length_nil]; omega⟩, if_pos ⟨by omega, by omega⟩, if_pos (by simp; omega), show (i : Int) + 1 = ((i + 1 : Nat) : Int) by omega]
      have s10 : digs 10 (10 - i) x = digs 10 (10 - (i + 1)) (x / 10) ++ [dch (x % 10)] := by rw [show 10 - i = (10 - (i + 1)) + 1 by omega]; rfl
      have s16 : digs 16 (10 - i) y = digs 16 (10 - (i + 1)) (y / 16) ++ [dch (y % 16)] := by rw [show 10 - i = (10 - (i + 1)) + 1 by omega]; rfl
      rw [s10, List.append_assoc] at hd
      rw [s16, List.append_assoc] at hh
      exact ih (i + 1) (x / 10) (y / 16) _ _ (by omega) (by omega) (by omega) (by omega) (by simp; omega) (by simp; omega) (by simp; omega) (by simp; omega) hd hh
    · have : i = 10 := by omega
      subst this
      simp only [Nat.sub_self, digs, List.nil_append] at hd hh
      subst hd hh
      exact numbers_end n n0 z s hn0 hs _ _ _ _ (by omega) q noughts hz hz16

theorem numbers_law (n : Int) (z : Int) (s : Str) (hn0 : 0 ≤ n) (hn1 : n ≤ 4294967295) (hz0 : 0 ≤ z) (hz1 : z ≤ 255) (hs : s.length ≤ 9223372036854775807) : rivetlaw14_ScanNumbers.g n z s = some (true, ()) := by
  unfold rivetlaw14_ScanNumbers.g rivetlaw14_ScanNumbers.f
  rw [shown_eq, Option.bind_some]
  obtain ⟨n', rfl⟩ : ∃ k : Nat, n = (k : Int) := ⟨n.toNat, by omega⟩
  obtain ⟨z', rfl⟩ : ∃ k : Nat, z = (k : Int) := ⟨z.toNat, by omega⟩
  exact numbers_loop _ n' (z' % 16) s (by omega) hs _ (tmod_nat z' 16) (Nat.mod_lt _ (by omega)) _ 0 n' n' [] [] (by omega) (by omega) (by omega) (by omega) (by simp) (by simp) rfl rfl (by simp) (by simp)

theorem numbers_wf {n z : Int} {s : Str} (h : (Lit.int .u32 n).wf = true ∧ (Lit.int .u8 z).wf = true ∧ s.length ≤ maxLen ∧ True) : rivetlaw14_ScanNumbers.g n z s = some (true, ()) :=
  numbers_law n z s (wfU32 h.1).1 (wfU32 h.1).2 (wfU8 h.2.1).1 (wfU8 h.2.1).2 (wfLen h.2.2.1)

end Rv
