/- The scanner, plainly. -/
import Derived.Test.YtlbfhddhojejfaaDoorPBase
import Derived.Test.YtlbfhddhojejfaaDoorDef
set_option linter.all false
namespace Rv
open Go

/-- What a byte is. -/
def isL (b : UInt8) : Bool := decide (65 ≤ b.toNat ∧ b.toNat ≤ 90 ∨ 97 ≤ b.toNat ∧ b.toNat ≤ 122 ∨ b.toNat = 95)
def isD (b : UInt8) : Bool := decide (48 ≤ b.toNat ∧ b.toNat ≤ 57)
def isW (b : UInt8) : Bool := isL b || isD b
def wordOf (s : Str) : Str := s.takeWhile isW

theorem some_tt {p : Prop} [Decidable p] (h : p) : some (true, ()) = some (decide p, ()) := by simp [h]
theorem some_ff {p : Prop} [Decidable p] (h : ¬ p) : some (false, ()) = some (decide p, ()) := by simp [h]
theorem some_pq {p q : Prop} [Decidable p] [Decidable q] (h : p ↔ q) : some (decide p, ()) = some (decide q, ()) := by simp [h]

theorem letter_eq (b : UInt8) : scan_letter.g (b.toNat : Int) = some (isL b, ()) := by
  unfold scan_letter.g scan_letter.f isL
  simp only [dt, df]
  (repeat' split) <;> first | (refine some_tt ?_; omega) | (refine some_ff ?_; omega) | (refine some_pq ?_; omega)

theorem digit_eq (b : UInt8) : scan_digit.g (b.toNat : Int) = some (isD b, ()) := by
  unfold scan_digit.g scan_digit.f isD
  simp only [dt, df]
  (repeat' split) <;> first | (refine some_tt ?_; omega) | (refine some_ff ?_; omega) | (refine some_pq ?_; omega)

theorem word_loop (s : Str) (hs : s.length ≤ 9223372036854775807) (n : Nat) : ∀ (m k : Nat), k ≤ s.length → s.length - k < m → scan_word.l2 n m s (k : Int) = some (s.take (k + (wordOf (s.drop k)).length), ()) := by
  intro m
  induction m with
  | zero => intro k _ h; omega
  | succ m ih =>
    intro k hk hm
    have hend : scan_word.j4 n s (k : Int) = some (s.take k, ()) := by
      unfold scan_word.j4
      rw [if_pos (by omega)]
      simp
    simp only [scan_word.l2, dt, df]
    by_cases hlt : k < s.length
    · have hd := drop_cons hlt
      have step : scan_word.j3 n (scan_word.l2 n m) s (k : Int) = some (s.take (k + 1 + (wordOf (s.drop (k + 1))).length), ()) := by
        unfold scan_word.j3
        rw [w64 (by omega)]
        exact ih (k + 1) (by omega) (by omega)
      rw [if_pos (by omega), if_pos (by omega), bt_nat, letter_eq, Option.bind_some]
      cases hl : isL (s.getD k 0) with
      | true =>
        rw [if_neg (by simp), step, hd]
        simp only [wordOf, List.takeWhile_cons, isW, hl, Bool.true_or, if_true, List.length_cons]
        rw [show k + 1 + ((s.drop (k + 1)).takeWhile isW).length = k + (((s.drop (k + 1)).takeWhile isW).length + 1) by omega]
      | false =>
        rw [if_pos rfl, if_pos (by omega), digit_eq, Option.bind_some]
        cases hdg : isD (s.getD k 0) with
        | true =>
          rw [if_pos rfl, step, hd]
          simp only [wordOf, List.takeWhile_cons, isW, hl, hdg, Bool.or_true, if_true, List.length_cons]
          rw [show k + 1 + ((s.drop (k + 1)).takeWhile isW).length = k + (((s.drop (k + 1)).takeWhile isW).length + 1) by omega]
        | false =>
          rw [if_neg (by simp), hend, hd]
          simp only [wordOf, List.takeWhile_cons, isW, hl, hdg, Bool.or_self, Bool.false_eq_true, if_false, List.length_nil, Nat.add_zero]
    · have : k = s.length := by omega
      subst this
      rw [if_neg (by omega), hend]
      simp [wordOf]

theorem word_eq (s : Str) (hs : s.length ≤ 9223372036854775807) : scan_word.g s = some (wordOf s, ()) := by
  unfold scan_word.g scan_word.f
  have := word_loop s hs (1000 + s.length) (1000 + s.length) 0 (by omega) (by omega)
  rw [show ((0 : Nat) : Int) = 0 from rfl] at this
  rw [this]
  congr 2
  simp only [List.drop_zero, Nat.zero_add]
  exact (List.prefix_iff_eq_take.1 (List.takeWhile_prefix isW)).symm

/- Numbers. -/
def lowN (c : Int) : Int := if c / 32 % 2 = 1 then c else c + 32

theorem lower_tab : ((List.range 256).all fun n => decide (bitsI .or .u8 (n : Int) 32 = lowN n)) = true := by decide +kernel

theorem lower_eq (b : UInt8) : internal_strconv_lower.g (b.toNat : Int) = some (lowN b.toNat, ()) := by
  unfold internal_strconv_lower.g internal_strconv_lower.f
  have := List.all_eq_true.1 lower_tab b.toNat (by have := b.toNat_lt; simpa using this)
  rw [of_decide_eq_true this]

def digOf (b : UInt8) : Option Nat :=
  if 48 ≤ b.toNat ∧ b.toNat ≤ 57 then some (b.toNat - 48) else if 97 ≤ b.toNat ∧ b.toNat ≤ 122 then some (b.toNat - 87) else if 65 ≤ b.toNat ∧ b.toNat ≤ 90 then some (b.toNat - 55) else none

def numFrom (base : Nat) : Nat → Str → Option Nat
  | n, [] => some n
  | n, c :: r => match digOf c with
    | some d => if d < base then (if n * base + d < 4294967296 then numFrom base (n * base + d) r else none) else none
    | none => none

def PuR (o : Option Nat) (r : Option (Int × Option Int × Unit)) : Prop :=
  (∀ v, o = some v → r = some ((v : Int), none, ())) ∧ (o = none → ∃ x e, r = some (x, some e, ()) ∧ (e = 1 ∨ e = 2))

theorem PuR.bad {x e : Int} (h : e = 1 ∨ e = 2) : PuR none (some (x, some e, ())) := ⟨fun _ e => (by cases e), fun _ => ⟨x, e, rfl, h⟩⟩

theorem map_getD (s : Str) (k : Nat) (h : k < s.length) : (s.map fun b => (b.toNat : Int)).getD ((k : Int)).toNat 0 = ((s.getD k 0).toNat : Int) := by
  simp [List.getD, h]

theorem pu_digit {n : Nat} {rl : Int → Bool → Str → Int → Int → Bool → Int → (List Int) → Int → Int → Option (Int × (Option Int) × Unit)} {base d v k : Nat} {s9 : Str} {cutoff : Int} {t : List Int} {l : Int} {o : Nat → Option Nat} (hb : base = 10 ∨ base = 16) (hd : d < 36) (hv : v < 4294967296) (hc : 4294967296 ≤ cutoff) (hk : k < 9223372036854775807)
    (hr : ∀ v, v < 4294967296 → PuR (o v) (rl base false s9 cutoff 4294967295 false v t l ((k + 1 : Nat) : Int))) :
    PuR (if d < base then (if v * base + d < 4294967296 then o (v * base + d) else none) else none) (internal_strconv_ParseUint.j46 n rl base false s9 cutoff 4294967295 false v d t l k) := by
  unfold internal_strconv_ParseUint.j46 internal_strconv_ParseUint.j55
  have hm : v * base < 68719476736 := by
    rcases hb with rfl | rfl <;> omega
  rw [w8u (by omega), w64 (x := (k : Int) + 1) (by omega), w64u (x := (base : Int)) (by omega), w64u (x := (d : Int)) (by omega)]
  have e1 : ((v : Int) * (base : Int)) = ((v * base : Nat) : Int) := by simp
  rw [e1]
  have hr' := fun h => hr (v * base + d) h
  generalize v * base = M at *
  rw [w64u (x := (M : Int)) (by omega), w64u (x := (M : Int) + d) (by omega)]
  simp only [dt, df]
  by_cases h1 : d < base
  · by_cases h2 : M + d < 4294967296
    · rw [if_pos h1, if_pos h2, if_neg (by omega), if_neg (by omega), if_pos (by omega), if_neg (by omega)]
      have := hr' h2
      simpa using this
    · rw [if_pos h1, if_neg h2, if_neg (by omega), if_neg (by omega), if_pos (by omega), if_pos (by omega)]
      exact PuR.bad (.inl rfl)
  · rw [if_neg h1, if_pos (by omega)]
    exact PuR.bad (.inr rfl)

theorem pu_loop (s s9 : Str) (base : Nat) (cutoff : Int) (hb : base = 10 ∨ base = 16) (hc : 4294967296 ≤ cutoff) (hs : s.length < 9223372036854775807) (n : Nat) : ∀ (m k v : Nat), k ≤ s.length → s.length - k < m → v < 4294967296 →
    PuR (numFrom base v (s.drop k)) (internal_strconv_ParseUint.l36 n m base false s9 cutoff 4294967295 false v (s.map fun b => (b.toNat : Int)) ((s.map fun b => (b.toNat : Int)).length : Int) k) := by
  intro m
  induction m with
  | zero => intro k v _ h; omega
  | succ m ih =>
    intro k v hk hm hv
    simp only [internal_strconv_ParseUint.l36, dt, df]
    by_cases hlt : k < s.length
    · have hl : k < (s.map fun b => (b.toNat : Int)).length := by simpa using hlt
      rw [if_pos (by omega), if_pos (by omega), drop_cons hlt]
      simp only [map_getD s k hlt, lower_eq, Option.bind_some, Bool.false_eq_true, if_false]
      have step : ∀ d, digOf (s.getD k 0) = some d → d < 36 → PuR (numFrom base v (s.getD k 0 :: s.drop (k + 1))) (internal_strconv_ParseUint.j46 n (internal_strconv_ParseUint.l36 n m) base false s9 cutoff 4294967295 false v d (s.map fun b => (b.toNat : Int)) ((s.map fun b => (b.toNat : Int)).length : Int) k) := by
        intro d hd hd36
        simp only [numFrom, hd]
        exact pu_digit (o := fun v => numFrom base v (s.drop (k + 1))) hb hd36 hv hc (by omega) fun v hv => ih (k + 1) v (by omega) (by omega) hv
      have bad : digOf (s.getD k 0) = none → PuR (numFrom base v (s.getD k 0 :: s.drop (k + 1))) (some ((0 : Int), some (2 : Int), ())) := by
        intro hd
        simp only [numFrom, hd]
        exact PuR.bad (.inr rfl)
      generalize hbb : s.getD k 0 = b at *
      have hb1 := byte_lt b
      have dig1 : (48 : Int) ≤ b.toNat → (b.toNat : Int) ≤ 57 → digOf b = some (b.toNat - 48) := fun h1 h2 => by unfold digOf; rw [if_pos (by omega)]
      have dig2 : ¬((48 : Int) ≤ b.toNat ∧ (b.toNat : Int) ≤ 57) → (97 : Int) ≤ lowN b.toNat → lowN b.toNat ≤ (122 : Int) → ∃ d, digOf b = some d ∧ d < 36 ∧ IntKind.u8.wrap (IntKind.u8.wrap (lowN b.toNat - 97) + 10) = (d : Int) := fun h1 h2 h3 => by
        rw [w8u (x := lowN b.toNat - 97) (by omega), w8u (by omega)]
        unfold lowN at h2 h3 ⊢
        unfold digOf
        rw [if_neg (by omega)]
        split at h2
        · rw [if_pos (by omega)] at h3
          rw [if_pos (by omega), if_pos (by omega)]
          exact ⟨_, rfl, by omega, by omega⟩
        · rw [if_neg (by omega)] at h3
          rw [if_neg (by omega), if_pos (by omega), if_neg (by omega)]
          exact ⟨_, rfl, by omega, by omega⟩
      have dig3 : ¬((48 : Int) ≤ b.toNat ∧ (b.toNat : Int) ≤ 57) → ¬((97 : Int) ≤ lowN b.toNat ∧ lowN b.toNat ≤ (122 : Int)) → digOf b = none := fun h1 h2 => by
        unfold lowN at h2
        unfold digOf
        rw [if_neg (by omega)]
        split at h2
        · rw [if_neg (by omega), if_neg (by omega)]
        · rw [if_neg (by omega), if_neg (by omega)]
      have wr : (48 : Int) ≤ b.toNat → (b.toNat : Int) ≤ 57 → IntKind.u8.wrap ((b.toNat : Int) - 48) = ((b.toNat - 48 : Nat) : Int) := fun h1 h2 => by rw [w8u (by omega)]; omega
      have lets : ¬((48 : Int) ≤ b.toNat ∧ (b.toNat : Int) ≤ 57) → PuR (numFrom base v (b :: s.drop (k + 1))) (if (97 : Int) ≤ lowN b.toNat then (if lowN b.toNat ≤ (122 : Int) then internal_strconv_ParseUint.j46 n (internal_strconv_ParseUint.l36 n m) base false s9 cutoff 4294967295 false v (IntKind.u8.wrap (IntKind.u8.wrap (lowN b.toNat - 97) + 10)) (s.map fun b => (b.toNat : Int)) ((s.map fun b => (b.toNat : Int)).length : Int) k
          else some ((0 : Int), some (2 : Int), ())) else some ((0 : Int), some (2 : Int), ())) := by
        intro h0
        by_cases h1 : (97 : Int) ≤ lowN b.toNat
        · rw [if_pos h1]
          by_cases h2 : lowN b.toNat ≤ (122 : Int)
          · rw [if_pos h2]
            obtain ⟨d, hd, hd36, he⟩ := dig2 h0 h1 h2
            rw [he]
            exact step d hd hd36
          · rw [if_neg h2]; exact bad (dig3 h0 fun h => h2 h.2)
        · rw [if_neg h1]; exact bad (dig3 h0 fun h => h1 h.1)
      have rest : PuR (numFrom base v (b :: s.drop (k + 1))) (if (48 : Int) ≤ b.toNat then (if (b.toNat : Int) ≤ 57 then internal_strconv_ParseUint.j46 n (internal_strconv_ParseUint.l36 n m) base false s9 cutoff 4294967295 false v (IntKind.u8.wrap ((b.toNat : Int) - 48)) (s.map fun b => (b.toNat : Int)) ((s.map fun b => (b.toNat : Int)).length : Int) k
          else (if (97 : Int) ≤ lowN b.toNat then (if lowN b.toNat ≤ (122 : Int) then internal_strconv_ParseUint.j46 n (internal_strconv_ParseUint.l36 n m) base false s9 cutoff 4294967295 false v (IntKind.u8.wrap (IntKind.u8.wrap (lowN b.toNat - 97) + 10)) (s.map fun b => (b.toNat : Int)) ((s.map fun b => (b.toNat : Int)).length : Int) k
          else some ((0 : Int), some (2 : Int), ())) else some ((0 : Int), some (2 : Int), ())))
          else (if (97 : Int) ≤ lowN b.toNat then (if lowN b.toNat ≤ (122 : Int) then internal_strconv_ParseUint.j46 n (internal_strconv_ParseUint.l36 n m) base false s9 cutoff 4294967295 false v (IntKind.u8.wrap (IntKind.u8.wrap (lowN b.toNat - 97) + 10)) (s.map fun b => (b.toNat : Int)) ((s.map fun b => (b.toNat : Int)).length : Int) k
          else some ((0 : Int), some (2 : Int), ())) else some ((0 : Int), some (2 : Int), ()))) := by
        by_cases h1 : (48 : Int) ≤ b.toNat
        · rw [if_pos h1]
          by_cases h2 : (b.toNat : Int) ≤ 57
          · rw [if_pos h2, wr h1 h2]; exact step _ (dig1 h1 h2) (by omega)
          · rw [if_neg h2]; exact lets fun h => h2 h.2
        · rw [if_neg h1]; exact lets fun h => h1 h.1
      split
      · exact rest
      · exact rest
    · have : k = s.length := by omega
      subst this
      rw [if_neg (by simp), List.drop_length]
      simp only [Bool.false_eq_true, if_false]
      exact ⟨fun v' e => by simp only [numFrom, Option.some.injEq] at e; rw [e], fun e => by simp [numFrom] at e⟩

theorem parse_inner (s : Str) (base : Nat) (hb : base = 10 ∨ base = 16) (hs : s.length < 9223372036854775807) : PuR (if s = [] then none else numFrom base 0 s) (internal_strconv_ParseUint.g s base 32) := by
  unfold internal_strconv_ParseUint.g internal_strconv_ParseUint.f
  simp only [dt, df]
  by_cases h0 : s = []
  · rw [if_pos h0, if_pos h0]
    exact PuR.bad (.inr rfl)
  · rw [if_neg h0, if_neg h0, if_pos (by omega), if_pos (by omega)]
    have hb0 : decide ((base : Int) = 0) = false := by simp; omega
    rw [hb0]
    unfold internal_strconv_ParseUint.j21
    simp only [dt, df]
    rw [if_neg (by omega), if_pos (by omega), if_neg (by omega)]
    unfold internal_strconv_ParseUint.j25
    simp only [dt, df]
    have fin : ∀ cutoff : Int, 4294967296 ≤ cutoff → PuR (numFrom base 0 s) (internal_strconv_ParseUint.j32 (1000 + s.length + (base : Int).toNat + (32 : Int).toNat) s base 32 false s cutoff) := by
      intro cutoff hc
      unfold internal_strconv_ParseUint.j32
      have e1 : IntKind.u64.wrap 32 = 32 := w64u (by omega)
      rw [e1, if_neg (by omega)]
      have e2 : IntKind.u64.wrap (IntKind.u64.wrap (1 * 2 ^ min (32 : Int).toNat IntKind.u64.bits) - 1) = 4294967295 := by decide
      rw [e2]
      have := pu_loop s s base cutoff hb hc hs (1000 + s.length + (base : Int).toNat + (32 : Int).toNat) (1000 + s.length + (base : Int).toNat + (32 : Int).toNat) 0 0 (by omega) (by omega) (by omega)
      simpa using this
    rcases hb with rfl | rfl
    · rw [if_pos (by omega)]; exact fin _ (by omega)
    · rw [if_neg (by omega), if_pos (by omega)]; exact fin _ (by omega)

theorem parse_eq (s : Str) (base : Nat) (hb : base = 10 ∨ base = 16) (hs : s.length ≤ 281474976710656) : (∀ v, (if s = [] then none else numFrom base 0 s) = some v → strconv_ParseUint.g s base 32 = some ((v : Int), true, ())) ∧
    ((if s = [] then none else numFrom base 0 s) = none → ∃ x, strconv_ParseUint.g s base 32 = some (x, false, ())) := by
  obtain ⟨h1, h2⟩ := parse_inner s base hb (by omega)
  refine ⟨fun v hv => ?_, fun hn => ?_⟩
  · unfold strconv_ParseUint.g strconv_ParseUint.f
    rw [h1 v hv]; rfl
  · obtain ⟨x, e, he, hc⟩ := h2 hn
    unfold strconv_ParseUint.g strconv_ParseUint.f
    rw [he]
    simp only [Option.bind_some, Option.isNone_some, Bool.not_false, if_true, L.toErrorO, Option.some.injEq]
    rw [if_pos ⟨hs, hc⟩]
    exact ⟨x, rfl⟩

theorem contains_mem : ∀ {s : Str} {c : UInt8}, Lib.contains s [c] = true → c ∈ s
  | [], c, h => by simp [Lib.contains, Lib.index] at h
  | b :: l, c, h => by
    by_cases hb : c = b
    · simp [hb]
    · have : Lib.contains l [c] = true := by
        simp only [Lib.contains, Lib.index, List.isPrefixOf, Bool.and_true, beq_iff_eq, decide_eq_true_eq] at h ⊢
        rw [if_neg hb] at h
        split at h
        · omega
        · have := Lib.index_ge l [c]
          rename_i hne
          have : ¬ Lib.index l [c] = -1 := by simpa using hne
          omega
      exact List.mem_cons_of_mem _ (contains_mem this)

theorem numFrom_bad {base : Nat} : ∀ {s : Str} {v : Nat}, (95 : UInt8) ∈ s → numFrom base v s = none
  | [], _, h => by cases h
  | c :: r, v, h => by
    simp only [numFrom]
    rcases List.mem_cons.1 h with h | h
    · rw [← h]
      have : digOf 95 = none := by decide
      rw [this]
    · (repeat' split) <;> first | rfl | exact numFrom_bad h

theorem numFrom_lt {base : Nat} : ∀ {s : Str} {v w : Nat}, v < 4294967296 → numFrom base v s = some w → w < 4294967296
  | [], _, _, hv, h => by simp only [numFrom, Option.some.injEq] at h; omega
  | c :: r, v, w, hv, h => by
    simp only [numFrom] at h
    split at h
    · split at h
      · split at h
        · exact numFrom_lt (by assumption) h
        · cases h
      · cases h
    · cases h

/-- A number's value, if it is one. -/
def num (s : Str) : Option Nat :=
  if ([48, 120] : Str).isPrefixOf s then (if s.drop 2 = [] then none else numFrom 16 0 (s.drop 2)) else if s = [] then none else numFrom 10 0 s

theorem num_lt {s : Str} {v : Nat} (h : num s = some v) : v < 4294967296 := by
  unfold num at h
  split at h <;> split at h <;> first | (cases h; done) | exact numFrom_lt (by omega) h

theorem number_part (s : Str) (base : Nat) (n : Nat) (hb : base = 10 ∨ base = 16) (hs : s.length ≤ 1000000) :
    (∀ v, (if s = [] then none else numFrom base 0 s) = some v → scan_number.j5 n s base = some ((v : Int), true, ())) ∧ ((if s = [] then none else numFrom base 0 s) = none → ∃ x, scan_number.j5 n s base = some (x, false, ())) := by
  have hcO : L.containsO s [95] = some (Lib.contains s [95], ()) := by unfold L.containsO; rw [if_pos (by omega)]
  unfold scan_number.j5
  rw [hcO, Option.bind_some]
  obtain ⟨h1, h2⟩ := parse_eq s base hb (by omega)
  by_cases hc : Lib.contains s [95] = true
  · simp only [hc, if_true]
    have hm := contains_mem hc
    have hne : s ≠ [] := by rintro rfl; cases hm
    rw [if_neg hne, numFrom_bad hm]
    exact ⟨fun v e => (by cases e), fun _ => ⟨_, rfl⟩⟩
  · simp only [hc, Bool.false_eq_true, if_false]
    refine ⟨fun v hv => ?_, fun hn => ?_⟩
    · have hlt : v < 4294967296 := by
        split at hv
        · cases hv
        · exact numFrom_lt (by omega) hv
      rw [h1 v hv, Option.bind_some, w32u (by omega)]
    · obtain ⟨x, hx⟩ := h2 hn
      rw [hx, Option.bind_some]
      exact ⟨_, rfl⟩

theorem number_eq (s : Str) (hs : s.length ≤ 1000000) : (∀ v, num s = some v → scan_number.g s = some ((v : Int), true, ())) ∧ (num s = none → ∃ x, scan_number.g s = some (x, false, ())) := by
  unfold scan_number.g scan_number.f num L.cutIs L.cutRest Lib.trimPrefix Lib.hasPrefix
  by_cases hp : ([48, 120] : Str).isPrefixOf s = true
  · simp only [hp, if_true]
    exact number_part (s.drop 2) 16 _ (.inr rfl) (by simp; omega)
  · have hp' : ([48, 120] : Str).isPrefixOf s = false := Bool.eq_false_iff.2 hp
    simp only [hp', Bool.false_eq_true, if_false]
    exact number_part s 10 _ (.inl rfl) hs

/- Lines. -/
abbrev Tok := Int × Int × Str × Int × Unit

def isS (c : UInt8) : Bool := ([44, 58, 43, 45, 42, 40, 41, 61] : Str).contains c

/-- What stands ahead, neither a blank nor a semicolon: what is skipped, the token's kind, text and number; or an error. -/
def tokAt (c : UInt8) (r : Str) : Except Int (Nat × Int × Str × Int) :=
  if isL c then .ok (0, 1, wordOf (c :: r), 0)
  else if isD c then match num (wordOf (c :: r)) with
    | some v => .ok (0, 2, wordOf (c :: r), v)
    | none => .error 21
  else if c = 46 ∧ (∃ d ∈ r.head?, isL d) then .ok (1, 4, wordOf r, 0)
  else if isS c then .ok (0, 3, [c], 0)
  else .error 20

/-- The tokens of a line. -/
def lineR (k : Int) : Str → Except Int (List Tok)
  | [] => .ok []
  | c :: r =>
    if c = 59 then .ok []
    else if c = 32 ∨ c = 9 then lineR (k + 1) r
    else match tokAt c r with
      | .error e => .error e
      | .ok (d, q, t, v) => match lineR (k + d + t.length) (r.drop (d + t.length - 1)) with
        | .error e => .error e
        | .ok l => .ok ((q, k, t, v, ()) :: l)
termination_by s => s.length
decreasing_by
  all_goals simp
  all_goals omega

theorem lineR_nil (k : Int) : lineR k [] = .ok [] := by rw [lineR]
theorem lineR_cons (k : Int) (c : UInt8) (r : Str) : lineR k (c :: r) = if c = 59 then .ok [] else if c = 32 ∨ c = 9 then lineR (k + 1) r else match tokAt c r with
      | .error e => .error e
      | .ok (d, q, t, v) => match lineR (k + d + t.length) (r.drop (d + t.length - 1)) with
        | .error e => .error e
        | .ok l => .ok ((q, k, t, v, ()) :: l) := by rw [lineR]

theorem sign_tab : ((List.range 256).all fun n => decide ((0 ≤ L.indexByte ([44, 58, 43, 45, 42, 40, 41, 61] : Str) (n : Int)) = (isS (UInt8.ofNat n) = true))) = true := by decide +kernel
theorem sign_eq (b : UInt8) : (0 ≤ L.indexByte ([44, 58, 43, 45, 42, 40, 41, 61] : Str) (b.toNat : Int)) = (isS b = true) := by
  have := List.all_eq_true.1 sign_tab b.toNat (by have := b.toNat_lt; simpa using this)
  have h := of_decide_eq_true this
  simpa using h

def lineOut (out : List Tok) : Except Int (List Tok) → List Tok × Int × Unit
  | .ok l => (out ++ l, 0, ())
  | .error e => ([], e, ())

theorem lineOut_snoc (out : List Tok) (t : Tok) (x : Except Int (List Tok)) : lineOut (out ++ [t]) x = lineOut out (match x with | .error e => .error e | .ok l => .ok (t :: l)) := by
  cases x <;> simp [lineOut]

theorem wordOf_le (s : Str) : (wordOf s).length ≤ s.length := (List.takeWhile_prefix isW).length_le

theorem wordOf_pos {c : UInt8} {r : Str} (h : isW c = true) : 1 ≤ (wordOf (c :: r)).length := by
  simp [wordOf, List.takeWhile_cons, h]

theorem line_loop (s : Str) (hs : s.length ≤ 1000000) (n : Nat) : ∀ (m k : Nat) (out : List Tok), k ≤ s.length → s.length - k < m → out.length ≤ k → scan_Line.g0 n m s out (k : Int) = some (lineOut out (lineR k (s.drop k))) := by
  intro m
  induction m with
  | zero => intro k out _ h; omega
  | succ m ih =>
    intro k out hk hm hout
    have e1 : IntKind.i64.wrap ((k : Int) + 1) = ((k + 1 : Nat) : Int) := by rw [w64 (by omega)]; omega
    by_cases hlt : k < s.length
    · have tok : ∀ (d : Nat) (q : Int) (t : Str) (v : Int), 1 ≤ d + t.length → k + d + t.length ≤ s.length → scan_Line.j23 n (scan_Line.g0 n m) s out ((k + d : Nat) : Int) q (k : Int) t v = some (lineOut out (match lineR ((k : Int) + d + t.length) ((s.drop (k + 1)).drop (d + t.length - 1)) with
          | .error e => .error e
          | .ok l => .ok ((q, k, t, v, ()) :: l))) := by
        intro d q t v h1 h2
        unfold scan_Line.j23
        rw [if_pos (by simp; omega), w64 (by omega)]
        have := ih (k + d + t.length) (out ++ [(q, (k : Int), t, v, ())]) h2 (by omega) (by simp; omega)
        rw [lineOut_snoc] at this
        rw [show ((k + d : Nat) : Int) + (t.length : Int) = ((k + d + t.length : Nat) : Int) by omega, List.drop_drop, show k + 1 + (d + t.length - 1) = k + d + t.length by omega, show (k : Int) + (d : Int) + (t.length : Int) = ((k + d + t.length : Nat) : Int) by omega]
        exact this
      have tok0 := fun q t v h1 h2 => tok 0 q t v h1 h2
      simp only [Nat.add_zero, Nat.zero_add] at tok0
      have tok1 := fun q t v h1 h2 => tok 1 q t v h1 h2
      have skip : scan_Line.g0 n m s out ((k + 1 : Nat) : Int) = some (lineOut out (lineR ((k : Int) + 1) (s.drop (k + 1)))) := by
        rw [show (k : Int) + 1 = ((k + 1 : Nat) : Int) by omega]
        exact ih (k + 1) out (by omega) (by omega) (by omega)
      rw [drop_cons hlt, lineR_cons]
      simp only [scan_Line.g0, dt, df]
      simp only [e1, bt_nat, letter_eq, digit_eq, Option.bind_some, Int.toNat_natCast, List.take_length, sign_eq]
      rw [if_pos (by omega), if_pos (by omega)]
      have hw0 := word_eq (s.drop k) (by simp; omega)
      have hw1 := word_eq (s.drop (k + 1)) (by simp; omega)
      rw [hw0, hw1, drop_cons hlt]
      have hl0 := wordOf_le (s.drop k)
      have hl1 := wordOf_le (s.drop (k + 1))
      rw [drop_cons hlt] at hl0
      have hd0 : (s.drop (k + 1)).length = s.length - (k + 1) := by simp
      have hd1 : (s.getD k 0 :: s.drop (k + 1)).length = s.length - k := by simp; omega
      have hsign : (s.take (k + 1)).drop k = [s.getD k 0] := by
        rw [List.drop_take, drop_cons hlt]
        simp [show k + 1 - k = 1 by omega]
      have hhead : (∃ d ∈ (s.drop (k + 1)).head?, isL d = true) ↔ k + 1 < s.length ∧ isL (s.getD (k + 1) 0) = true := by
        by_cases h : k + 1 < s.length
        · rw [drop_cons h]; simp [h]
        · rw [List.drop_eq_nil_of_le (by omega)]; simp [h]
      have hwp := @wordOf_pos (s.getD k 0) (s.drop (k + 1))
      have hwq : k + 1 < s.length → isL (s.getD (k + 1) 0) = true → 1 ≤ (wordOf (s.drop (k + 1))).length := fun h h' => by
        rw [drop_cons h]; exact wordOf_pos (by unfold isW; rw [h']; rfl)
      rw [hsign]
      have b59 : (((s.getD k 0).toNat : Int) = 59) = (s.getD k 0 = 59) := byte_is _ 59 (by decide)
      have b32 : (((s.getD k 0).toNat : Int) = 32) = (s.getD k 0 = 32) := byte_is _ 32 (by decide)
      have b9 : (((s.getD k 0).toNat : Int) = 9) = (s.getD k 0 = 9) := byte_is _ 9 (by decide)
      have b46 : (((s.getD k 0).toNat : Int) = 46) = (s.getD k 0 = 46) := byte_is _ 46 (by decide)
      generalize s.getD k 0 = b at *
      by_cases h59 : b = 59
      · rw [if_pos (by rw [h59]; rfl), if_pos h59]
        simp [lineOut]
      · rw [if_neg (fun h => h59 (b59.mp h)), if_neg h59, if_pos (by omega)]
        by_cases h32 : b = 32
        · rw [if_neg (fun h => h (b32.mpr h32)), if_pos (.inl h32)]
          exact skip
        · rw [if_pos (fun h => h32 (b32.mp h))]
          by_cases h9 : b = 9
          · rw [if_pos (b9.mpr h9), if_pos (.inr h9)]
            exact skip
          · rw [if_neg (fun h => h9 (b9.mp h)), if_neg (show ¬ (b = 32 ∨ b = 9) from fun h => h.elim h32 h9)]
            unfold tokAt
            by_cases hL : isL b = true
            · rw [if_pos hL, if_pos hL, if_pos (by omega)]
              simp only [Option.bind_some]
              rw [tok0 _ _ _ (hwp (by simp [isW, hL])) (by omega)]
              simp
            · rw [if_neg hL, if_neg hL]
              by_cases hD : isD b = true
              · rw [if_pos hD, if_pos hD, if_pos (by omega)]
                simp only [Option.bind_some]
                obtain ⟨h1, h2⟩ := number_eq (wordOf (b :: s.drop (k + 1))) (by omega)
                cases hn : num (wordOf (b :: s.drop (k + 1))) with
                | none =>
                  obtain ⟨x, hx⟩ := h2 hn
                  rw [hx]
                  simp [lineOut]
                | some v =>
                  rw [h1 v hn]
                  simp only [Option.bind_some, Bool.not_true, Bool.false_eq_true, if_false]
                  rw [tok0 _ _ _ (hwp (by simp [isW, hD])) (by omega)]
                  simp
              · rw [if_neg hD, if_neg hD]
                have sgn : (if isS b = true then (if 0 ≤ ((k + 1 : Nat) : Int) ∧ ((k + 1 : Nat) : Int) ≤ (s.length : Int) then (if 0 ≤ (k : Int) ∧ (k : Int) ≤ ((k + 1 : Nat) : Int) then scan_Line.j23 n (scan_Line.g0 n m) s out k 3 k [b] 0 else none) else none) else some ([], 20, ())) =
                    some (lineOut out (match (if isS b = true then Except.ok (0, 3, [b], 0) else Except.error 20 : Except Int (Nat × Int × Str × Int)) with
                      | .error e => .error e
                      | .ok (d, q, t, v) => match lineR (k + d + t.length) ((s.drop (k + 1)).drop (d + t.length - 1)) with
                        | .error e => .error e
                        | .ok l => .ok ((q, k, t, v, ()) :: l))) := by
                  by_cases hS : isS b = true
                  · rw [if_pos hS, if_pos hS, if_pos (by omega), if_pos (by omega), tok0 _ _ _ (by simp) (by simp; omega)]
                    simp
                  · rw [if_neg hS, if_neg hS]
                    simp [lineOut]
                by_cases h46 : b = 46
                · rw [if_pos (b46.mpr h46)]
                  by_cases hk1 : k + 1 < s.length
                  · rw [if_pos (by omega), if_pos (by omega)]
                    by_cases hL1 : isL (s.getD (k + 1) 0) = true
                    · rw [if_pos hL1, if_pos (by omega), if_pos ⟨h46, hhead.mpr ⟨hk1, hL1⟩⟩]
                      simp only [Option.bind_some]
                      have := hwq hk1 hL1
                      rw [tok1 _ _ _ (by omega) (by omega)]
                    · rw [if_neg hL1, if_neg (show ¬ (b = 46 ∧ ∃ d ∈ (s.drop (k + 1)).head?, isL d = true) from fun h => hL1 (hhead.mp h.2).2)]
                      exact sgn
                  · rw [if_neg (by omega), if_neg (show ¬ (b = 46 ∧ ∃ d ∈ (s.drop (k + 1)).head?, isL d = true) from fun h => hk1 (hhead.mp h.2).1)]
                    exact sgn
                · rw [if_neg (fun h => h46 (b46.mp h)), if_neg (show ¬ (b = 46 ∧ ∃ d ∈ (s.drop (k + 1)).head?, isL d = true) from fun h => h46 h.1)]
                  exact sgn
    · have : k = s.length := by omega
      subst this
      simp only [scan_Line.g0, dt, df]
      rw [if_neg (by omega), List.drop_length, lineR_nil]
      simp [lineOut]

/-- What scan.Line answers. -/
theorem line_eq (s : Str) (hs : s.length ≤ 1000000) : scan_Line.g s = some (lineOut [] (lineR 0 s)) := by
  unfold scan_Line.g scan_Line.f
  have := line_loop s hs (1000 + s.length) (1000 + s.length) 0 [] (by omega) (by omega) (by simp)
  simpa using this

end Rv
