/- The document's scanner answers as the code's. -/
import Derived.Test.YtlbfhddhojejfaaDoorP14
set_option linter.all false
namespace Rv
open Go

theorem rletter_eq (b : UInt8) : rivetref14_letter.g (b.toNat : Int) = some (isL b, ()) := by
  unfold rivetref14_letter.g rivetref14_letter.f isL
  simp only [dt, df]
  (repeat' split) <;> first | (refine some_tt ?_; omega) | (refine some_ff ?_; omega) | (refine some_pq ?_; omega)

theorem rdigit_eq (b : UInt8) : rivetref14_digit.g (b.toNat : Int) = some (isD b, ()) := by
  unfold rivetref14_digit.g rivetref14_digit.f isD
  simp only [dt, df]
  (repeat' split) <;> first | (refine some_tt ?_; omega) | (refine some_ff ?_; omega) | (refine some_pq ?_; omega)

theorem rsign_tab : ((List.range 256).all fun n => decide (rivetref14_sign.g (n : Int) = some (isS (UInt8.ofNat n), ()))) = true := by decide +kernel
theorem rsign_eq (b : UInt8) : rivetref14_sign.g (b.toNat : Int) = some (isS b, ()) := by
  have h := List.all_eq_true.1 rsign_tab b.toNat (by simp; exact b.toNat_lt)
  simpa using h

def sixR (b : UInt8) : Int × Bool × Unit := match digOf b with
  | some d => if d < 16 then ((d : Int), true, ()) else (0, false, ())
  | none => (0, false, ())

theorem rsix_tab : ((List.range 256).all fun n => decide (rivetref14_sixteen.g (n : Int) = some (sixR (UInt8.ofNat n)))) = true := by decide +kernel
theorem rsix_eq (b : UInt8) : rivetref14_sixteen.g (b.toNat : Int) = some (sixR b) := by
  have h := List.all_eq_true.1 rsix_tab b.toNat (by simp; exact b.toNat_lt)
  simpa using h

theorem rword_loop (s : Str) (hs : s.length ≤ 1000000) (n : Nat) : ∀ (m k : Nat), k ≤ s.length → s.length - k < m → rivetref14_word.l2 n m s (k : Int) = some (((k + (wordOf (s.drop k)).length : Nat) : Int), ()) := by
  intro m
  induction m with
  | zero => intro k _ h; omega
  | succ m ih =>
    intro k hk hm
    simp only [rivetref14_word.l2, rivetref14_word.j3, dt, df]
    by_cases hlt : k < s.length
    · have hd := drop_cons hlt
      have step := ih (k + 1) (by omega) (by omega)
      have e1 : IntKind.i64.wrap ((k : Int) + 1) = ((k + 1 : Nat) : Int) := by rw [w64 (by omega)]; omega
      rw [if_pos (by omega), if_pos (by omega), bt_nat, rletter_eq, rdigit_eq, Option.bind_some, e1, step, hd]
      simp only [Option.bind_some]
      have hw : isW (s.getD k 0) = true → k + (wordOf (s.getD k 0 :: s.drop (k + 1))).length = k + 1 + (wordOf (s.drop (k + 1))).length := fun h => by
        unfold wordOf
        rw [List.takeWhile_cons_of_pos h, List.length_cons]; omega
      cases hl : isL (s.getD k 0) with
      | true => rw [if_neg (by simp), hw (by unfold isW; rw [hl]; rfl)]
      | false =>
        rw [if_pos rfl, if_pos (by omega)]
        cases hdg : isD (s.getD k 0) with
        | true => rw [if_pos rfl, hw (by unfold isW; rw [hl, hdg]; rfl)]
        | false =>
          have hz : wordOf (s.getD k 0 :: s.drop (k + 1)) = [] := by unfold wordOf; rw [List.takeWhile_cons_of_neg (by unfold isW; rw [hl, hdg]; decide)]
          rw [if_neg (by simp), hz]; rfl
    · have : k = s.length := by omega
      subst this
      rw [if_neg (by omega)]
      simp [wordOf]

theorem rword_eq (s : Str) (hs : s.length ≤ 1000000) : rivetref14_word.g s = some (((wordOf s).length : Int), ()) := by
  unfold rivetref14_word.g rivetref14_word.f
  have := rword_loop s hs (1000 + s.length) (1000 + s.length) 0 (by omega) (by omega)
  rw [List.drop_zero, Nat.zero_add] at this
  exact this

def numO : Option Nat → Option (Int × Bool × Unit)
  | some v => some ((v : Int), true, ())
  | none => some (0, false, ())

theorem rnum_loop (s : Str) (hs : s.length ≤ 1000000) (base : Nat) (hb : base = 10 ∨ base = 16) (n : Nat) : ∀ (m k v : Nat), k ≤ s.length → s.length - k < m → v < 4294967296 →
    rivetref14_number.l8 n m s (base : Int) (v : Int) (k : Int) = numO (numFrom base v (s.drop k)) := by
  intro m
  induction m with
  | zero => intro k v _ h; omega
  | succ m ih =>
    intro k v hk hm hv
    rw [rivetref14_number.l8]
    simp only [dt, df]
    by_cases hlt : k < s.length
    · rw [if_pos (by omega), if_pos (by omega), bt_nat, rsix_eq, Option.bind_some, drop_cons hlt]
      simp only [numFrom]
      unfold sixR
      cases hd : digOf (s.getD k 0) with
      | none => rw [if_neg (by simp)]; rfl
      | some d =>
        simp only
        by_cases h16 : d < 16
        · rw [if_pos h16]
          dsimp only
          rw [if_pos (by simp)]
          by_cases hdb : d < base
          · rw [if_neg (by omega), if_pos hdb]
            have hm1 : IntKind.i64.wrap ((v : Int) * (base : Int)) = ((v * base : Nat) : Int) := by
              rw [w64 (by rcases hb with rfl | rfl <;> omega)]; simp
            have hm2 : IntKind.i64.wrap (((v * base : Nat) : Int) + (d : Int)) = ((v * base + d : Nat) : Int) := by
              rw [w64 (by rcases hb with rfl | rfl <;> omega)]; simp
            rw [hm1, hm2]
            by_cases hlt2 : v * base + d < 4294967296
            · rw [if_neg (by omega), if_pos hlt2, w64 (by omega)]
              exact ih (k + 1) (v * base + d) (by omega) (by omega) hlt2
            · rw [if_pos (by omega), if_neg hlt2]; rfl
          · rw [if_pos (by omega), if_neg hdb]; rfl
        · rw [if_neg h16, if_neg (show ¬ d < base by rcases hb with rfl | rfl <;> omega)]
          dsimp only
          rw [if_neg (by simp)]; rfl
    · have : k = s.length := by omega
      subst this
      rw [if_neg (by omega), List.drop_length, w32u (by omega)]
      rfl

theorem rnumber_eq (s : Str) (hs : s.length ≤ 1000000) (hne : s ≠ []) : rivetref14_number.g s = numO (num s) := by
  unfold rivetref14_number.g rivetref14_number.f
  simp only [dt, rivetref14_number.j6]
  have d10 := rnum_loop s hs 10 (.inl rfl) (1000 + s.length) (1000 + s.length) 0 0 (by omega) (by omega) (by omega)
  have d16 : 2 ≤ s.length → _ := fun h => rnum_loop s hs 16 (.inr rfl) (1000 + s.length) (1000 + s.length) 2 0 h (by omega) (by omega)
  rw [List.drop_zero] at d10
  have d10 : rivetref14_number.l8 (1000 + s.length) (1000 + s.length) s 10 0 0 = numO (numFrom 10 0 s) := d10
  unfold num
  match s, hne with
  | [a], _ =>
    rw [if_neg (by simp), if_neg (by simp [List.isPrefixOf]), if_neg (by simp)]
    exact d10
  | [a, b], _ =>
    rw [if_neg (by simp)]
    by_cases hp : ([48, 120] : Str).isPrefixOf [a, b] = true
    · rw [if_pos hp, if_pos (show List.drop 2 [a, b] = ([] : Str) from rfl)]
      simp only [List.isPrefixOf, Bool.and_true, Bool.and_eq_true, beq_iff_eq] at hp
      obtain ⟨rfl, rfl⟩ := hp
      rw [d10]
      decide
    · rw [if_neg hp, if_neg (by simp)]
      exact d10
  | a :: b :: c :: r, _ =>
    have ha : bt (a :: b :: c :: r) 0 = (a.toNat : Int) := rfl
    have hb : bt (a :: b :: c :: r) 1 = (b.toNat : Int) := rfl
    have ea : ((a.toNat : Int) = 48) = (a = 48) := byte_is a 48 (by decide)
    have eb : ((b.toNat : Int) = 120) = (b = 120) := byte_is b 120 (by decide)
    rw [if_pos (by simp; omega), if_pos (by simp; omega), ha, hb]
    simp only [ea, eb]
    have hdr : (a :: b :: c :: r).drop 2 = c :: r := rfl
    by_cases h1 : a = 48
    · rw [if_pos h1, if_pos (by simp; omega)]
      by_cases h2 : b = 120
      · rw [if_pos h2, if_pos (by simp [List.isPrefixOf, h1, h2]), hdr, if_neg (by simp)]
        exact d16 (by simp)
      · rw [if_neg h2, if_neg (by simp [List.isPrefixOf, h1]; exact fun h => h2 h.symm), if_neg (by simp)]
        exact d10
    · rw [if_neg h1, if_neg (by simp [List.isPrefixOf]; exact fun h => absurd h.symm h1), if_neg (by simp)]
      exact d10

theorem rline_loop (s : Str) (hs : s.length ≤ 1000000) (n : Nat) : ∀ (m k : Nat) (out : List Tok), k ≤ s.length → s.length - k < m → out.length ≤ k → rivetref14_Line.l3 n m s out (k : Int) = some (lineOut out (lineR k (s.drop k))) := by
  intro m
  induction m with
  | zero => intro k out _ h; omega
  | succ m ih =>
    intro k out hk hm hout
    have e1 : IntKind.i64.wrap ((k : Int) + 1) = ((k + 1 : Nat) : Int) := by rw [w64 (by omega)]; omega
    by_cases hlt : k < s.length
    · have tok : ∀ (d : Nat) (q : Int) (t : Str) (v : Int), 1 ≤ d + t.length → k + d + t.length ≤ s.length → rivetref14_Line.j26 n (rivetref14_Line.l3 n m) s out ((k + d : Nat) : Int) q (k : Int) t v = some (lineOut out (match lineR ((k : Int) + d + t.length) ((s.drop (k + 1)).drop (d + t.length - 1)) with
          | .error e => .error e
          | .ok l => .ok ((q, k, t, v, ()) :: l))) := by
        intro d q t v h1 h2
        unfold rivetref14_Line.j26
        rw [if_pos (by simp; omega), w64 (by omega)]
        have := ih (k + d + t.length) (out ++ [(q, (k : Int), t, v, ())]) h2 (by omega) (by simp; omega)
        rw [lineOut_snoc] at this
        rw [show ((k + d : Nat) : Int) + (t.length : Int) = ((k + d + t.length : Nat) : Int) by omega, List.drop_drop, show k + 1 + (d + t.length - 1) = k + d + t.length by omega, show (k : Int) + (d : Int) + (t.length : Int) = ((k + d + t.length : Nat) : Int) by omega]
        exact this
      have tok0 := fun q t v h1 h2 => tok 0 q t v h1 h2
      simp only [Nat.add_zero, Nat.zero_add] at tok0
      have tok1 := fun q t v h1 h2 => tok 1 q t v h1 h2
      have skip : rivetref14_Line.l3 n m s out ((k + 1 : Nat) : Int) = some (lineOut out (lineR ((k : Int) + 1) (s.drop (k + 1)))) := by
        rw [show (k : Int) + 1 = ((k + 1 : Nat) : Int) by omega]
        exact ih (k + 1) out (by omega) (by omega) (by omega)
      have hl0 := wordOf_le (s.drop k)
      have hl1 := wordOf_le (s.drop (k + 1))
      have hd0 : (s.drop (k + 1)).length = s.length - (k + 1) := by simp
      have hdk : (s.drop k).length = s.length - k := by simp
      have hw0 := rword_eq (s.drop k) (by omega)
      have hw1 := rword_eq (s.drop (k + 1)) (by omega)
      have f0 : IntKind.i64.wrap ((k : Int) + ((wordOf (s.drop k)).length : Int)) = ((k + (wordOf (s.drop k)).length : Nat) : Int) := by rw [w64 (by omega)]; omega
      have f1 : IntKind.i64.wrap (((k + 1 : Nat) : Int) + ((wordOf (s.drop (k + 1))).length : Int)) = ((k + 1 + (wordOf (s.drop (k + 1))).length : Nat) : Int) := by rw [w64 (by omega)]; omega
      have g0 : (s.take (k + (wordOf (s.drop k)).length)).drop k = wordOf (s.drop k) := by
        rw [List.drop_take, show k + (wordOf (s.drop k)).length - k = (wordOf (s.drop k)).length by omega]
        exact takeW (s.drop k)
      have g1 : (s.take (k + 1 + (wordOf (s.drop (k + 1))).length)).drop (k + 1) = wordOf (s.drop (k + 1)) := by
        rw [List.drop_take, show k + 1 + (wordOf (s.drop (k + 1))).length - (k + 1) = (wordOf (s.drop (k + 1))).length by omega]
        exact takeW (s.drop (k + 1))
      have hsign : (s.take (k + 1)).drop k = [s.getD k 0] := by
        rw [List.drop_take, drop_cons hlt]
        simp [show k + 1 - k = 1 by omega]
      have hhead : (∃ d ∈ (s.drop (k + 1)).head?, isL d = true) ↔ k + 1 < s.length ∧ isL (s.getD (k + 1) 0) = true := by
        by_cases h : k + 1 < s.length
        · rw [drop_cons h]; simp [h]
        · rw [List.drop_eq_nil_of_le (by omega)]; simp [h]
      have hwp : isW (s.getD k 0) = true → 1 ≤ (wordOf (s.drop k)).length := fun h => by rw [drop_cons hlt]; exact wordOf_pos h
      have hwq : k + 1 < s.length → isL (s.getD (k + 1) 0) = true → 1 ≤ (wordOf (s.drop (k + 1))).length := fun h h' => by
        rw [drop_cons h]; exact wordOf_pos (by unfold isW; rw [h']; rfl)
      rw [rivetref14_Line.l3]
      simp only [dt, df]
      simp only [e1, bt_nat, rletter_eq, rdigit_eq, rsign_eq, Option.bind_some, Int.toNat_natCast, List.take_length, hw0, hw1, f0, f1, g0, g1]
      rw [if_pos (by omega), if_pos (by omega)]
      have hcons := drop_cons hlt
      rw [hcons, lineR_cons]
      rw [hcons] at hl0 hdk hwp
      have b59 : (((s.getD k 0).toNat : Int) = 59) = (s.getD k 0 = 59) := byte_is _ 59 (by decide)
      have b32 : (((s.getD k 0).toNat : Int) = 32) = (s.getD k 0 = 32) := byte_is _ 32 (by decide)
      have b9 : (((s.getD k 0).toNat : Int) = 9) = (s.getD k 0 = 9) := byte_is _ 9 (by decide)
      have b46 : (((s.getD k 0).toNat : Int) = 46) = (s.getD k 0 = 46) := byte_is _ 46 (by decide)
      have j25 : rivetref14_Line.j25 n (rivetref14_Line.l3 n m) s out (k : Int) 3 (k : Int) [] 0 = rivetref14_Line.j26 n (rivetref14_Line.l3 n m) s out (k : Int) 3 (k : Int) [s.getD k 0] 0 := by
        unfold rivetref14_Line.j25
        rw [e1, if_pos (by omega), if_pos (by omega), Int.toNat_natCast, Int.toNat_natCast, hsign]
      rw [j25]
      clear j25 hsign g0 g1 f0 f1 hw0 hw1 e1 hcons
      generalize s.getD k 0 = b at *
      by_cases h59 : b = 59
      · rw [if_neg (fun h => h (b59.mpr h59)), if_pos h59]
        simp [lineOut]
      · rw [if_pos (fun h => h59 (b59.mp h)), if_neg h59, if_pos (by omega)]
        by_cases h32 : b = 32
        · rw [if_neg (fun h => h (b32.mpr h32)), if_pos (.inl h32)]
          exact skip
        · rw [if_pos (fun h => h32 (b32.mp h))]
          by_cases h9 : b = 9
          · rw [if_pos (b9.mpr h9), if_pos (.inr h9)]
            exact skip
          · rw [if_neg (fun h => h9 (b9.mp h)), if_neg (show ¬ (b = 32 ∨ b = 9) from fun h => h.elim h32 h9)]
            unfold tokAt
            by_cases hL : isL b = true
            · rw [if_pos hL, if_pos hL, if_pos (by omega), if_pos (by omega), if_pos (by omega), tok0 _ _ _ (hwp (by simp [isW, hL])) (by omega)]
              simp
              rfl
            · rw [if_neg hL, if_neg hL]
              by_cases hD : isD b = true
              · rw [if_pos hD, if_pos hD, if_pos (by omega), if_pos (by omega), if_pos (by omega)]
                have hpos := hwp (by simp [isW, hD])
                rw [rnumber_eq (wordOf (b :: s.drop (k + 1))) (by omega) (fun h => by rw [h] at hpos; simp at hpos)]
                cases hn : num (wordOf (b :: s.drop (k + 1))) with
                | none => simp [numO, lineOut]
                | some v =>
                  simp only [numO, Option.bind_some]
                  rw [if_neg (by simp), tok0 _ _ _ hpos (by omega)]
                  simp
                  rfl
              · rw [if_neg hD, if_neg hD]
                have sgn : (if isS b = true then rivetref14_Line.j26 n (rivetref14_Line.l3 n m) s out (k : Int) 3 (k : Int) [b] 0 else some ([], 20, ())) =
                    some (lineOut out (match (if isS b = true then Except.ok (0, 3, [b], 0) else Except.error 20 : Except Int (Nat × Int × Str × Int)) with
                      | .error e => .error e
                      | .ok (d, q, t, v) => match lineR (k + d + t.length) ((s.drop (k + 1)).drop (d + t.length - 1)) with
                        | .error e => .error e
                        | .ok l => .ok ((q, k, t, v, ()) :: l))) := by
                  by_cases hS : isS b = true
                  · rw [if_pos hS, if_pos hS, tok0 _ _ _ (by simp) (by simp; omega)]
                    simp
                  · rw [if_neg hS, if_neg hS]
                    simp [lineOut]
                by_cases h46 : b = 46
                · rw [if_pos (b46.mpr h46)]
                  by_cases hk1 : k + 1 < s.length
                  · rw [if_pos (by omega), if_pos (by omega)]
                    by_cases hL1 : isL (s.getD (k + 1) 0) = true
                    · have := hwq hk1 hL1
                      rw [if_pos hL1, if_pos (by omega), if_pos (by omega), if_pos (by omega), if_pos ⟨h46, hhead.mpr ⟨hk1, hL1⟩⟩]
                      rw [tok1 _ _ _ (by omega) (by omega)]
                      rfl
                    · rw [if_neg hL1, if_neg (show ¬ (b = 46 ∧ ∃ d ∈ (s.drop (k + 1)).head?, isL d = true) from fun h => hL1 (hhead.mp h.2).2)]
                      exact sgn
                  · rw [if_neg (by omega), if_neg (show ¬ (b = 46 ∧ ∃ d ∈ (s.drop (k + 1)).head?, isL d = true) from fun h => hk1 (hhead.mp h.2).1)]
                    exact sgn
                · rw [if_neg (fun h => h46 (b46.mp h)), if_neg (show ¬ (b = 46 ∧ ∃ d ∈ (s.drop (k + 1)).head?, isL d = true) from fun h => h46 h.1)]
                  exact sgn
    · have : k = s.length := by omega
      subst this
      rw [rivetref14_Line.l3]
      simp only [dt]
      rw [if_neg (by omega), List.drop_length, lineR_nil]
      simp [lineOut]

/-- What the document's scanner answers. -/
theorem rline_eq (s : Str) (hs : s.length ≤ 1000000) : rivetref14_Line.g s = some (lineOut [] (lineR 0 s)) := by
  unfold rivetref14_Line.g rivetref14_Line.f
  have := rline_loop s hs (1000 + s.length) (1000 + s.length) 0 [] (by omega) (by omega) (by simp)
  simpa using this

end Rv
