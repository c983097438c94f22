/- ExprLeft: the plain law. -/
import Derived.Test.YtchahhlcmabmaaaDoorPDigs
import Derived.KernelRfl
set_option linter.all false
namespace Rv
open Go

theorem shown15L_eq : rivetlaw15_shown.g = some (true, ()) := by decide +kernel

theorem digs_cons (b : Nat) : ∀ (j n : Nat), digs b (j + 1) n = dch ((n / b ^ j) % b) :: digs b j n
  | 0, n => by simp [digs]
  | j + 1, n => by
    rw [digs, digs_cons b j (n / b)]
    conv => rhs; rw [digs]
    rw [Nat.div_div_eq_div_mul, Nat.pow_succ, Nat.mul_comm (b ^ j) b]
    rfl

theorem and15 (x : Nat) (hx : x < 4294967296) : bitsI .and .u32 (x : Int) 15 = ((x % 16 : Nat) : Int) := by
  have h1 : (BitVec.ofInt 32 (x : Int) &&& BitVec.ofInt 32 15).toNat = x % 16 := by
    rw [BitVec.toNat_and]
    have : (BitVec.ofInt 32 (x : Int)).toNat = x := by rw [BitVec.toNat_ofInt]; omega
    rw [this, show (BitVec.ofInt 32 15).toNat = 2 ^ 4 - 1 from rfl, Nat.and_two_pow_sub_one_eq_mod]
  show IntKind.u32.wrap (((BitVec.ofInt 32 (x : Int) &&& BitVec.ofInt 32 15).toNat : Nat) : Int) = _
  rw [h1, w32u (by omega)]

theorem nib (n j : Nat) (hj : j < 8) (hn : n < 4294967296) : bitsI .and .u32 ((n : Int).fdiv (2 ^ (min (IntKind.i64.wrap ((4 : Int) * (j : Int))).toNat IntKind.u32.bits))) 15 = (((n / 16 ^ j) % 16 : Nat) : Int) := by
  have e1 : (IntKind.i64.wrap ((4 : Int) * (j : Int))).toNat = 4 * j := by rw [w64 (by omega)]; omega
  have e2 : min (4 * j) IntKind.u32.bits = 4 * j := by show min (4 * j) 32 = 4 * j; omega
  have e3 : (n : Int).fdiv (2 ^ (4 * j)) = ((n / 16 ^ j : Nat) : Int) := by
    rw [Int.pow_mul, show (2 : Int) ^ 4 = ((16 : Nat) : Int) from rfl, ← Int.natCast_pow, Int.fdiv_eq_ediv_of_nonneg _ (Int.natCast_nonneg _), ← Int.natCast_ediv]
  rw [e1, e2, e3]
  have h4 : n / 16 ^ j ≤ n := Nat.div_le_self _ _
  exact and15 _ (by omega)

abbrev hexD : Str := [48, 49, 50, 51, 52, 53, 54, 55, 56, 57, 97, 98, 99, 100, 101, 102]

theorem left10 (n : Nat) (rl) (s : Str) (i : Int) (hi : 0 ≤ i ∧ i < 4) (x : Nat) (hx : x < 4294967296) (b0 b1 b2 b3 c0 c1 c2 : Int) (d0 d1 d2 : Str) (hb : [b0, b1, b2, b3].getD i.toNat 0 = (x : Int)) :
    ∀ (d m j : Nat), j + d = 8 → d < m → rivetlaw15_ExprLeft.l10 n rl m true hexD s i (digs 16 j x) (j : Int) b0 b1 b2 b3 c0 c1 c2 d0 d1 d2 = rivetlaw15_ExprLeft.l10 n rl 1 true hexD s i (digs 16 8 x) 8 b0 b1 b2 b3 c0 c1 c2 d0 d1 d2 := by
  intro d
  induction d with
  | zero =>
    intro m j hj hm
    obtain ⟨m, rfl⟩ : ∃ m', m = m' + 1 := ⟨m - 1, by omega⟩
    have : j = 8 := by omega
    subst this
    rfl
  | succ d ih =>
    intro m j hj hm
    obtain ⟨m, rfl⟩ : ∃ m', m = m' + 1 := ⟨m - 1, by omega⟩
    have hk : x / 16 ^ j % 16 < 16 := Nat.mod_lt _ (by omega)
    have hlen := digs_len 16 j x
    rw [rivetlaw15_ExprLeft.l10]
    simp only [dt, hb, nib x j (by omega) hx]
    rw [if_pos (by omega), if_pos hi, if_neg (by rw [w64 (by omega)]; omega), w32u (by omega), if_pos (by simp; omega), if_pos (by omega)]
    have e : ((hexD.take (((x / 16 ^ j % 16 : Nat) : Int) + 1).toNat).drop ((x / 16 ^ j % 16 : Nat) : Int).toNat) = [dch (x / 16 ^ j % 16)] := by
      rw [show (((x / 16 ^ j % 16 : Nat) : Int) + 1).toNat = x / 16 ^ j % 16 + 1 by omega, Int.toNat_natCast]
      exact (dch_facts hk).2.2.2
    rw [e, if_pos (by simp; omega), w64 (by omega)]
    have := ih m (j + 1) (by omega) (by omega)
    rw [digs_cons] at this
    exact this

theorem left6 (n m : Nat) (hn : 1000 ≤ n) (s : Str) (hs : s.length ≤ 1000) (i : Nat) (hi : i < 3) (x : Nat) (hx : x < 4294967296) (b0 b1 b2 b3 c0 c1 c2 : Int) (d0 d1 d2 : Str) (hb : [b0, b1, b2, b3].getD (i : Int).toNat 0 = (x : Int)) (c : Int) (hc : Int.tmod ([c0, c1, c2].getD (i : Int).toNat 0) 3 = c) (hc3 : 0 ≤ c ∧ c < 3) (g : Str) (hg : [d0, d1, d2].getD c.toNat [] = g) (hgl : g.length ≤ 1) :
    rivetlaw15_ExprLeft.l6 n (m + 1) true hexD s (i : Int) b0 b1 b2 b3 c0 c1 c2 d0 d1 d2 = rivetlaw15_ExprLeft.l6 n m true hexD (s ++ [48, 120] ++ digs 16 8 x ++ g) ((i + 1 : Nat) : Int) b0 b1 b2 b3 c0 c1 c2 d0 d1 d2 := by
  have hlen := digs_len 16 8 x
  rw [rivetlaw15_ExprLeft.l6]
  simp only [dt]
  rw [if_pos (by omega)]
  have := left10 n (rivetlaw15_ExprLeft.l6 n m) s i (by omega) x hx b0 b1 b2 b3 c0 c1 c2 d0 d1 d2 hb 8 n 0 (by omega) (by omega)
  rw [show digs 16 0 x = [] from rfl] at this
  rw [show ((0 : Nat) : Int) = 0 from rfl] at this
  rw [this, rivetlaw15_ExprLeft.l10]
  simp only [dt, hc, hg, rivetlaw15_ExprLeft.j7]
  rw [if_neg (by omega), if_pos (by simp; omega), if_pos (by simp; omega), if_pos (by omega), if_pos (by omega), if_pos hc3, if_pos (by simp; omega), w64 (by omega)]
  rfl

theorem left6_3 (n m : Nat) (hn : 1000 ≤ n) (s : Str) (hs : s.length ≤ 1000) (x : Nat) (hx : x < 4294967296) (b0 b1 b2 c0 c1 c2 : Int) (d0 d1 d2 : Str) :
    rivetlaw15_ExprLeft.l6 n (m + 1) true hexD s 3 b0 b1 b2 (x : Int) c0 c1 c2 d0 d1 d2 = rivetlaw15_ExprLeft.l6 n m true hexD (s ++ [48, 120] ++ digs 16 8 x) 4 b0 b1 b2 (x : Int) c0 c1 c2 d0 d1 d2 := by
  have hlen := digs_len 16 8 x
  rw [rivetlaw15_ExprLeft.l6]
  simp only [dt]
  rw [if_pos (by omega)]
  have := left10 n (rivetlaw15_ExprLeft.l6 n m) s 3 (by omega) x hx b0 b1 b2 (x : Int) c0 c1 c2 d0 d1 d2 rfl 8 n 0 (by omega) (by omega)
  rw [show digs 16 0 x = [] from rfl] at this
  rw [show ((0 : Nat) : Int) = 0 from rfl] at this
  rw [this, rivetlaw15_ExprLeft.l10]
  simp only [dt, rivetlaw15_ExprLeft.j7]
  rw [if_neg (by omega), if_pos (by simp; omega), if_pos (by simp; omega), if_neg (by omega), w64 (by omega)]
  rfl

/-- A number of eight digits, ahead of what is no word. -/
theorem line_hex (k : Int) (x : Nat) (hx : x < 4294967296) (r : Str) (hr : r = [] ∨ ∃ b y, r = b :: y ∧ isW b = false) : lineR k ([48, 120] ++ digs 16 8 x ++ r) = match lineR (k + 10) r with
    | .error e => .error e
    | .ok l => .ok ((2, k, [48, 120] ++ digs 16 8 x, (x : Int), ()) :: l) := by
  have hlen := digs_len 16 8 x
  have hw : (digs 16 8 x).all isW = true := digs_all 16 (by omega) (by omega) isW (fun d hd => (dch_facts (by omega)).2.1) 8 x
  have hv : num (48 :: 120 :: digs 16 8 x) = some x := by
    unfold num
    have : ([48, 120] : Str).isPrefixOf (48 :: 120 :: digs 16 8 x) = true := by simp [List.isPrefixOf]
    rw [if_pos this]
    simp only [List.drop_succ_cons, List.drop_zero]
    have hne : digs 16 8 x ≠ [] := by intro h; rw [h] at hlen; cases hlen
    rw [if_neg hne]
    have := numFrom_digs 16 (by omega) (by omega) 0 8 x (by omega) hx
    simpa using this
  have hall : (48 :: 120 :: digs 16 8 x).all isW = true := by
    simp only [List.all_cons, hw, Bool.and_true]; decide
  have hword : wordOf (48 :: 120 :: (digs 16 8 x ++ r)) = 48 :: 120 :: digs 16 8 x := by
    rcases hr with rfl | ⟨b, y, rfl, hb⟩
    · rw [List.append_nil]; exact wordOf_all hall
    · have := takeW_app (s := 48 :: 120 :: digs 16 8 x) (b := b) (y := y) hb
      unfold wordOf
      rw [List.cons_append, List.cons_append] at this
      rw [this]
      exact wordOf_all hall
  show lineR k (48 :: (120 :: (digs 16 8 x ++ r))) = _
  rw [lineR_cons, if_neg (by decide), if_neg (by decide)]
  unfold tokAt
  rw [if_neg (by decide), if_pos (by decide), hword, hv]
  dsimp only
  have hd : (120 :: (digs 16 8 x ++ r)).drop (0 + (48 :: 120 :: digs 16 8 x).length - 1) = r := by
    rw [List.length_cons, List.length_cons, hlen]
    show ((digs 16 8 x ++ r).drop 8) = r
    exact List.drop_left' hlen
  have he : k + ((0 : Nat) : Int) + ((48 :: 120 :: digs 16 8 x).length : Nat) = k + 10 := by rw [List.length_cons, List.length_cons, hlen]; omega
  rw [hd, he]
  rfl

theorem line_sign (k : Int) (c : UInt8) (hc : c = 43 ∨ c = 45 ∨ c = 42) (r : Str) : lineR k (c :: r) = match lineR (k + 1) r with
    | .error e => .error e
    | .ok l => .ok ((3, k, [c], 0, ()) :: l) := by
  rw [lineR_cons]
  rcases hc with rfl | rfl | rfl
  all_goals
    rw [if_neg (by decide), if_neg (by decide)]
    unfold tokAt
    rw [if_neg (by decide), if_neg (by decide), if_neg (fun h => absurd h.1 (by decide)), if_pos (by decide)]
    dsimp only
    simp only [List.length_cons, List.length_nil, Nat.zero_add, Nat.sub_self, List.drop_zero]
    rw [show k + ((0 : Nat) : Int) + ((1 : Nat) : Int) = k + 1 by omega]
    rfl

abbrev sgC (c : Nat) : UInt8 := if c = 0 then 43 else if c = 1 then 45 else 42
theorem sgC_or (c : Nat) : sgC c = 43 ∨ sgC c = 45 ∨ sgC c = 42 := by unfold sgC; split; · simp
                                                                      · split <;> simp
theorem sgC_w (c : Nat) : isW (sgC c) = false := by rcases sgC_or c with h | h | h <;> rw [h] <;> decide

theorem left_line (x0 x1 x2 x3 : Nat) (h0 : x0 < 4294967296) (h1 : x1 < 4294967296) (h2 : x2 < 4294967296) (h3 : x3 < 4294967296) (c0 c1 c2 : Nat) :
    lineR 0 ([48, 120] ++ digs 16 8 x0 ++ (sgC c0 :: ([48, 120] ++ digs 16 8 x1 ++ (sgC c1 :: ([48, 120] ++ digs 16 8 x2 ++ (sgC c2 :: ([48, 120] ++ digs 16 8 x3 ++ []))))))) =
    .ok [(2, 0, [48, 120] ++ digs 16 8 x0, (x0 : Int), ()), (3, 10, [sgC c0], 0, ()), (2, 11, [48, 120] ++ digs 16 8 x1, (x1 : Int), ()), (3, 21, [sgC c1], 0, ()), (2, 22, [48, 120] ++ digs 16 8 x2, (x2 : Int), ()), (3, 32, [sgC c2], 0, ()), (2, 33, [48, 120] ++ digs 16 8 x3, (x3 : Int), ())] := by
  rw [line_hex 0 x0 h0 _ (.inr ⟨_, _, rfl, sgC_w c0⟩), line_sign _ _ (sgC_or c0), line_hex _ x1 h1 _ (.inr ⟨_, _, rfl, sgC_w c1⟩), line_sign _ _ (sgC_or c1), line_hex _ x2 h2 _ (.inr ⟨_, _, rfl, sgC_w c2⟩), line_sign _ _ (sgC_or c2), line_hex _ x3 h3 _ (.inl rfl), lineR_nil]
  rfl

/-- What the sum of products is. -/
def wantOf (c0 c1 c2 : Nat) (n0 n1 n2 n3 : Int) : List (Int × Int × Str × Unit) :=
  (1, n0, [], ()) :: (1, n1, [], ()) ::
    (if c0 = 2 then (6, 0, [], ()) :: (1, n2, [], ()) :: (if c1 = 2 then (6, 0, [], ()) :: (1, n3, [], ()) :: (if c2 = 2 then [(6, 0, [], ())] else [(4 + (c2 : Int), 0, [], ())])
        else (if c2 = 2 then [(1, n3, [], ()), (6, 0, [], ()), (4 + (c1 : Int), 0, [], ())] else [(4 + (c1 : Int), 0, [], ()), (1, n3, [], ()), (4 + (c2 : Int), 0, [], ())]))
      else if c1 = 2 then (1, n2, [], ()) :: (6, 0, [], ()) :: (if c2 = 2 then [(1, n3, [], ()), (6, 0, [], ()), (4 + (c0 : Int), 0, [], ())] else [(4 + (c0 : Int), 0, [], ()), (1, n3, [], ()), (4 + (c2 : Int), 0, [], ())])
        else (4 + (c0 : Int), 0, [], ()) :: (1, n2, [], ()) :: (if c2 = 2 then [(1, n3, [], ()), (6, 0, [], ()), (4 + (c1 : Int), 0, [], ())] else [(4 + (c1 : Int), 0, [], ()), (1, n3, [], ()), (4 + (c2 : Int), 0, [], ())]))

theorem left_parse (p0 p1 p2 p3 : Str) (n0 n1 n2 n3 : Int) {c0 c1 c2 : Nat} (h0 : c0 < 3) (h1 : c1 < 3) (h2 : c2 < 3) :
    expr_Parse.g [(2, 0, p0, n0, ()), (3, 10, [sgC c0], 0, ()), (2, 11, p1, n1, ()), (3, 21, [sgC c1], 0, ()), (2, 22, p2, n2, ()), (3, 32, [sgC c2], 0, ()), (2, 33, p3, n3, ())] 0 = some (wantOf c0 c1 c2 n0 n1 n2 n3, 7, 0, ()) := by
  rcases (show c0 = 0 ∨ c0 = 1 ∨ c0 = 2 by omega) with rfl | rfl | rfl <;> rcases (show c1 = 0 ∨ c1 = 1 ∨ c1 = 2 by omega) with rfl | rfl | rfl <;> rcases (show c2 = 0 ∨ c2 = 1 ∨ c2 = 2 by omega) with rfl | rfl | rfl <;> kernel_rfl

theorem same15_refl (a : List (Int × Int × Str × Unit)) (ha : a.length ≤ 1000) : rivetref15_Same.g a a = some (true, ()) := by
  have loop : ∀ (n m i : Nat), i ≤ a.length → a.length - i < m → rivetref15_Same.l4 n m a a (i : Int) = some (true, ()) := by
    intro n m
    induction m with
    | zero => intro i _ h; omega
    | succ m ih =>
      intro i hi hm
      rw [rivetref15_Same.l4]
      simp only [dt]
      by_cases h : i < a.length
      · rw [if_pos (by omega), if_pos (by omega), if_pos (by omega), if_neg (by simp), w64 (by omega)]
        exact ih (i + 1) (by omega) (by omega)
      · rw [if_neg (by omega)]
  unfold rivetref15_Same.g rivetref15_Same.f
  rw [if_neg (by simp)]
  exact loop _ _ 0 (by omega) (by omega)

theorem want_len (c0 c1 c2 : Nat) (n0 n1 n2 n3 : Int) : (wantOf c0 c1 c2 n0 n1 n2 n3).length = 7 := by
  unfold wantOf
  by_cases h0 : c0 = 2 <;> by_cases h1 : c1 = 2 <;> by_cases h2 : c2 = 2 <;> simp [h0, h1, h2]

theorem left22 (n m : Nat) (t : List (Int × Int × Str × Int × Unit)) (x : List (Int × Int × Str × Unit)) (n0 n1 n2 n3 k0 k1 k2 : Int) {c0 c1 c2 : Nat} (h0 : Int.tmod k0 3 = (c0 : Int)) (h1 : Int.tmod k1 3 = (c1 : Int)) (h2 : Int.tmod k2 3 = (c2 : Int)) (c0l : c0 < 3) (c1l : c1 < 3) (c2l : c2 < 3) (ht : t.length = 7) :
    rivetlaw15_ExprLeft.l22 n (m + 1 + 1 + 1 + 1 + 1) true t 0 x 7 0 [] [] 0 n0 n1 n2 n3 k0 k1 k2 = (rivetref15_Same.g x (wantOf c0 c1 c2 n0 n1 n2 n3)).bind fun y1 => some (y1.1, ()) := by
  rcases (show c0 = 0 ∨ c0 = 1 ∨ c0 = 2 by omega) with rfl | rfl | rfl <;> rcases (show c1 = 0 ∨ c1 = 1 ∨ c1 = 2 by omega) with rfl | rfl | rfl <;> rcases (show c2 = 0 ∨ c2 = 1 ∨ c2 = 2 by omega) with rfl | rfl | rfl <;>
    simp [rivetlaw15_ExprLeft.l22, rivetlaw15_ExprLeft.j27, rivetlaw15_ExprLeft.j28, rivetlaw15_ExprLeft.j23, h0, h1, h2, ht, wantOf, IntKind.wrap_i64]

theorem eleft_law (n0 n1 n2 n3 k0 k1 k2 : Int) (hn0 : 0 ≤ n0 ∧ n0 ≤ 4294967295) (hn1 : 0 ≤ n1 ∧ n1 ≤ 4294967295) (hn2 : 0 ≤ n2 ∧ n2 ≤ 4294967295) (hn3 : 0 ≤ n3 ∧ n3 ≤ 4294967295) (hk0 : 0 ≤ k0 ∧ k0 ≤ 255) (hk1 : 0 ≤ k1 ∧ k1 ≤ 255) (hk2 : 0 ≤ k2 ∧ k2 ≤ 255) : rivetlaw15_ExprLeft.g n0 n1 n2 n3 k0 k1 k2 = some (true, ()) := by
  obtain ⟨x0, rfl⟩ : ∃ k : Nat, n0 = k := ⟨n0.toNat, by omega⟩
  obtain ⟨x1, rfl⟩ : ∃ k : Nat, n1 = k := ⟨n1.toNat, by omega⟩
  obtain ⟨x2, rfl⟩ : ∃ k : Nat, n2 = k := ⟨n2.toNat, by omega⟩
  obtain ⟨x3, rfl⟩ : ∃ k : Nat, n3 = k := ⟨n3.toNat, by omega⟩
  have mods : ∀ k : Int, 0 ≤ k → ∃ c : Nat, Int.tmod k 3 = (c : Int) ∧ c < 3 := fun k hk => ⟨(k % 3).toNat, by rw [Int.tmod_eq_emod_of_nonneg hk]; omega, by omega⟩
  obtain ⟨c0, hc0, hl0⟩ := mods k0 hk0.1
  obtain ⟨c1, hc1, hl1⟩ := mods k1 hk1.1
  obtain ⟨c2, hc2, hl2⟩ := mods k2 hk2.1
  have hsg : ∀ c : Nat, c < 3 → ([([43] : Str), [45], [42]].getD (c : Int).toNat []) = [sgC c] := fun c hc => by
    rcases (show c = 0 ∨ c = 1 ∨ c = 2 by omega) with rfl | rfl | rfl <;> rfl
  unfold rivetlaw15_ExprLeft.g rivetlaw15_ExprLeft.f
  rw [shown15L_eq, Option.bind_some]
  dsimp only
  generalize hN : 1000 + (x0 : Int).toNat + (x1 : Int).toNat + (x2 : Int).toNat + (x3 : Int).toNat + k0.toNat + k1.toNat + k2.toNat = N
  have hN1 : 1000 ≤ N := by omega
  obtain ⟨M, rfl⟩ : ∃ M, N = M + 995 + 1 + 1 + 1 + 1 + 1 := ⟨N - 1000, by omega⟩
  have e0 := digs_len 16 8 x0
  have e1 := digs_len 16 8 x1
  have e2 := digs_len 16 8 x2
  have e3 := digs_len 16 8 x3
  have s0 := left6 (M + 995 + 1 + 1 + 1 + 1 + 1) (M + 995 + 1 + 1 + 1 + 1) (by omega) [] (by simp) 0 (by omega) x0 (by omega) x0 x1 x2 x3 k0 k1 k2 [43] [45] [42] rfl c0 hc0 (by omega) [sgC c0] (hsg c0 hl0) (by simp)
  have s1 := left6 (M + 995 + 1 + 1 + 1 + 1 + 1) (M + 995 + 1 + 1 + 1) (by omega) ([] ++ [48, 120] ++ digs 16 8 x0 ++ [sgC c0]) (by simp; omega) 1 (by omega) x1 (by omega) x0 x1 x2 x3 k0 k1 k2 [43] [45] [42] rfl c1 hc1 (by omega) [sgC c1] (hsg c1 hl1) (by simp)
  have s2 := left6 (M + 995 + 1 + 1 + 1 + 1 + 1) (M + 995 + 1 + 1) (by omega) ([] ++ [48, 120] ++ digs 16 8 x0 ++ [sgC c0] ++ [48, 120] ++ digs 16 8 x1 ++ [sgC c1]) (by simp; omega) 2 (by omega) x2 (by omega) x0 x1 x2 x3 k0 k1 k2 [43] [45] [42] rfl c2 hc2 (by omega) [sgC c2] (hsg c2 hl2) (by simp)
  have s3 := left6_3 (M + 995 + 1 + 1 + 1 + 1 + 1) (M + 995 + 1) (by omega) ([] ++ [48, 120] ++ digs 16 8 x0 ++ [sgC c0] ++ [48, 120] ++ digs 16 8 x1 ++ [sgC c1] ++ [48, 120] ++ digs 16 8 x2 ++ [sgC c2]) (by simp; omega) x3 (by omega) x0 x1 x2 k0 k1 k2 [43] [45] [42]
  rw [show ((0 : Nat) : Int) = 0 from rfl] at s0
  rw [s0, s1, s2]
  rw [show ((2 + 1 : Nat) : Int) = 3 from rfl, s3]
  rw [rivetlaw15_ExprLeft.l6]
  simp only [dt]
  rw [if_neg (by decide)]
  have hline := left_line x0 x1 x2 x3 (by omega) (by omega) (by omega) (by omega) c0 c1 c2
  have hs : ([] ++ [48, 120] ++ digs 16 8 x0 ++ [sgC c0] ++ [48, 120] ++ digs 16 8 x1 ++ [sgC c1] ++ [48, 120] ++ digs 16 8 x2 ++ [sgC c2] ++ [48, 120] ++ digs 16 8 x3 : Str) = [48, 120] ++ digs 16 8 x0 ++ (sgC c0 :: ([48, 120] ++ digs 16 8 x1 ++ (sgC c1 :: ([48, 120] ++ digs 16 8 x2 ++ (sgC c2 :: ([48, 120] ++ digs 16 8 x3 ++ [])))))) := by simp
  rw [hs, line_eq _ (by simp; omega), hline, Option.bind_some]
  simp only [lineOut, List.nil_append]
  rw [left_parse _ _ _ _ _ _ _ _ hl0 hl1 hl2, Option.bind_some]
  dsimp only
  have h22 := left22 (M + 995 + 1 + 1 + 1 + 1 + 1) (M + 995) ([(2, 0, [48, 120] ++ digs 16 8 x0, (x0 : Int), ()), (3, 10, [sgC c0], 0, ()), (2, 11, [48, 120] ++ digs 16 8 x1, (x1 : Int), ()), (3, 21, [sgC c1], 0, ()), (2, 22, [48, 120] ++ digs 16 8 x2, (x2 : Int), ()), (3, 32, [sgC c2], 0, ()), (2, 33, [48, 120] ++ digs 16 8 x3, (x3 : Int), ())]) (wantOf c0 c1 c2 x0 x1 x2 x3) x0 x1 x2 x3 k0 k1 k2 hc0 hc1 hc2 hl0 hl1 hl2 rfl
  rw [same15_refl _ (by rw [want_len]; omega)] at h22
  exact h22

theorem eleft_wf {n0 n1 n2 n3 k0 k1 k2 : Int} (h : (Lit.int .u32 n0).wf = true ∧ (Lit.int .u32 n1).wf = true ∧ (Lit.int .u32 n2).wf = true ∧ (Lit.int .u32 n3).wf = true ∧ (Lit.int .u8 k0).wf = true ∧ (Lit.int .u8 k1).wf = true ∧ (Lit.int .u8 k2).wf = true ∧ True) : rivetlaw15_ExprLeft.g n0 n1 n2 n3 k0 k1 k2 = some (true, ()) :=
  eleft_law n0 n1 n2 n3 k0 k1 k2 (wfU32 h.1) (wfU32 h.2.1) (wfU32 h.2.2.1) (wfU32 h.2.2.2.1) (wfU8 h.2.2.2.2.1) (wfU8 h.2.2.2.2.2.1) (wfU8 h.2.2.2.2.2.2.1)

end Rv
