/- Texts put together. -/
import Derived.Test.YtaonefbdamklhaaGreatDoorX1
set_option linter.all false
namespace Rv
open Go
abbrev W32 := BitVec 32
theorem ofI (W : W32) : BitVec.ofInt 32 (W.toNat : Int) = W := by simp
theorem wr32 (x : Int) : IntKind.u32.wrap x = ((BitVec.ofInt 32 x).toNat : Int) := by
 rw [IntKind.wrap_u32, BitVec.toNat_ofInt]
 omega
theorem w32n (W : W32) : IntKind.u32.wrap (W.toNat : Int) = (W.toNat : Int) := by rw [wr32, ofI]
theorem or32 (A B : W32) : bitsI .or .u32 (A.toNat : Int) (B.toNat : Int) = ((A ||| B).toNat : Int) := by
 show IntKind.u32.wrap (((BitVec.ofInt 32 (A.toNat : Int) ||| BitVec.ofInt 32 (B.toNat : Int)).toNat : Nat) : Int) = _
 rw [ofI, ofI, w32n]
theorem and32 (A B : W32) : bitsI .and .u32 (A.toNat : Int) (B.toNat : Int) = ((A &&& B).toNat : Int) := by
 show IntKind.u32.wrap (((BitVec.ofInt 32 (A.toNat : Int) &&& BitVec.ofInt 32 (B.toNat : Int)).toNat : Nat) : Int) = _
 rw [ofI, ofI, w32n]
theorem andNot32 (A B : W32) : bitsI .andNot .u32 (A.toNat : Int) (B.toNat : Int) = ((A &&& ~~~B).toNat : Int) := by
 show IntKind.u32.wrap (((BitVec.ofInt 32 (A.toNat : Int) &&& ~~~BitVec.ofInt 32 (B.toNat : Int)).toNat : Nat) : Int) = _
 rw [ofI, ofI, w32n]
theorem shl32 (A : W32) (b : Nat) (hb : b ≤ 32) : IntKind.u32.wrap ((A.toNat : Int) * 2 ^ (min ((b : Int)).toNat IntKind.u32.bits)) = ((A <<< b).toNat : Int) := by
 have e : min ((b : Int)).toNat IntKind.u32.bits = b := by show min ((b : Int)).toNat 32 = b; omega
 rw [e, IntKind.wrap_u32, BitVec.toNat_shiftLeft, Nat.shiftLeft_eq]
 have : (A.toNat : Int) * 2 ^ b = ((A.toNat * 2 ^ b : Nat) : Int) := by rw [Int.natCast_mul, Int.natCast_pow]; rfl
 rw [this]
 generalize A.toNat * 2 ^ b = q
 omega
theorem shr32 (A : W32) (b : Nat) (hb : b ≤ 32) : (A.toNat : Int).fdiv (2 ^ (min ((b : Int)).toNat IntKind.u32.bits)) = ((A >>> b).toNat : Int) := by
 have e : min ((b : Int)).toNat IntKind.u32.bits = b := by show min ((b : Int)).toNat 32 = b; omega
 rw [e, BitVec.toNat_ushiftRight, Nat.shiftRight_eq_div_pow, Int.fdiv_eq_ediv_of_nonneg _ (Int.le_of_lt (Int.pow_pos (by decide))), Int.natCast_ediv, Int.natCast_pow]
 rfl
def setStep (W X : W32) (b p : Nat) : W32 := (W &&& ~~~(1#32 <<< b)) ||| (((X >>> p) &&& 1#32) <<< b)
def setV (W X : W32) (a : Nat) : Nat → W32
 | 0 => W
 | k + 1 => setStep (setV W X a k) X (a + k) k
def getV (W : W32) (a : Nat) : Nat → W32
 | 0 => 0
 | k + 1 => getV W a k ||| (((W >>> (a + k)) &&& 1#32) <<< k)
theorem one_bit (j : Nat) : (1#32).getLsbD j = decide (j = 0) := by
 rw [BitVec.getLsbD_one]; simp
theorem setStep_bit (W X : W32) {b p : Nat} (hb : b < 32) {j : Nat} (hj : j < 32) : (setStep W X b p).getLsbD j = if j = b then X.getLsbD p else W.getLsbD j := by
 unfold setStep
 rw [BitVec.getLsbD_or, BitVec.getLsbD_and, BitVec.getLsbD_not, BitVec.getLsbD_shiftLeft, BitVec.getLsbD_shiftLeft, BitVec.getLsbD_and, BitVec.getLsbD_ushiftRight, one_bit]
 by_cases h : j = b
 ·subst h
  simp [hj]
 ·rw [if_neg h]
  by_cases h2 : j < b
  ·simp [hj, h2]
  ·have : ¬ j - b = 0 := by omega
   simp [hj, this]
theorem setV_bit (W X : W32) {a : Nat} : ∀ {n : Nat}, a + n ≤ 32 → ∀ {j : Nat}, j < 32 → (setV W X a n).getLsbD j = if a ≤ j ∧ j < a + n then X.getLsbD (j - a) else W.getLsbD j
 | 0, _, j, _ => by rw [if_neg (by omega)]; rfl
 | n + 1, h, j, hj => by
  rw [setV, setStep_bit _ _ (by omega) hj]
  by_cases e : j = a + n
  ·rw [if_pos e, if_pos (by omega), e, Nat.add_sub_cancel_left]
  ·rw [if_neg e, setV_bit W X (by omega) hj]
   by_cases e2 : a ≤ j ∧ j < a + n
   ·rw [if_pos e2, if_pos (by omega)]
   ·rw [if_neg e2, if_neg (by omega)]
theorem getV_bit (W : W32) {a : Nat} : ∀ {n : Nat}, n ≤ 32 → ∀ {j : Nat}, j < 32 → (getV W a n).getLsbD j = (decide (j < n) && W.getLsbD (a + j))
 | 0, _, j, _ => by simp [getV]
 | n + 1, h, j, hj => by
  rw [getV, BitVec.getLsbD_or, getV_bit W (by omega) hj, BitVec.getLsbD_shiftLeft, BitVec.getLsbD_and, BitVec.getLsbD_ushiftRight, one_bit]
  by_cases e : j = n
  ·subst e
   simp [hj]
  ·by_cases e2 : j < n
   ·simp [e2]; omega
   ·have h1 : ¬ j - n = 0 := by omega
    have h2 : ¬ j < n + 1 := by omega
    simp [e2, h1, h2]
theorem bits_eq {A B : W32} (h : ∀ j, j < 32 → A.getLsbD j = B.getLsbD j) : A = B := BitVec.eq_of_getLsbD_eq fun j hj => h j hj
theorem get_in (W X : W32) {a n b m : Nat} (h : a + n ≤ 32) (h1 : a ≤ b) (h2 : b + m ≤ a + n) : getV (setV W X a n) b m = getV X (b - a) m := bits_eq fun j hj => by
 rw [getV_bit _ (by omega) hj, getV_bit _ (by omega) hj]
 by_cases e : j < m
 ·rw [setV_bit _ _ h (by omega), if_pos (by omega), show b + j - a = b - a + j by omega]
 ·simp [e]
theorem get_out (W X : W32) {a n b m : Nat} (h : a + n ≤ 32) (hb : b + m ≤ 32) (h1 : b + m ≤ a ∨ a + n ≤ b) : getV (setV W X a n) b m = getV W b m := bits_eq fun j hj => by
 rw [getV_bit _ (by omega) hj, getV_bit _ (by omega) hj]
 by_cases e : j < m
 ·rw [setV_bit _ _ h (by omega), if_neg (by omega)]
 ·simp [e]
theorem get_zero (b m : Nat) (hm : m ≤ 32) : getV 0 b m = 0 := bits_eq fun j hj => by
 rw [getV_bit _ hm hj]; simp
theorem get_all {X : W32} {n : Nat} (hn : n ≤ 32) (hx : X.toNat < 2 ^ n) : getV X 0 n = X := bits_eq fun j hj => by
 rw [getV_bit _ hn hj, Nat.zero_add]
 by_cases e : j < n
 ·simp [e]
 ·have : X.getLsbD j = false := by
   show X.toNat.testBit j = false
   exact Nat.testBit_lt_two_pow (Nat.lt_of_lt_of_le hx (Nat.pow_le_pow_right (by decide) (by omega)))
  simp [e, this]
theorem get_lt (W : W32) (a : Nat) {n : Nat} (hn : n ≤ 32) : (getV W a n).toNat < 2 ^ n := by
 refine Nat.lt_pow_two_of_testBit _ fun j hj => ?_
 by_cases h : j < 32
 ·have := getV_bit W (a := a) hn h
  show (getV W a n).getLsbD j = false
  rw [this]; simp; omega
 ·exact BitVec.getLsbD_of_ge _ _ (by omega)
theorem set1_eq (W X : W32) {b p : Nat} (hb : b < 32) (hp : p < 32) : field_Set_1.g (b : Int) (p : Int) (W.toNat : Int) (X.toNat : Int) = some (((setStep W X b p).toNat : Int), (X.toNat : Int), ()) := by
 unfold field_Set_1.g field_Set_1.f
 have e1 : (1 : Int) = ((1#32).toNat : Int) := rfl
 rw [if_neg (by omega), if_neg (by omega), if_neg (by omega), shr32 X p (by omega), e1, shl32 (1#32) b (by omega), and32, shl32 _ b (by omega), andNot32, or32]
 rfl
theorem each_set (n : Nat) (X W : W32) {a c : Nat} (hc : 1 ≤ c) (h : a + c ≤ 32) : ∀ (m k : Nat), k ≤ c → c - k < m → field_each_c209.l2 n m (a : Int) (c : Int) ((a + k : Nat) : Int) ((setV W X a k).toNat : Int) (X.toNat : Int) = some (((setV W X a c).toNat : Int), (X.toNat : Int), ()) := by
 intro m
 induction m with
 | zero => intro k _ hm; omega
 | succ m ih =>
  intro k hk hm
  rw [field_each_c209.l2]
  simp only [dt]
  by_cases e : k = c
  ·subst e
   by_cases e2 : a + k < 32
   ·rw [if_pos (by omega), if_neg (by rw [w64 (by omega)]; omega)]
   ·rw [if_neg (by omega)]
  ·rw [if_pos (by omega), w64 (by omega), if_pos (by omega), show ((a + k : Nat) : Int) - (a : Int) = (k : Int) by omega, set1_eq _ X (by omega) (by omega), Option.bind_some]
   dsimp only
   rw [w64 (by omega), show ((a + k : Nat) : Int) + 1 = ((a + (k + 1) : Nat) : Int) by omega]
   exact ih (k + 1) (by omega) (by omega)
theorem set_eq (W X : W32) {a c : Nat} (hc : 1 ≤ c) (h : a + c ≤ 32) : field_Set.g (W.toNat : Int) (a : Int) (c : Int) (X.toNat : Int) = some (((setV W X a c).toNat : Int), ()) := by
 unfold field_Set.g field_Set.f field_each_c209.g field_each_c209.f
 simp only [dt, df]
 rw [if_pos (by omega), if_pos (by omega), w64 (by omega), if_neg (by omega)]
 have hmx : mx (a : Int) 0 = ((a + 0 : Nat) : Int) := by unfold mx; split <;> omega
 rw [hmx]
 have := each_set (1000 + ((a : Int)).toNat + ((c : Int)).toNat + ((W.toNat : Int)).toNat + ((X.toNat : Int)).toNat) X W hc h (1000 + ((a : Int)).toNat + ((c : Int)).toNat + ((W.toNat : Int)).toNat + ((X.toNat : Int)).toNat) 0 (by omega) (by omega)
 rw [show setV W X a 0 = W from rfl] at this
 rw [this, Option.bind_some]
theorem get1_eq (O W : W32) {b p : Nat} (hb : b < 32) (hp : p < 32) : field_Get_1.g (b : Int) (p : Int) (O.toNat : Int) (W.toNat : Int) = some (((O ||| (((W >>> b) &&& 1#32) <<< p)).toNat : Int), (W.toNat : Int), ()) := by
 unfold field_Get_1.g field_Get_1.f
 have e1 : (1 : Int) = ((1#32).toNat : Int) := rfl
 rw [if_neg (by omega), if_neg (by omega), shr32 W b (by omega), e1, and32, shl32 _ p (by omega), or32]
theorem each_get (n : Nat) (W : W32) {a c : Nat} (hc : 1 ≤ c) (h : a + c ≤ 32) : ∀ (m k : Nat), k ≤ c → c - k < m → field_each_c173.l2 n m (a : Int) (c : Int) ((a + k : Nat) : Int) ((getV W a k).toNat : Int) (W.toNat : Int) = some (((getV W a c).toNat : Int), (W.toNat : Int), ()) := by
 intro m
 induction m with
 | zero => intro k _ hm; omega
 | succ m ih =>
  intro k hk hm
  rw [field_each_c173.l2]
  simp only [dt]
  by_cases e : k = c
  ·subst e
   by_cases e2 : a + k < 32
   ·rw [if_pos (by omega), if_neg (by rw [w64 (by omega)]; omega)]
   ·rw [if_neg (by omega)]
  ·rw [if_pos (by omega), w64 (by omega), if_pos (by omega), show ((a + k : Nat) : Int) - (a : Int) = (k : Int) by omega, get1_eq _ W (by omega) (by omega), Option.bind_some]
   dsimp only
   rw [w64 (by omega), show ((a + k : Nat) : Int) + 1 = ((a + (k + 1) : Nat) : Int) by omega]
   exact ih (k + 1) (by omega) (by omega)
theorem get_eq (W : W32) {a c : Nat} (hc : 1 ≤ c) (h : a + c ≤ 32) : field_Get.g (W.toNat : Int) (a : Int) (c : Int) = some (((getV W a c).toNat : Int), ()) := by
 unfold field_Get.g field_Get.f field_each_c173.g field_each_c173.f
 simp only [dt, df]
 rw [if_pos (by omega), if_pos (by omega), w64 (by omega), if_neg (by omega)]
 have hmx : mx (a : Int) 0 = ((a + 0 : Nat) : Int) := by unfold mx; split <;> omega
 rw [hmx]
 have := each_get (1000 + ((a : Int)).toNat + ((c : Int)).toNat + ((0 : Int)).toNat + ((W.toNat : Int)).toNat) W hc h (1000 + ((a : Int)).toNat + ((c : Int)).toNat + ((0 : Int)).toNat + ((W.toNat : Int)).toNat) 0 (by omega) (by omega)
 rw [show ((getV W a 0).toNat : Int) = 0 from rfl] at this
 rw [this, Option.bind_some]
end Rv
namespace Rv
open Go
def layF : W32 → List (Nat × Nat × Int) → W32
 | W, [] => W
 | W, (a, n, x) :: r => layF (setV W (BitVec.ofInt 32 x) a n) r
abbrev fld (f : Nat × Nat × Int) : Int × Int × Int × Unit := ((f.1 : Int), (f.2.1 : Int), f.2.2, ())
abbrev dFld : Int × Int × Int × Unit := ((0 : Int), ((0 : Int), ((0 : Int), ())))
theorem lay_loop (n : Nat) (fs : List (Nat × Nat × Int)) (hf : ∀ f ∈ fs, 1 ≤ f.2.1 ∧ f.1 + f.2.1 ≤ 32) (hl : fs.length ≤ 1000) : ∀ (m i : Nat) (W : W32), i ≤ fs.length → fs.length - i < m →
  isa_lay.l3 n m (W.toNat : Int) (fs.map fld) ((fs.map fld).length : Int) (i : Int) = some (((layF W (fs.drop i)).toNat : Int), ()) := by
 intro m
 induction m with
 | zero => intro i _ _ h; omega
 | succ m ih =>
  intro i W hi hm
  rw [isa_lay.l3]
  simp only [dt, List.length_map]
  by_cases h : i < fs.length
  ·have hd : fs.drop i = fs[i] :: fs.drop (i + 1) := List.drop_eq_getElem_cons h
   have hg : (fs.map fld).getD ((i : Int)).toNat dFld = fld fs[i] := by
    rw [Int.toNat_natCast, List.getD_eq_getElem?_getD, List.getElem?_eq_getElem (by simpa using h)]; simp
   obtain ⟨h1, h2⟩ := hf fs[i] (List.getElem_mem h)
   rw [if_pos (by omega), if_pos (by omega), if_pos (by decide), if_pos (by decide), if_pos (by decide), hg]
   have q1 : ∀ x y z : Int, ([x, y, z] : List Int).getD ((0 : Int)).toNat 0 = x := fun _ _ _ => rfl
   have q2 : ∀ x y z : Int, ([x, y, z] : List Int).getD ((1 : Int)).toNat 0 = y := fun _ _ _ => rfl
   have q3 : ∀ x y z : Int, ([x, y, z] : List Int).getD ((2 : Int)).toNat 0 = z := fun _ _ _ => rfl
   rw [q1, q2, q3]
   dsimp only [fld]
   rw [wr32, set_eq _ _ h1 h2, Option.bind_some]
   dsimp only
   rw [w64 (by omega), show (i : Int) + 1 = ((i + 1 : Nat) : Int) by omega, hd]
   have := ih (i + 1) (setV W (BitVec.ofInt 32 fs[i].2.2) fs[i].1 fs[i].2.1) (by omega) (by omega)
   rw [List.length_map] at this
   exact this
  ·rw [if_neg (by omega), List.drop_eq_nil_of_le (by omega)]; rfl
theorem lay_eq (fs : List (Nat × Nat × Int)) (hf : ∀ f ∈ fs, 1 ≤ f.2.1 ∧ f.1 + f.2.1 ≤ 32) (hl : fs.length ≤ 1000) (l : List (Int × Int × Int × Unit)) (e : l = fs.map fld) : isa_lay.g l = some (((layF 0 fs).toNat : Int), ()) := by
 subst e
 unfold isa_lay.g isa_lay.f
 have := lay_loop (1000 + (fs.map fld).length) fs hf hl (1000 + (fs.map fld).length) 0 0 (by omega) (by rw [List.length_map]; omega)
 rw [List.drop_zero] at this
 exact this
def hdN (f : Nat) (u v : Bool) : Nat := f * 4 + (if u then 2 else 0) + (if v then 1 else 0)
theorem ihead_eq (f : Nat) (hf : f < 4) (u v : Bool) : isa_head.g (f : Int) u v = some (28, 4, (hdN f u v : Int), ()) := by
 have : ∀ f : Nat, f < 4 → ∀ u v : Bool, isa_head.g (f : Int) u v = some (28, 4, (hdN f u v : Int), ()) := by decide +kernel
 exact this f hf u v
def flds (k o a b c i : Int) (u : Bool) : List (Nat × Nat × Int) :=
 if k = 1 then [(28, 4, (hdN 0 u false : Int)), (24, 4, a), (20, 4, b), (16, 4, o), (0, 4, c)] else
 if k = 3 ∨ k = 4 then [(28, 4, (hdN 0 true (decide (k = 4)) : Int)), (24, 4, a)] else
 if k = 2 then [(28, 4, (hdN 1 u (decide (i < 0)) : Int)), (24, 4, a), (20, 4, b), (16, 4, o), (0, 16, i)] else
 if k = 5 then [(28, 4, (hdN 2 (decide (2 ≤ o)) (decide (Int.tmod o 2 = 1)) : Int)), (24, 4, a), (20, 4, b), (0, 20, i)] else
 if k = 6 then [(28, 4, (hdN 3 false u : Int)), (24, 4, o), (0, 4, c)] else
 [(28, 4, (hdN 3 true u : Int)), (24, 4, o), (0, 24, i)]
theorem flds_ok (k o a b c i : Int) (u : Bool) : (∀ f ∈ flds k o a b c i u, 1 ≤ f.2.1 ∧ f.1 + f.2.1 ≤ 32) ∧ (flds k o a b c i u).length ≤ 1000 := by
 unfold flds
 split
 ·exact ⟨by simp, by simp⟩
 ·split
  ·exact ⟨by simp, by simp⟩
  ·split
   ·exact ⟨by simp, by simp⟩
   ·split
    ·exact ⟨by simp, by simp⟩
    ·split
     ·exact ⟨by simp, by simp⟩
     ·exact ⟨by simp, by simp⟩
def wordV (k o a b c i : Int) (u : Bool) : W32 := layF 0 (flds k o a b c i u)
theorem lay_fl (k o a b c i : Int) (u : Bool) (l : List (Int × Int × Int × Unit)) (e : l = (flds k o a b c i u).map fld) : isa_lay.g l = some (((wordV k o a b c i u).toNat : Int), ()) :=
 lay_eq _ (flds_ok k o a b c i u).1 (flds_ok k o a b c i u).2 l e
theorem iword_eq (k o a b c i : Int) (u : Bool) : isa_word.g k o a b c i u = some (((wordV k o a b c i u).toNat : Int), ()) := by
 have J : ∀ n, k ≠ 1 → k ≠ 2 → k ≠ 3 → k ≠ 4 → k ≠ 5 → k ≠ 6 → isa_word.j14 n k o a b c i u 24 4 o = some (((wordV k o a b c i u).toNat : Int), ()) := fun n h1 h2 h3 h4 h5 h6 => by
  unfold isa_word.j14
  rw [show (3 : Int) = ((3 : Nat) : Int) from rfl, ihead_eq 3 (by decide), Option.bind_some, lay_fl k o a b c i u _ (by unfold flds; simp [h1, h2, h3, h4, h5, h6]), Option.bind_some]
 unfold isa_word.g
 generalize 1000 + k.toNat + o.toNat + a.toNat + b.toNat + c.toNat + i.toNat = n
 unfold isa_word.f
 simp only [dt]
 have e0 : (0 : Int) = ((0 : Nat) : Int) := rfl
 by_cases h1 : k = 1
 ·rw [if_pos h1]
  have := ihead_eq 0 (by decide) u false
  rw [show ((0 : Nat) : Int) = 0 from rfl] at this
  rw [this, Option.bind_some, lay_fl k o a b c i u _ (by unfold flds; simp [h1]), Option.bind_some]
 ·rw [if_neg h1]
  have h0 := ihead_eq 0 (by decide) true (decide (k = 4))
  rw [show ((0 : Nat) : Int) = 0 from rfl] at h0
  have g2 := ihead_eq 1 (by decide) u (decide (i < 0))
  rw [show ((1 : Nat) : Int) = 1 from rfl] at g2
  have g5 := ihead_eq 2 (by decide) (decide (2 ≤ o)) (decide (Int.tmod o 2 = 1))
  rw [show ((2 : Nat) : Int) = 2 from rfl] at g5
  have g6 := ihead_eq 3 (by decide) false u
  rw [show ((3 : Nat) : Int) = 3 from rfl] at g6
  rw [h0, g2, g5, g6]
  simp only [Option.bind_some]
  by_cases h3 : k = 3
  ·rw [if_pos h3, if_pos h3, lay_fl k o a b c i u _ (by unfold flds; simp [h3]), Option.bind_some]
  ·rw [if_neg h3]
   by_cases h4 : k = 4
   ·rw [if_pos h4, lay_fl k o a b c i u _ (by unfold flds; simp [h4]), Option.bind_some]
   ·rw [if_neg h4]
    by_cases h2 : k = 2
    ·rw [if_pos h2, lay_fl k o a b c i u _ (by unfold flds; simp [h2]), Option.bind_some]
    ·rw [if_neg h2]
     by_cases h5 : k = 5
     ·rw [if_pos h5, lay_fl k o a b c i u _ (by unfold flds; simp [h5]), Option.bind_some]
     ·rw [if_neg h5]
      by_cases h6 : k = 6
      ·rw [if_pos h6, lay_fl k o a b c i u _ (by unfold flds; simp [h6]), Option.bind_some]
      ·rw [if_neg h6]
       exact J n h1 h2 h3 h4 h5 h6
abbrev Gn (W : W32) (a n : Nat) : Int := ((getV W a n).toNat : Int)
theorem gn_range (W : W32) (a : Nat) {n : Nat} (hn : n ≤ 32) : 0 ≤ Gn W a n ∧ Gn W a n < 2 ^ n := by
 have := get_lt W a hn
 refine ⟨Int.natCast_nonneg _, ?_⟩
 have h2 : ((2 ^ n : Nat) : Int) = 2 ^ n := by rw [Int.natCast_pow]; rfl
 rw [← h2]
 exact Int.ofNat_lt.2 this
theorem read1_eq (W : W32) (a n : Nat) (hn : 1 ≤ n) (h : a + n ≤ 32) : isa_read_1.g (a : Int) (n : Int) (W.toNat : Int) = some (Gn W a n, ()) := by
 unfold isa_read_1.g isa_read_1.f
 rw [get_eq W hn h, Option.bind_some]
 dsimp only
 have := gn_range W a (n := n) (by omega)
 have h32 : (getV W a n).toNat < 2 ^ 32 := (getV W a n).isLt
 rw [w64 (by omega)]
def sgV (W : W32) (n : Nat) : Int := IntKind.i64.wrap ((IntKind.i32.wrap ((W <<< (32 - n)).toNat : Int)).fdiv (2 ^ (32 - n)))
theorem signed_eq (W : W32) (n : Nat) (h : 1 ≤ n) (h2 : n ≤ 32) : field_Signed.g (W.toNat : Int) (n : Int) = some (sgV W n, ()) := by
 unfold field_Signed.g field_Signed.f field_known.g field_known.f
 have hk : mn (mx (n : Int) 1) 32 = (n : Int) := by unfold mn mx; split <;> split <;> omega
 rw [hk, Option.bind_some]
 dsimp only
 rw [w64 (by omega), show (32 : Int) - (n : Int) = ((32 - n : Nat) : Int) by omega, if_neg (by omega), if_neg (by omega), shl32 W (32 - n) (by omega)]
 have e : min (((32 - n : Nat) : Int)).toNat IntKind.i32.bits = 32 - n := by show min (((32 - n : Nat) : Int)).toNat 32 = _; omega
 rw [e]
 rfl
theorem sg_zero {W : W32} {n : Nat} (h : n ≤ 32) (h0 : getV W 0 n = 0) : sgV W n = 0 := by
 have : W <<< (32 - n) = 0 := bits_eq fun j hj => by
  rw [BitVec.getLsbD_shiftLeft]
  by_cases e : j < 32 - n
  ·simp [e]
  ·have := congrArg (fun V : W32 => V.getLsbD (j - (32 - n))) h0
   simp only [getV_bit W h (show j - (32 - n) < 32 by omega)] at this
   rw [Nat.zero_add] at this
   have h3 : j - (32 - n) < n := by omega
   simp [h3] at this
   simp [e, hj, this]
 unfold sgV
 rw [this]
 show IntKind.i64.wrap ((IntKind.i32.wrap 0).fdiv (2 ^ (32 - n))) = 0
 rw [show IntKind.i32.wrap 0 = 0 from rfl, Int.zero_fdiv]
 rfl
def readT (W : W32) : Int × Int × Int × Int × Int × Int × Bool × Unit :=
 if Gn W 30 2 = 0 then
  (if Gn W 29 1 = 1 ∧ Gn W 16 4 = 0 then (3 + Gn W 28 1, 0, Gn W 24 4, 0, 0, 0, false, ()) else (1, Gn W 16 4, Gn W 24 4, Gn W 20 4, Gn W 0 4, 0, decide (Gn W 29 1 = 1), ()))
 else if Gn W 30 2 = 1 then (2, Gn W 16 4, Gn W 24 4, Gn W 20 4, 0, Gn W 0 16 - Gn W 28 1 * 65536, decide (Gn W 29 1 = 1), ())
 else if Gn W 30 2 = 2 then (5, Gn W 29 1 * 2 + Gn W 28 1, Gn W 24 4, Gn W 20 4, 0, sgV W 20, false, ())
 else if Gn W 29 1 = 1 then (7, Gn W 24 4, 0, 0, 0, sgV W 24, decide (Gn W 28 1 = 1), ())
 else (6, Gn W 24 4, 0, 0, Gn W 0 4, 0, decide (Gn W 28 1 = 1), ())
theorem iread_eq (W : W32) : isa_read.g (W.toNat : Int) = some (readT W) := by
 unfold isa_read.g isa_read.f
 have r1 := read1_eq W 29 1 (by decide) (by decide)
 have r2 := read1_eq W 28 1 (by decide) (by decide)
 have r3 := read1_eq W 24 4 (by decide) (by decide)
 have r4 := read1_eq W 20 4 (by decide) (by decide)
 have r5 := read1_eq W 16 4 (by decide) (by decide)
 have r6 := read1_eq W 30 2 (by decide) (by decide)
 have r7 := read1_eq W 0 4 (by decide) (by decide)
 have r8 := read1_eq W 0 16 (by decide) (by decide)
 have s1 := signed_eq W 20 (by decide) (by decide)
 have s2 := signed_eq W 24 (by decide) (by decide)
 have b1 := gn_range W 29 (n := 1) (by decide)
 have b2 := gn_range W 28 (n := 1) (by decide)
 have b8 := gn_range W 0 (n := 16) (by decide)
 have p16 : IntKind.i64.wrap (Gn W 28 1 * 2 ^ (min (16 : Int).toNat IntKind.i64.bits)) = Gn W 28 1 * 65536 := by
  show IntKind.i64.wrap (Gn W 28 1 * 65536) = _
  rw [w64 (by omega)]
 simp only [Int.cast_ofNat_Int] at r1 r2 r3 r4 r5 r6 r7 r8 s1 s2
 simp only [r1, r2, r3, r4, r5, r6, r7, r8, s1, s2, Option.bind_some, dt, isa_read.j16, p16]
 unfold readT
 by_cases h1 : Gn W 30 2 = 0
 ·rw [if_pos h1, if_pos h1]
  by_cases h2 : Gn W 29 1 = 1
  ·rw [if_pos h2]
   by_cases h3 : Gn W 16 4 = 0
   ·rw [if_pos h3, if_pos ⟨h2, h3⟩, w64 (by omega)]
   ·rw [if_neg h3, if_neg (fun h => h3 h.2)]
  ·rw [if_neg h2, if_neg (fun h => h2 h.1)]
 ·rw [if_neg h1, if_neg h1]
  by_cases h2 : Gn W 30 2 = 1
  ·rw [if_pos h2, if_pos h2, w64 (by omega)]
  ·rw [if_neg h2, if_neg h2]
   by_cases h3 : Gn W 30 2 = 2
   ·rw [if_pos h3, if_pos h3, w64 (x := Gn W 29 1 * 2) (by omega), w64 (by omega)]
   ·rw [if_neg h3, if_neg h3]
    by_cases h4 : Gn W 29 1 = 1
    ·rw [if_pos h4, if_pos h4]
    ·rw [if_neg h4, if_neg h4]
theorem gn_out (W X : W32) {a n b m : Nat} (h : a + n ≤ 32) (hb : b + m ≤ 32) (h1 : b + m ≤ a ∨ a + n ≤ b) : Gn (setV W X a n) b m = Gn W b m := by unfold Gn; rw [get_out W X h hb h1]
theorem gn_in (W : W32) {x : Int} {a n : Nat} (h : a + n ≤ 32) (hx : 0 ≤ x ∧ x < 2 ^ n) : Gn (setV W (BitVec.ofInt 32 x) a n) a n = x := by
 have h1 : (2 : Int) ^ n = ((2 ^ n : Nat) : Int) := by rw [Int.natCast_pow]; rfl
 have h2 : 2 ^ n ≤ 2 ^ 32 := Nat.pow_le_pow_right (by decide) (by omega)
 have h3 : (BitVec.ofInt 32 x).toNat = x.toNat := by
  rw [BitVec.toNat_ofInt]
  rw [h1] at hx
  generalize 2 ^ n = q at *
  omega
 unfold Gn
 rw [get_in W _ h (Nat.le_refl _) (Nat.le_refl _), Nat.sub_self, get_all (by omega) (by rw [h3]; rw [h1] at hx; omega), h3]
 omega
theorem gn_r (W : W32) {x : Int} {a : Nat} (h : a + 4 ≤ 32) (hx : 0 ≤ x ∧ x < 16) : Gn (setV W (BitVec.ofInt 32 x) a 4) a 4 = x := gn_in W h hx
theorem gn_sub (W X : W32) {a n b m : Nat} (h : a + n ≤ 32) (h1 : a ≤ b) (h2 : b + m ≤ a + n) : Gn (setV W X a n) b m = Gn X (b - a) m := by unfold Gn; rw [get_in W X h h1 h2]
theorem gn_zero (b m : Nat) (hm : m ≤ 32) : Gn 0 b m = 0 := by unfold Gn; rw [get_zero b m hm]; rfl
theorem hd_gn : ∀ f : Nat, f < 4 → ∀ u v : Bool, Gn (BitVec.ofInt 32 (hdN f u v : Int)) 2 2 = f ∧ Gn (BitVec.ofInt 32 (hdN f u v : Int)) 1 1 = (if u then 1 else 0) ∧ Gn (BitVec.ofInt 32 (hdN f u v : Int)) 0 1 = (if v then 1 else 0) := by decide +kernel
def rg (x : Int) : Prop := 0 ≤ x ∧ x < 16
inductive GoodI0 : Int → Int → Int → Int → Int → Bool → Prop
 | reg {o a b c : Int} {u : Bool} : 0 < o → o < 12 → rg a → rg b → rg c → (u = true → 8 ≤ o ∧ o ≤ 10) → GoodI0 1 o a b c u
 | mov {a c : Int} : rg a → rg c → GoodI0 1 0 a 0 c false
 | imm {o a b : Int} {u : Bool} : 0 < o → o < 12 → rg a → rg b → (u = true → 8 ≤ o ∧ o ≤ 10) → GoodI0 2 o a b 0 u
 | movi {a : Int} {u : Bool} : rg a → GoodI0 2 0 a 0 0 u
 | hi {a : Int} : rg a → GoodI0 3 0 a 0 0 false
 | fl {a : Int} : rg a → GoodI0 4 0 a 0 0 false
 | mem {o a b : Int} : 0 ≤ o → o < 4 → rg a → rg b → GoodI0 5 o a b 0 false
 | br {o c : Int} {u : Bool} : rg o → rg c → GoodI0 6 o 0 0 c u
 | jmp {o : Int} {u : Bool} : rg o → GoodI0 7 o 0 0 0 u
theorem read_reg {o a b c : Int} {u : Bool} (ho : rg o) (ha : rg a) (hb : rg b) (hc : rg c) (hu : u = true → o ≠ 0) : readT (wordV 1 o a b c 0 u) = (1, o, a, b, c, 0, u, ()) := by
 obtain ⟨h1, h2, h3⟩ := hd_gn 0 (by decide) u false
 generalize hW : wordV 1 o a b c 0 u = W
 unfold wordV flds at hW
 rw [if_pos rfl] at hW
 simp only [layF] at hW
 have w1 : Gn W 30 2 = 0 := by rw [← hW, gn_out _ _ (by decide) (by decide) (by decide), gn_out _ _ (by decide) (by decide) (by decide), gn_out _ _ (by decide) (by decide) (by decide), gn_out _ _ (by decide) (by decide) (by decide), gn_sub _ _ (by decide) (by decide) (by decide)]; exact h1
 have w2 : Gn W 29 1 = if u then 1 else 0 := by rw [← hW, gn_out _ _ (by decide) (by decide) (by decide), gn_out _ _ (by decide) (by decide) (by decide), gn_out _ _ (by decide) (by decide) (by decide), gn_out _ _ (by decide) (by decide) (by decide), gn_sub _ _ (by decide) (by decide) (by decide)]; exact h2
 have w3 : Gn W 24 4 = a := by rw [← hW, gn_out _ _ (by decide) (by decide) (by decide), gn_out _ _ (by decide) (by decide) (by decide), gn_out _ _ (by decide) (by decide) (by decide), gn_r _ (by decide) ha]
 have w4 : Gn W 20 4 = b := by rw [← hW, gn_out _ _ (by decide) (by decide) (by decide), gn_out _ _ (by decide) (by decide) (by decide), gn_r _ (by decide) hb]
 have w5 : Gn W 16 4 = o := by rw [← hW, gn_out _ _ (by decide) (by decide) (by decide), gn_r _ (by decide) ho]
 have w6 : Gn W 0 4 = c := by rw [← hW, gn_r _ (by decide) hc]
 unfold readT
 rw [w1, w2, w3, w4, w5, w6, if_pos rfl]
 cases u with
 | false => simp
 | true => simp [hu rfl]
theorem read_imm {o a b : Int} {u : Bool} (ho : rg o) (ha : rg a) (hb : rg b) : readT (wordV 2 o a b 0 0 u) = (2, o, a, b, 0, 0, u, ()) := by
 obtain ⟨h1, h2, h3⟩ := hd_gn 1 (by decide) u false
 generalize hW : wordV 2 o a b 0 0 u = W
 unfold wordV flds at hW
 rw [if_neg (by decide), if_neg (by decide), if_pos rfl] at hW
 simp only [layF] at hW
 rw [show decide ((0 : Int) < 0) = false from rfl] at hW
 have w1 : Gn W 30 2 = 1 := by rw [← hW, gn_out _ _ (by decide) (by decide) (by decide), gn_out _ _ (by decide) (by decide) (by decide), gn_out _ _ (by decide) (by decide) (by decide), gn_out _ _ (by decide) (by decide) (by decide), gn_sub _ _ (by decide) (by decide) (by decide)]; exact h1
 have w2 : Gn W 29 1 = if u then 1 else 0 := by rw [← hW, gn_out _ _ (by decide) (by decide) (by decide), gn_out _ _ (by decide) (by decide) (by decide), gn_out _ _ (by decide) (by decide) (by decide), gn_out _ _ (by decide) (by decide) (by decide), gn_sub _ _ (by decide) (by decide) (by decide)]; exact h2
 have w7 : Gn W 28 1 = 0 := by rw [← hW, gn_out _ _ (by decide) (by decide) (by decide), gn_out _ _ (by decide) (by decide) (by decide), gn_out _ _ (by decide) (by decide) (by decide), gn_out _ _ (by decide) (by decide) (by decide), gn_sub _ _ (by decide) (by decide) (by decide)]; exact h3
 have w3 : Gn W 24 4 = a := by rw [← hW, gn_out _ _ (by decide) (by decide) (by decide), gn_out _ _ (by decide) (by decide) (by decide), gn_out _ _ (by decide) (by decide) (by decide), gn_r _ (by decide) ha]
 have w4 : Gn W 20 4 = b := by rw [← hW, gn_out _ _ (by decide) (by decide) (by decide), gn_out _ _ (by decide) (by decide) (by decide), gn_r _ (by decide) hb]
 have w5 : Gn W 16 4 = o := by rw [← hW, gn_out _ _ (by decide) (by decide) (by decide), gn_r _ (by decide) ho]
 have w6 : Gn W 0 16 = 0 := by rw [← hW, gn_in _ (by decide) (by decide)]
 unfold readT
 rw [w1, w2, w3, w4, w5, w6, w7, if_neg (by decide), if_pos rfl]
 cases u <;> simp
theorem read_hi {k a : Int} (hk : k = 3 ∨ k = 4) (ha : rg a) : readT (wordV k 0 a 0 0 0 false) = (k, 0, a, 0, 0, 0, false, ()) := by
 obtain ⟨h1, h2, h3⟩ := hd_gn 0 (by decide) true (decide (k = 4))
 generalize hW : wordV k 0 a 0 0 0 false = W
 unfold wordV flds at hW
 rw [if_neg (by omega), if_pos hk] at hW
 simp only [layF] at hW
 have w1 : Gn W 30 2 = 0 := by rw [← hW, gn_out _ _ (by decide) (by decide) (by decide), gn_sub _ _ (by decide) (by decide) (by decide)]; exact h1
 have w2 : Gn W 29 1 = 1 := by rw [← hW, gn_out _ _ (by decide) (by decide) (by decide), gn_sub _ _ (by decide) (by decide) (by decide)]; exact h2
 have w7 : Gn W 28 1 = if decide (k = 4) then 1 else 0 := by rw [← hW, gn_out _ _ (by decide) (by decide) (by decide), gn_sub _ _ (by decide) (by decide) (by decide)]; exact h3
 have w3 : Gn W 24 4 = a := by rw [← hW, gn_r _ (by decide) ha]
 have w5 : Gn W 16 4 = 0 := by rw [← hW, gn_out _ _ (by decide) (by decide) (by decide), gn_out _ _ (by decide) (by decide) (by decide), gn_zero _ _ (by decide)]
 unfold readT
 rw [w1, w2, w3, w5, w7, if_pos rfl, if_pos ⟨rfl, rfl⟩]
 rcases hk with rfl | rfl <;> simp
theorem read_mem {o a b : Int} (ho : 0 ≤ o ∧ o < 4) (ha : rg a) (hb : rg b) : readT (wordV 5 o a b 0 0 false) = (5, o, a, b, 0, 0, false, ()) := by
 obtain ⟨h1, h2, h3⟩ := hd_gn 2 (by decide) (decide (2 ≤ o)) (decide (Int.tmod o 2 = 1))
 generalize hW : wordV 5 o a b 0 0 false = W
 unfold wordV flds at hW
 rw [if_neg (by decide), if_neg (by decide), if_neg (by decide), if_pos rfl] at hW
 simp only [layF] at hW
 have w1 : Gn W 30 2 = 2 := by rw [← hW, gn_out _ _ (by decide) (by decide) (by decide), gn_out _ _ (by decide) (by decide) (by decide), gn_out _ _ (by decide) (by decide) (by decide), gn_sub _ _ (by decide) (by decide) (by decide)]; exact h1
 have w2 : Gn W 29 1 = if decide (2 ≤ o) then 1 else 0 := by rw [← hW, gn_out _ _ (by decide) (by decide) (by decide), gn_out _ _ (by decide) (by decide) (by decide), gn_out _ _ (by decide) (by decide) (by decide), gn_sub _ _ (by decide) (by decide) (by decide)]; exact h2
 have w7 : Gn W 28 1 = if decide (Int.tmod o 2 = 1) then 1 else 0 := by rw [← hW, gn_out _ _ (by decide) (by decide) (by decide), gn_out _ _ (by decide) (by decide) (by decide), gn_out _ _ (by decide) (by decide) (by decide), gn_sub _ _ (by decide) (by decide) (by decide)]; exact h3
 have w3 : Gn W 24 4 = a := by rw [← hW, gn_out _ _ (by decide) (by decide) (by decide), gn_out _ _ (by decide) (by decide) (by decide), gn_r _ (by decide) ha]
 have w4 : Gn W 20 4 = b := by rw [← hW, gn_out _ _ (by decide) (by decide) (by decide), gn_r _ (by decide) hb]
 have w6 : sgV W 20 = 0 := sg_zero (by decide) (by
  rw [← hW]
  have := gn_in (x := 0) (a := 0) (n := 20) (setV (setV (setV 0 (BitVec.ofInt 32 ((hdN 2 (decide (2 ≤ o)) (decide (Int.tmod o 2 = 1)) : Nat) : Int)) 28 4) (BitVec.ofInt 32 a) 24 4) (BitVec.ofInt 32 b) 20 4) (by decide) (by decide)
  exact BitVec.eq_of_toNat_eq (by unfold Gn at this; simpa using this))
 have : o = 0 ∨ o = 1 ∨ o = 2 ∨ o = 3 := by omega
 unfold readT
 rw [w1, w2, w3, w4, w6, w7, if_neg (by decide), if_neg (by decide), if_pos rfl]
 rcases this with rfl | rfl | rfl | rfl <;> rfl
theorem read_br {o c : Int} {u : Bool} (ho : rg o) (hc : rg c) : readT (wordV 6 o 0 0 c 0 u) = (6, o, 0, 0, c, 0, u, ()) := by
 obtain ⟨h1, h2, h3⟩ := hd_gn 3 (by decide) false u
 generalize hW : wordV 6 o 0 0 c 0 u = W
 unfold wordV flds at hW
 rw [if_neg (by decide), if_neg (by decide), if_neg (by decide), if_neg (by decide), if_pos rfl] at hW
 simp only [layF] at hW
 have w1 : Gn W 30 2 = 3 := by rw [← hW, gn_out _ _ (by decide) (by decide) (by decide), gn_out _ _ (by decide) (by decide) (by decide), gn_sub _ _ (by decide) (by decide) (by decide)]; exact h1
 have w2 : Gn W 29 1 = 0 := by rw [← hW, gn_out _ _ (by decide) (by decide) (by decide), gn_out _ _ (by decide) (by decide) (by decide), gn_sub _ _ (by decide) (by decide) (by decide)]; exact h2
 have w7 : Gn W 28 1 = if u then 1 else 0 := by rw [← hW, gn_out _ _ (by decide) (by decide) (by decide), gn_out _ _ (by decide) (by decide) (by decide), gn_sub _ _ (by decide) (by decide) (by decide)]; exact h3
 have w3 : Gn W 24 4 = o := by rw [← hW, gn_out _ _ (by decide) (by decide) (by decide), gn_r _ (by decide) ho]
 have w6 : Gn W 0 4 = c := by rw [← hW, gn_r _ (by decide) hc]
 unfold readT
 rw [w1, w2, w3, w6, w7, if_neg (by decide), if_neg (by decide), if_neg (by decide), if_neg (by decide)]
 cases u <;> simp
theorem read_jmp {o : Int} {u : Bool} (ho : rg o) : readT (wordV 7 o 0 0 0 0 u) = (7, o, 0, 0, 0, 0, u, ()) := by
 obtain ⟨h1, h2, h3⟩ := hd_gn 3 (by decide) true u
 generalize hW : wordV 7 o 0 0 0 0 u = W
 unfold wordV flds at hW
 rw [if_neg (by decide), if_neg (by decide), if_neg (by decide), if_neg (by decide), if_neg (by decide)] at hW
 simp only [layF] at hW
 have w1 : Gn W 30 2 = 3 := by rw [← hW, gn_out _ _ (by decide) (by decide) (by decide), gn_out _ _ (by decide) (by decide) (by decide), gn_sub _ _ (by decide) (by decide) (by decide)]; exact h1
 have w2 : Gn W 29 1 = 1 := by rw [← hW, gn_out _ _ (by decide) (by decide) (by decide), gn_out _ _ (by decide) (by decide) (by decide), gn_sub _ _ (by decide) (by decide) (by decide)]; exact h2
 have w7 : Gn W 28 1 = if u then 1 else 0 := by rw [← hW, gn_out _ _ (by decide) (by decide) (by decide), gn_out _ _ (by decide) (by decide) (by decide), gn_sub _ _ (by decide) (by decide) (by decide)]; exact h3
 have w3 : Gn W 24 4 = o := by rw [← hW, gn_out _ _ (by decide) (by decide) (by decide), gn_r _ (by decide) ho]
 have w6 : sgV W 24 = 0 := sg_zero (by decide) (by
  rw [← hW]
  have := gn_in (x := 0) (a := 0) (n := 24) (setV (setV 0 (BitVec.ofInt 32 ((hdN 3 true u : Nat) : Int)) 28 4) (BitVec.ofInt 32 o) 24 4) (by decide) (by decide)
  exact BitVec.eq_of_toNat_eq (by unfold Gn at this; simpa using this))
 unfold readT
 rw [w1, w2, w3, w6, w7, if_neg (by decide), if_neg (by decide), if_neg (by decide), if_pos rfl]
 cases u <;> simp
theorem read_good {k o a b c : Int} {u : Bool} (h : GoodI0 k o a b c u) : readT (wordV k o a b c 0 u) = (k, o, a, b, c, 0, u, ()) := by
 have z : rg 0 := ⟨by decide, by decide⟩
 cases h with
 | reg h1 h2 ha hb hc hu => exact read_reg ⟨by omega, by omega⟩ ha hb hc (fun _ => by omega)
 | mov ha hc => exact read_reg z ha z hc (fun h => by cases h)
 | imm h1 h2 ha hb hu => exact read_imm ⟨by omega, by omega⟩ ha hb
 | movi ha => exact read_imm z ha z
 | hi ha => exact read_hi (.inl rfl) ha
 | fl ha => exact read_hi (.inr rfl) ha
 | mem h1 h2 ha hb => exact read_mem ⟨h1, h2⟩ ha hb
 | br ho hc => exact read_br ho hc
 | jmp ho => exact read_jmp ho
theorem between_eq (n l h : Int) : isa_between.g n l h = some (decide (l ≤ n) && decide (n ≤ h), ()) := by
 unfold isa_between.g isa_between.f
 by_cases e : l ≤ n
 ·rw [if_pos (by simpa using e), decide_eq_true e]; rfl
 ·rw [if_neg (by simpa using e), decide_eq_false e]; rfl
theorem i0_range {k o a b c : Int} {u : Bool} (h : GoodI0 k o a b c u) : 1 ≤ k ∧ k ≤ 7 ∧ 0 ≤ o ∧ o ≤ 15 := by
 cases h <;> refine ⟨by decide, by decide, ?_, ?_⟩ <;> first | decide | omega | (rename_i h _; exact h.1) | (rename_i h _; have := h.2; omega) | (rename_i h; exact h.1) | (rename_i h; have := h.2; omega)
theorem isa_good {k o a b c : Int} {u : Bool} (h : GoodI0 k o a b c u) : isa_May.g k o a b c 0 u = some (true, ()) := by
 have hr := read_good h
 have hk := i0_range h
 unfold isa_May.g
 generalize 1000 + k.toNat + o.toNat + a.toNat + b.toNat + c.toNat + (0 : Int).toNat = n
 unfold isa_May.f
 rw [between_eq, Option.bind_some]
 dsimp only
 rw [decide_eq_true hk.1, decide_eq_true hk.2.1, if_pos (by decide), between_eq, Option.bind_some]
 dsimp only
 rw [decide_eq_true hk.2.2.1, decide_eq_true hk.2.2.2, if_pos (by decide), iword_eq, Option.bind_some]
 dsimp only
 rw [iread_eq, Option.bind_some, hr]
 dsimp only
 rw [if_neg (by simp)]
 simp only [dt, df, isa_May.j10, between_eq, Option.bind_some]
 cases h with
 | reg h1 h2 ha hb hc hu =>
  rw [if_pos rfl, if_pos rfl, if_neg (by omega), if_neg (by omega)]
  cases u with
  | false => rfl
  | true => simp [hu rfl]
 | mov ha hc => rfl
 | imm h1 h2 ha hb hu =>
  rw [if_neg (by decide), if_pos rfl, if_neg (by omega), if_neg (by omega)]
  cases u with
  | false => rfl
  | true => simp [hu rfl]
 | movi ha => cases u <;> rfl
 | hi ha => rfl
 | fl ha => rfl
 | mem h1 h2 ha hb => rfl
 | br ho hc => rfl
 | jmp ho => rfl
end Rv
namespace Rv
open Go
def isL (b : UInt8) : Bool := decide (65 ≤ b.toNat ∧ b.toNat ≤ 90 ∨ 97 ≤ b.toNat ∧ b.toNat ≤ 122 ∨ b.toNat = 95)
def isD (b : UInt8) : Bool := decide (48 ≤ b.toNat ∧ b.toNat ≤ 57)
def isW (b : UInt8) : Bool := isL b || isD b
def wordOf (s : Str) : Str := s.takeWhile isW
theorem some_tt {p : Prop} [Decidable p] (h : p) : some (true, ()) = some (decide p, ()) := by simp [h]
theorem some_ff {p : Prop} [Decidable p] (h : ¬ p) : some (false, ()) = some (decide p, ()) := by simp [h]
theorem some_pq {p q : Prop} [Decidable p] [Decidable q] (h : p ↔ q) : some (decide p, ()) = some (decide q, ()) := by simp [h]
theorem letter_eq (b : UInt8) : scan_letter.g (b.toNat : Int) = some (isL b, ()) := by
 unfold scan_letter.g scan_letter.f isL
 simp only [dt, df]
 (repeat' split) <;> first | (refine some_tt ?_; omega) | (refine some_ff ?_; omega) | (refine some_pq ?_; omega)
theorem digit_eq (b : UInt8) : scan_digit.g (b.toNat : Int) = some (isD b, ()) := by
 unfold scan_digit.g scan_digit.f isD
 simp only [dt, df]
 (repeat' split) <;> first | (refine some_tt ?_; omega) | (refine some_ff ?_; omega) | (refine some_pq ?_; omega)
theorem word_loop (s : Str) (hs : s.length ≤ 9223372036854775807) (n : Nat) : ∀ (m k : Nat), k ≤ s.length → s.length - k < m → scan_word.l2 n m s (k : Int) = some (s.take (k + (wordOf (s.drop k)).length), ()) := by
 intro m
 induction m with
 | zero => intro k _ h; omega
 | succ m ih =>
  intro k hk hm
  have hend : scan_word.j4 n s (k : Int) = some (s.take k, ()) := by
   unfold scan_word.j4
   rw [if_pos (by omega)]
   simp
  simp only [scan_word.l2, dt, df]
  by_cases hlt : k < s.length
  ·have hd := drop_cons hlt
   have step : scan_word.j3 n (scan_word.l2 n m) s (k : Int) = some (s.take (k + 1 + (wordOf (s.drop (k + 1))).length), ()) := by
    unfold scan_word.j3
    rw [w64 (by omega)]
    exact ih (k + 1) (by omega) (by omega)
   rw [if_pos (by omega), if_pos (by omega), bt_nat, letter_eq, Option.bind_some]
   cases hl : isL (s.getD k 0) with
   | true =>
    rw [if_neg (by simp), step, hd]
    simp only [wordOf, List.takeWhile_cons, isW, hl, Bool.true_or, if_true, List.length_cons]
    rw [show k + 1 + ((s.drop (k + 1)).takeWhile isW).length = k + (((s.drop (k + 1)).takeWhile isW).length + 1) by omega]
   | false =>
    rw [if_pos rfl, if_pos (by omega), digit_eq, Option.bind_some]
    cases hdg : isD (s.getD k 0) with
    | true =>
     rw [if_pos rfl, step, hd]
     simp only [wordOf, List.takeWhile_cons, isW, hl, hdg, Bool.or_true, if_true, List.length_cons]
     rw [show k + 1 + ((s.drop (k + 1)).takeWhile isW).length = k + (((s.drop (k + 1)).takeWhile isW).length + 1) by omega]
    | false =>
     rw [if_neg (by simp), hend, hd]
     simp only [wordOf, List.takeWhile_cons, isW, hl, hdg, Bool.or_self, Bool.false_eq_true, if_false, List.length_nil, Nat.add_zero]
  ·have : k = s.length := by omega
   subst this
   rw [if_neg (by omega), hend]
   simp [wordOf]
theorem word_eq (s : Str) (hs : s.length ≤ 9223372036854775807) : scan_word.g s = some (wordOf s, ()) := by
 unfold scan_word.g scan_word.f
 have := word_loop s hs (1000 + s.length) (1000 + s.length) 0 (by omega) (by omega)
 rw [show ((0 : Nat) : Int) = 0 from rfl] at this
 rw [this]
 congr 2
 simp only [List.drop_zero, Nat.zero_add]
 exact (List.prefix_iff_eq_take.1 (List.takeWhile_prefix isW)).symm
def lowN (c : Int) : Int := if c / 32 % 2 = 1 then c else c + 32
theorem lower_tab : ((List.range 256).all fun n => decide (bitsI .or .u8 (n : Int) 32 = lowN n)) = true := by decide +kernel
theorem lower_eq (b : UInt8) : internal_strconv_lower.g (b.toNat : Int) = some (lowN b.toNat, ()) := by
 unfold internal_strconv_lower.g internal_strconv_lower.f
 have := List.all_eq_true.1 lower_tab b.toNat (by have := b.toNat_lt; simpa using this)
 rw [of_decide_eq_true this]
def digOf (b : UInt8) : Option Nat :=
 if 48 ≤ b.toNat ∧ b.toNat ≤ 57 then some (b.toNat - 48) else if 97 ≤ b.toNat ∧ b.toNat ≤ 122 then some (b.toNat - 87) else if 65 ≤ b.toNat ∧ b.toNat ≤ 90 then some (b.toNat - 55) else none
def numFrom (base : Nat) : Nat → Str → Option Nat
 | n, [] => some n
 | n, c :: r => match digOf c with
  | some d => if d < base then (if n * base + d < 4294967296 then numFrom base (n * base + d) r else none) else none
  | none => none
def PuR (o : Option Nat) (r : Option (Int × Option Int × Unit)) : Prop :=
 (∀ v, o = some v → r = some ((v : Int), none, ())) ∧ (o = none → ∃ x e, r = some (x, some e, ()) ∧ (e = 1 ∨ e = 2))
theorem PuR.bad {x e : Int} (h : e = 1 ∨ e = 2) : PuR none (some (x, some e, ())) := ⟨fun _ e => (by cases e), fun _ => ⟨x, e, rfl, h⟩⟩
theorem map_getD (s : Str) (k : Nat) (h : k < s.length) : (s.map fun b => (b.toNat : Int)).getD ((k : Int)).toNat 0 = ((s.getD k 0).toNat : Int) := by
 simp [List.getD, h]
theorem pu_digit {n : Nat} {rl : Int → Bool → Str → Int → Int → Bool → Int → (List Int) → Int → Int → Option (Int × (Option Int) × Unit)} {base d v k : Nat} {s9 : Str} {cutoff : Int} {t : List Int} {l : Int} {o : Nat → Option Nat} (hb : base = 10 ∨ base = 16) (hd : d < 36) (hv : v < 4294967296) (hc : 4294967296 ≤ cutoff) (hk : k < 9223372036854775807)
  (hr : ∀ v, v < 4294967296 → PuR (o v) (rl base false s9 cutoff 4294967295 false v t l ((k + 1 : Nat) : Int))) :
  PuR (if d < base then (if v * base + d < 4294967296 then o (v * base + d) else none) else none) (internal_strconv_ParseUint.j46 n rl base false s9 cutoff 4294967295 false v d t l k) := by
 unfold internal_strconv_ParseUint.j46 internal_strconv_ParseUint.j55
 have hm : v * base < 68719476736 := by
  rcases hb with rfl | rfl <;> omega
 rw [w8u (by omega), w64 (x := (k : Int) + 1) (by omega), w64u (x := (base : Int)) (by omega), w64u (x := (d : Int)) (by omega)]
 have e1 : ((v : Int) * (base : Int)) = ((v * base : Nat) : Int) := by simp
 rw [e1]
 have hr' := fun h => hr (v * base + d) h
 generalize v * base = M at *
 rw [w64u (x := (M : Int)) (by omega), w64u (x := (M : Int) + d) (by omega)]
 simp only [dt, df]
 by_cases h1 : d < base
 ·by_cases h2 : M + d < 4294967296
  ·rw [if_pos h1, if_pos h2, if_neg (by omega), if_neg (by omega), if_pos (by omega), if_neg (by omega)]
   have := hr' h2
   simpa using this
  ·rw [if_pos h1, if_neg h2, if_neg (by omega), if_neg (by omega), if_pos (by omega), if_pos (by omega)]
   exact PuR.bad (.inl rfl)
 ·rw [if_neg h1, if_pos (by omega)]
  exact PuR.bad (.inr rfl)
theorem pu_loop (s s9 : Str) (base : Nat) (cutoff : Int) (hb : base = 10 ∨ base = 16) (hc : 4294967296 ≤ cutoff) (hs : s.length < 9223372036854775807) (n : Nat) : ∀ (m k v : Nat), k ≤ s.length → s.length - k < m → v < 4294967296 →
  PuR (numFrom base v (s.drop k)) (internal_strconv_ParseUint.l36 n m base false s9 cutoff 4294967295 false v (s.map fun b => (b.toNat : Int)) ((s.map fun b => (b.toNat : Int)).length : Int) k) := by
 intro m
 induction m with
 | zero => intro k v _ h; omega
 | succ m ih =>
  intro k v hk hm hv
  simp only [internal_strconv_ParseUint.l36, dt, df]
  by_cases hlt : k < s.length
  ·have hl : k < (s.map fun b => (b.toNat : Int)).length := by simpa using hlt
   rw [if_pos (by omega), if_pos (by omega), drop_cons hlt]
   simp only [map_getD s k hlt, lower_eq, Option.bind_some, Bool.false_eq_true, if_false]
   have step : ∀ d, digOf (s.getD k 0) = some d → d < 36 → PuR (numFrom base v (s.getD k 0 :: s.drop (k + 1))) (internal_strconv_ParseUint.j46 n (internal_strconv_ParseUint.l36 n m) base false s9 cutoff 4294967295 false v d (s.map fun b => (b.toNat : Int)) ((s.map fun b => (b.toNat : Int)).length : Int) k) := by
    intro d hd hd36
    simp only [numFrom, hd]
    exact pu_digit (o := fun v => numFrom base v (s.drop (k + 1))) hb hd36 hv hc (by omega) fun v hv => ih (k + 1) v (by omega) (by omega) hv
   have bad : digOf (s.getD k 0) = none → PuR (numFrom base v (s.getD k 0 :: s.drop (k + 1))) (some ((0 : Int), some (2 : Int), ())) := by
    intro hd
    simp only [numFrom, hd]
    exact PuR.bad (.inr rfl)
   generalize hbb : s.getD k 0 = b at *
   have hb1 := byte_lt b
   have dig1 : (48 : Int) ≤ b.toNat → (b.toNat : Int) ≤ 57 → digOf b = some (b.toNat - 48) := fun h1 h2 => by unfold digOf; rw [if_pos (by omega)]
   have dig2 : ¬((48 : Int) ≤ b.toNat ∧ (b.toNat : Int) ≤ 57) → (97 : Int) ≤ lowN b.toNat → lowN b.toNat ≤ (122 : Int) → ∃ d, digOf b = some d ∧ d < 36 ∧ IntKind.u8.wrap (IntKind.u8.wrap (lowN b.toNat - 97) + 10) = (d : Int) := fun h1 h2 h3 => by
    rw [w8u (x := lowN b.toNat - 97) (by omega), w8u (by omega)]
    unfold lowN at h2 h3 ⊢
    unfold digOf
    rw [if_neg (by omega)]
    split at h2
    ·rw [if_pos (by omega)] at h3
     rw [if_pos (by omega), if_pos (by omega)]
     exact ⟨_, rfl, by omega, by omega⟩
    ·rw [if_neg (by omega)] at h3
     rw [if_neg (by omega), if_pos (by omega), if_neg (by omega)]
     exact ⟨_, rfl, by omega, by omega⟩
   have dig3 : ¬((48 : Int) ≤ b.toNat ∧ (b.toNat : Int) ≤ 57) → ¬((97 : Int) ≤ lowN b.toNat ∧ lowN b.toNat ≤ (122 : Int)) → digOf b = none := fun h1 h2 => by
    unfold lowN at h2
    unfold digOf
    rw [if_neg (by omega)]
    split at h2
    ·rw [if_neg (by omega), if_neg (by omega)]
    ·rw [if_neg (by omega), if_neg (by omega)]
   have wr : (48 : Int) ≤ b.toNat → (b.toNat : Int) ≤ 57 → IntKind.u8.wrap ((b.toNat : Int) - 48) = ((b.toNat - 48 : Nat) : Int) := fun h1 h2 => by rw [w8u (by omega)]; omega
   have lets : ¬((48 : Int) ≤ b.toNat ∧ (b.toNat : Int) ≤ 57) → PuR (numFrom base v (b :: s.drop (k + 1))) (if (97 : Int) ≤ lowN b.toNat then (if lowN b.toNat ≤ (122 : Int) then internal_strconv_ParseUint.j46 n (internal_strconv_ParseUint.l36 n m) base false s9 cutoff 4294967295 false v (IntKind.u8.wrap (IntKind.u8.wrap (lowN b.toNat - 97) + 10)) (s.map fun b => (b.toNat : Int)) ((s.map fun b => (b.toNat : Int)).length : Int) k
     else some ((0 : Int), some (2 : Int), ())) else some ((0 : Int), some (2 : Int), ())) := by
    intro h0
    by_cases h1 : (97 : Int) ≤ lowN b.toNat
    ·rw [if_pos h1]
     by_cases h2 : lowN b.toNat ≤ (122 : Int)
     ·rw [if_pos h2]
      obtain ⟨d, hd, hd36, he⟩ := dig2 h0 h1 h2
      rw [he]
      exact step d hd hd36
     ·rw [if_neg h2]; exact bad (dig3 h0 fun h => h2 h.2)
    ·rw [if_neg h1]; exact bad (dig3 h0 fun h => h1 h.1)
   have rest : PuR (numFrom base v (b :: s.drop (k + 1))) (if (48 : Int) ≤ b.toNat then (if (b.toNat : Int) ≤ 57 then internal_strconv_ParseUint.j46 n (internal_strconv_ParseUint.l36 n m) base false s9 cutoff 4294967295 false v (IntKind.u8.wrap ((b.toNat : Int) - 48)) (s.map fun b => (b.toNat : Int)) ((s.map fun b => (b.toNat : Int)).length : Int) k
     else (if (97 : Int) ≤ lowN b.toNat then (if lowN b.toNat ≤ (122 : Int) then internal_strconv_ParseUint.j46 n (internal_strconv_ParseUint.l36 n m) base false s9 cutoff 4294967295 false v (IntKind.u8.wrap (IntKind.u8.wrap (lowN b.toNat - 97) + 10)) (s.map fun b => (b.toNat : Int)) ((s.map fun b => (b.toNat : Int)).length : Int) k
     else some ((0 : Int), some (2 : Int), ())) else some ((0 : Int), some (2 : Int), ())))
     else (if (97 : Int) ≤ lowN b.toNat then (if lowN b.toNat ≤ (122 : Int) then internal_strconv_ParseUint.j46 n (internal_strconv_ParseUint.l36 n m) base false s9 cutoff 4294967295 false v (IntKind.u8.wrap (IntKind.u8.wrap (lowN b.toNat - 97) + 10)) (s.map fun b => (b.toNat : Int)) ((s.map fun b => (b.toNat : Int)).length : Int) k
     else some ((0 : Int), some (2 : Int), ())) else some ((0 : Int), some (2 : Int), ()))) := by
    by_cases h1 : (48 : Int) ≤ b.toNat
    ·rw [if_pos h1]
     by_cases h2 : (b.toNat : Int) ≤ 57
     ·rw [if_pos h2, wr h1 h2]; exact step _ (dig1 h1 h2) (by omega)
     ·rw [if_neg h2]; exact lets fun h => h2 h.2
    ·rw [if_neg h1]; exact lets fun h => h1 h.1
   split
   ·exact rest
   ·exact rest
  ·have : k = s.length := by omega
   subst this
   rw [if_neg (by simp), List.drop_length]
   simp only [Bool.false_eq_true, if_false]
   exact ⟨fun v' e => by simp only [numFrom, Option.some.injEq] at e; rw [e], fun e => by simp [numFrom] at e⟩
theorem parse_inner (s : Str) (base : Nat) (hb : base = 10 ∨ base = 16) (hs : s.length < 9223372036854775807) : PuR (if s = [] then none else numFrom base 0 s) (internal_strconv_ParseUint.g s base 32) := by
 unfold internal_strconv_ParseUint.g internal_strconv_ParseUint.f
 simp only [dt, df]
 by_cases h0 : s = []
 ·rw [if_pos h0, if_pos h0]
  exact PuR.bad (.inr rfl)
 ·rw [if_neg h0, if_neg h0, if_pos (by omega), if_pos (by omega)]
  have hb0 : decide ((base : Int) = 0) = false := by simp; omega
  rw [hb0]
  unfold internal_strconv_ParseUint.j21
  simp only [dt, df]
  rw [if_neg (by omega), if_pos (by omega), if_neg (by omega)]
  unfold internal_strconv_ParseUint.j25
  simp only [dt, df]
  have fin : ∀ cutoff : Int, 4294967296 ≤ cutoff → PuR (numFrom base 0 s) (internal_strconv_ParseUint.j32 (1000 + s.length + (base : Int).toNat + (32 : Int).toNat) s base 32 false s cutoff) := by
   intro cutoff hc
   unfold internal_strconv_ParseUint.j32
   have e1 : IntKind.u64.wrap 32 = 32 := w64u (by omega)
   rw [e1, if_neg (by omega)]
   have e2 : IntKind.u64.wrap (IntKind.u64.wrap (1 * 2 ^ min (32 : Int).toNat IntKind.u64.bits) - 1) = 4294967295 := by decide
   rw [e2]
   have := pu_loop s s base cutoff hb hc hs (1000 + s.length + (base : Int).toNat + (32 : Int).toNat) (1000 + s.length + (base : Int).toNat + (32 : Int).toNat) 0 0 (by omega) (by omega) (by omega)
   simpa using this
  rcases hb with rfl | rfl
  ·rw [if_pos (by omega)]; exact fin _ (by omega)
  ·rw [if_neg (by omega), if_pos (by omega)]; exact fin _ (by omega)
theorem parse_eq (s : Str) (base : Nat) (hb : base = 10 ∨ base = 16) (hs : s.length ≤ 281474976710656) : (∀ v, (if s = [] then none else numFrom base 0 s) = some v → strconv_ParseUint.g s base 32 = some ((v : Int), true, ())) ∧
  ((if s = [] then none else numFrom base 0 s) = none → ∃ x, strconv_ParseUint.g s base 32 = some (x, false, ())) := by
 obtain ⟨h1, h2⟩ := parse_inner s base hb (by omega)
 refine ⟨fun v hv => ?_, fun hn => ?_⟩
 ·unfold strconv_ParseUint.g strconv_ParseUint.f
  rw [h1 v hv]; rfl
 ·obtain ⟨x, e, he, hc⟩ := h2 hn
  unfold strconv_ParseUint.g strconv_ParseUint.f
  rw [he]
  simp only [Option.bind_some, Option.isNone_some, Bool.not_false, if_true, L.toErrorO, Option.some.injEq]
  rw [if_pos ⟨hs, hc⟩]
  exact ⟨x, rfl⟩
theorem contains_mem : ∀ {s : Str} {c : UInt8}, Lib.contains s [c] = true → c ∈ s
 | [], c, h => by simp [Lib.contains, Lib.index] at h
 | b :: l, c, h => by
  by_cases hb : c = b
  ·simp [hb]
  ·have : Lib.contains l [c] = true := by
    simp only [Lib.contains, Lib.index, List.isPrefixOf, Bool.and_true, beq_iff_eq, decide_eq_true_eq] at h ⊢
    rw [if_neg hb] at h
    split at h
    ·omega
    ·have := Lib.index_ge l [c]
     rename_i hne
     have : ¬ Lib.index l [c] = -1 := by simpa using hne
     omega
   exact List.mem_cons_of_mem _ (contains_mem this)
theorem numFrom_bad {base : Nat} : ∀ {s : Str} {v : Nat}, (95 : UInt8) ∈ s → numFrom base v s = none
 | [], _, h => by cases h
 | c :: r, v, h => by
  simp only [numFrom]
  rcases List.mem_cons.1 h with h | h
  ·rw [← h]
   have : digOf 95 = none := by decide
   rw [this]
  ·(repeat' split) <;> first | rfl | exact numFrom_bad h
theorem numFrom_lt {base : Nat} : ∀ {s : Str} {v w : Nat}, v < 4294967296 → numFrom base v s = some w → w < 4294967296
 | [], _, _, hv, h => by simp only [numFrom, Option.some.injEq] at h; omega
 | c :: r, v, w, hv, h => by
  simp only [numFrom] at h
  split at h
  ·split at h
   ·split at h
    ·exact numFrom_lt (by assumption) h
    ·cases h
   ·cases h
  ·cases h
def num (s : Str) : Option Nat :=
 if ([48, 120] : Str).isPrefixOf s then (if s.drop 2 = [] then none else numFrom 16 0 (s.drop 2)) else if s = [] then none else numFrom 10 0 s
theorem number_part (s : Str) (base : Nat) (n : Nat) (hb : base = 10 ∨ base = 16) (hs : s.length ≤ 1000000) :
  (∀ v, (if s = [] then none else numFrom base 0 s) = some v → scan_number.j5 n s base = some ((v : Int), true, ())) ∧ ((if s = [] then none else numFrom base 0 s) = none → ∃ x, scan_number.j5 n s base = some (x, false, ())) := by
 have hcO : L.containsO s [95] = some (Lib.contains s [95], ()) := by unfold L.containsO; rw [if_pos (by omega)]
 unfold scan_number.j5
 rw [hcO, Option.bind_some]
 obtain ⟨h1, h2⟩ := parse_eq s base hb (by omega)
 by_cases hc : Lib.contains s [95] = true
 ·simp only [hc, if_true]
  have hm := contains_mem hc
  have hne : s ≠ [] := by rintro rfl; cases hm
  rw [if_neg hne, numFrom_bad hm]
  exact ⟨fun v e => (by cases e), fun _ => ⟨_, rfl⟩⟩
 ·simp only [hc, Bool.false_eq_true, if_false]
  refine ⟨fun v hv => ?_, fun hn => ?_⟩
  ·have hlt : v < 4294967296 := by
    split at hv
    ·cases hv
    ·exact numFrom_lt (by omega) hv
   rw [h1 v hv, Option.bind_some, w32u (by omega)]
  ·obtain ⟨x, hx⟩ := h2 hn
   rw [hx, Option.bind_some]
   exact ⟨_, rfl⟩
theorem number_eq (s : Str) (hs : s.length ≤ 1000000) : (∀ v, num s = some v → scan_number.g s = some ((v : Int), true, ())) ∧ (num s = none → ∃ x, scan_number.g s = some (x, false, ())) := by
 unfold scan_number.g scan_number.f num L.cutIs L.cutRest Lib.trimPrefix Lib.hasPrefix
 by_cases hp : ([48, 120] : Str).isPrefixOf s = true
 ·simp only [hp, if_true]
  exact number_part (s.drop 2) 16 _ (.inr rfl) (by simp; omega)
 ·have hp' : ([48, 120] : Str).isPrefixOf s = false := Bool.eq_false_iff.2 hp
  simp only [hp', Bool.false_eq_true, if_false]
  exact number_part s 10 _ (.inl rfl) hs
abbrev Tok := Int × Int × Str × Int × Unit
def isS (c : UInt8) : Bool := ([44, 58, 43, 45, 42, 40, 41, 61] : Str).contains c
def tokAt (c : UInt8) (r : Str) : Except Int (Nat × Int × Str × Int) :=
 if isL c then .ok (0, 1, wordOf (c :: r), 0)
 else if isD c then match num (wordOf (c :: r)) with
  | some v => .ok (0, 2, wordOf (c :: r), v)
  | none => .error 21
 else if c = 46 ∧ (∃ d ∈ r.head?, isL d) then .ok (1, 4, wordOf r, 0)
 else if isS c then .ok (0, 3, [c], 0)
 else .error 20
def lineR (k : Int) : Str → Except Int (List Tok)
 | [] => .ok []
 | c :: r =>
  if c = 59 then .ok []
  else if c = 32 ∨ c = 9 then lineR (k + 1) r
  else match tokAt c r with
   | .error e => .error e
   | .ok (d, q, t, v) => match lineR (k + d + t.length) (r.drop (d + t.length - 1)) with
    | .error e => .error e
    | .ok l => .ok ((q, k, t, v, ()) :: l)
termination_by s => s.length
decreasing_by
 all_goals simp
 all_goals omega
theorem lineR_nil (k : Int) : lineR k [] = .ok [] := by rw [lineR]
theorem lineR_cons (k : Int) (c : UInt8) (r : Str) : lineR k (c :: r) = if c = 59 then .ok [] else if c = 32 ∨ c = 9 then lineR (k + 1) r else match tokAt c r with
   | .error e => .error e
   | .ok (d, q, t, v) => match lineR (k + d + t.length) (r.drop (d + t.length - 1)) with
    | .error e => .error e
    | .ok l => .ok ((q, k, t, v, ()) :: l) := by rw [lineR]
theorem sign_tab : ((List.range 256).all fun n => decide ((0 ≤ L.indexByte ([44, 58, 43, 45, 42, 40, 41, 61] : Str) (n : Int)) = (isS (UInt8.ofNat n) = true))) = true := by decide +kernel
theorem sign_eq (b : UInt8) : (0 ≤ L.indexByte ([44, 58, 43, 45, 42, 40, 41, 61] : Str) (b.toNat : Int)) = (isS b = true) := by
 have := List.all_eq_true.1 sign_tab b.toNat (by have := b.toNat_lt; simpa using this)
 have h := of_decide_eq_true this
 simpa using h
def lineOut (out : List Tok) : Except Int (List Tok) → List Tok × Int × Unit
 | .ok l => (out ++ l, 0, ())
 | .error e => ([], e, ())
theorem lineOut_snoc (out : List Tok) (t : Tok) (x : Except Int (List Tok)) : lineOut (out ++ [t]) x = lineOut out (match x with | .error e => .error e | .ok l => .ok (t :: l)) := by
 cases x <;> simp [lineOut]
theorem wordOf_le (s : Str) : (wordOf s).length ≤ s.length := (List.takeWhile_prefix isW).length_le
theorem wordOf_pos {c : UInt8} {r : Str} (h : isW c = true) : 1 ≤ (wordOf (c :: r)).length := by
 simp [wordOf, List.takeWhile_cons, h]
theorem line_loop (s : Str) (hs : s.length ≤ 1000000) (n : Nat) : ∀ (m k : Nat) (out : List Tok), k ≤ s.length → s.length - k < m → out.length ≤ k → scan_Line.g0 n m s out (k : Int) = some (lineOut out (lineR k (s.drop k))) := by
 intro m
 induction m with
 | zero => intro k out _ h; omega
 | succ m ih =>
  intro k out hk hm hout
  have e1 : IntKind.i64.wrap ((k : Int) + 1) = ((k + 1 : Nat) : Int) := by rw [w64 (by omega)]; omega
  by_cases hlt : k < s.length
  ·have tok : ∀ (d : Nat) (q : Int) (t : Str) (v : Int), 1 ≤ d + t.length → k + d + t.length ≤ s.length → scan_Line.j23 n (scan_Line.g0 n m) s out ((k + d : Nat) : Int) q (k : Int) t v = some (lineOut out (match lineR ((k : Int) + d + t.length) ((s.drop (k + 1)).drop (d + t.length - 1)) with
     | .error e => .error e
     | .ok l => .ok ((q, k, t, v, ()) :: l))) := by
    intro d q t v h1 h2
    unfold scan_Line.j23
    rw [if_pos (by simp; omega), w64 (by omega)]
    have := ih (k + d + t.length) (out ++ [(q, (k : Int), t, v, ())]) h2 (by omega) (by simp; omega)
    rw [lineOut_snoc] at this
    rw [show ((k + d : Nat) : Int) + (t.length : Int) = ((k + d + t.length : Nat) : Int) by omega, List.drop_drop, show k + 1 + (d + t.length - 1) = k + d + t.length by omega, show (k : Int) + (d : Int) + (t.length : Int) = ((k + d + t.length : Nat) : Int) by omega]
    exact this
   have tok0 := fun q t v h1 h2 => tok 0 q t v h1 h2
   simp only [Nat.add_zero, Nat.zero_add] at tok0
   have tok1 := fun q t v h1 h2 => tok 1 q t v h1 h2
   have skip : scan_Line.g0 n m s out ((k + 1 : Nat) : Int) = some (lineOut out (lineR ((k : Int) + 1) (s.drop (k + 1)))) := by
    rw [show (k : Int) + 1 = ((k + 1 : Nat) : Int) by omega]
    exact ih (k + 1) out (by omega) (by omega) (by omega)
   rw [drop_cons hlt, lineR_cons]
   simp only [scan_Line.g0, dt, df]
   simp only [e1, bt_nat, letter_eq, digit_eq, Option.bind_some, Int.toNat_natCast, List.take_length, sign_eq]
   rw [if_pos (by omega), if_pos (by omega)]
   have hw0 := word_eq (s.drop k) (by simp; omega)
   have hw1 := word_eq (s.drop (k + 1)) (by simp; omega)
   rw [hw0, hw1, drop_cons hlt]
   have hl0 := wordOf_le (s.drop k)
   have hl1 := wordOf_le (s.drop (k + 1))
   rw [drop_cons hlt] at hl0
   have hd0 : (s.drop (k + 1)).length = s.length - (k + 1) := by simp
   have hd1 : (s.getD k 0 :: s.drop (k + 1)).length = s.length - k := by simp; omega
   have hsign : (s.take (k + 1)).drop k = [s.getD k 0] := by
    rw [List.drop_take, drop_cons hlt]
    simp [show k + 1 - k = 1 by omega]
   have hhead : (∃ d ∈ (s.drop (k + 1)).head?, isL d = true) ↔ k + 1 < s.length ∧ isL (s.getD (k + 1) 0) = true := by
    by_cases h : k + 1 < s.length
    ·rw [drop_cons h]; simp [h]
    ·rw [List.drop_eq_nil_of_le (by omega)]; simp [h]
   have hwp := @wordOf_pos (s.getD k 0) (s.drop (k + 1))
   have hwq : k + 1 < s.length → isL (s.getD (k + 1) 0) = true → 1 ≤ (wordOf (s.drop (k + 1))).length := fun h h' => by
    rw [drop_cons h]; exact wordOf_pos (by unfold isW; rw [h']; rfl)
   rw [hsign]
   have b59 : (((s.getD k 0).toNat : Int) = 59) = (s.getD k 0 = 59) := byte_is _ 59 (by decide)
   have b32 : (((s.getD k 0).toNat : Int) = 32) = (s.getD k 0 = 32) := byte_is _ 32 (by decide)
   have b9 : (((s.getD k 0).toNat : Int) = 9) = (s.getD k 0 = 9) := byte_is _ 9 (by decide)
   have b46 : (((s.getD k 0).toNat : Int) = 46) = (s.getD k 0 = 46) := byte_is _ 46 (by decide)
   generalize s.getD k 0 = b at *
   by_cases h59 : b = 59
   ·rw [if_pos (by rw [h59]; rfl), if_pos h59]
    simp [lineOut]
   ·rw [if_neg (fun h => h59 (b59.mp h)), if_neg h59, if_pos (by omega)]
    by_cases h32 : b = 32
    ·rw [if_neg (fun h => h (b32.mpr h32)), if_pos (.inl h32)]
     exact skip
    ·rw [if_pos (fun h => h32 (b32.mp h))]
     by_cases h9 : b = 9
     ·rw [if_pos (b9.mpr h9), if_pos (.inr h9)]
      exact skip
     ·rw [if_neg (fun h => h9 (b9.mp h)), if_neg (show ¬ (b = 32 ∨ b = 9) from fun h => h.elim h32 h9)]
      unfold tokAt
      by_cases hL : isL b = true
      ·rw [if_pos hL, if_pos hL, if_pos (by omega)]
       simp only [Option.bind_some]
       rw [tok0 _ _ _ (hwp (by simp [isW, hL])) (by omega)]
       simp
      ·rw [if_neg hL, if_neg hL]
       by_cases hD : isD b = true
       ·rw [if_pos hD, if_pos hD, if_pos (by omega)]
        simp only [Option.bind_some]
        obtain ⟨h1, h2⟩ := number_eq (wordOf (b :: s.drop (k + 1))) (by omega)
        cases hn : num (wordOf (b :: s.drop (k + 1))) with
        | none =>
         obtain ⟨x, hx⟩ := h2 hn
         rw [hx]
         simp [lineOut]
        | some v =>
         rw [h1 v hn]
         simp only [Option.bind_some, Bool.not_true, Bool.false_eq_true, if_false]
         rw [tok0 _ _ _ (hwp (by simp [isW, hD])) (by omega)]
         simp
       ·rw [if_neg hD, if_neg hD]
        have sgn : (if isS b = true then (if 0 ≤ ((k + 1 : Nat) : Int) ∧ ((k + 1 : Nat) : Int) ≤ (s.length : Int) then (if 0 ≤ (k : Int) ∧ (k : Int) ≤ ((k + 1 : Nat) : Int) then scan_Line.j23 n (scan_Line.g0 n m) s out k 3 k [b] 0 else none) else none) else some ([], 20, ())) =
          some (lineOut out (match (if isS b = true then Except.ok (0, 3, [b], 0) else Except.error 20 : Except Int (Nat × Int × Str × Int)) with
           | .error e => .error e
           | .ok (d, q, t, v) => match lineR (k + d + t.length) ((s.drop (k + 1)).drop (d + t.length - 1)) with
            | .error e => .error e
            | .ok l => .ok ((q, k, t, v, ()) :: l))) := by
         by_cases hS : isS b = true
         ·rw [if_pos hS, if_pos hS, if_pos (by omega), if_pos (by omega), tok0 _ _ _ (by simp) (by simp; omega)]
          simp
         ·rw [if_neg hS, if_neg hS]
          simp [lineOut]
        by_cases h46 : b = 46
        ·rw [if_pos (b46.mpr h46)]
         by_cases hk1 : k + 1 < s.length
         ·rw [if_pos (by omega), if_pos (by omega)]
          by_cases hL1 : isL (s.getD (k + 1) 0) = true
          ·rw [if_pos hL1, if_pos (by omega), if_pos ⟨h46, hhead.mpr ⟨hk1, hL1⟩⟩]
           simp only [Option.bind_some]
           have := hwq hk1 hL1
           rw [tok1 _ _ _ (by omega) (by omega)]
          ·rw [if_neg hL1, if_neg (show ¬ (b = 46 ∧ ∃ d ∈ (s.drop (k + 1)).head?, isL d = true) from fun h => hL1 (hhead.mp h.2).2)]
           exact sgn
         ·rw [if_neg (by omega), if_neg (show ¬ (b = 46 ∧ ∃ d ∈ (s.drop (k + 1)).head?, isL d = true) from fun h => hk1 (hhead.mp h.2).1)]
          exact sgn
        ·rw [if_neg (fun h => h46 (b46.mp h)), if_neg (show ¬ (b = 46 ∧ ∃ d ∈ (s.drop (k + 1)).head?, isL d = true) from fun h => h46 h.1)]
         exact sgn
  ·have : k = s.length := by omega
   subst this
   simp only [scan_Line.g0, dt, df]
   rw [if_neg (by omega), List.drop_length, lineR_nil]
   simp [lineOut]
theorem line_eq (s : Str) (hs : s.length ≤ 1000000) : scan_Line.g s = some (lineOut [] (lineR 0 s)) := by
 unfold scan_Line.g scan_Line.f
 have := line_loop s hs (1000 + s.length) (1000 + s.length) 0 [] (by omega) (by omega) (by simp)
 simpa using this
end Rv
namespace Rv
open Go
def shift (j : Int) (t : Tok) : Tok := (t.1, t.2.1 + j, t.2.2)
theorem word_no59 {s : Str} : (59 : UInt8) ∉ s.takeWhile isW := by
 intro h
 have h1 : (s.takeWhile isW).all isW = true := List.all_takeWhile
 have := List.all_eq_true.1 h1 59 h
 exact absurd this (by decide)
theorem takeW (s : Str) : s.take (s.takeWhile isW).length = s.takeWhile isW := (List.prefix_iff_eq_take.1 (List.takeWhile_prefix isW)).symm
theorem tokAt_ok {c : UInt8} {r : Str} {d : Nat} {q : Int} {t : Str} {v : Int} (h : tokAt c r = .ok (d, q, t, v)) : 1 ≤ d + t.length ∧ d + t.length - 1 ≤ r.length ∧ (59 : UInt8) ∉ r.take (d + t.length - 1) := by
 have wc : isW c = true → 1 ≤ 0 + (wordOf (c :: r)).length ∧ 0 + (wordOf (c :: r)).length - 1 ≤ r.length ∧ (59 : UInt8) ∉ r.take (0 + (wordOf (c :: r)).length - 1) := by
  intro hc
  have : wordOf (c :: r) = c :: r.takeWhile isW := by simp [wordOf, List.takeWhile_cons, hc]
  rw [this]
  have hl := (List.takeWhile_prefix isW (l := r)).length_le
  simp only [List.length_cons]
  refine ⟨by omega, by omega, ?_⟩
  rw [show 0 + ((r.takeWhile isW).length + 1) - 1 = (r.takeWhile isW).length by omega, takeW]
  exact word_no59
 unfold tokAt at h
 split at h
 ·rename_i hL
  simp only [Except.ok.injEq, Prod.mk.injEq] at h
  obtain ⟨rfl, rfl, rfl, rfl⟩ := h
  exact wc (by simp [isW, hL])
 ·split at h
  ·rename_i hD
   split at h
   ·simp only [Except.ok.injEq, Prod.mk.injEq] at h
    obtain ⟨rfl, rfl, rfl, rfl⟩ := h
    exact wc (by simp [isW, hD])
   ·cases h
  ·split at h
   ·simp only [Except.ok.injEq, Prod.mk.injEq] at h
    obtain ⟨rfl, rfl, rfl, rfl⟩ := h
    have hl := wordOf_le r
    refine ⟨by omega, by omega, ?_⟩
    rw [show 1 + (wordOf r).length - 1 = (r.takeWhile isW).length by unfold wordOf; omega, takeW]
    exact word_no59
   ·split at h
    ·simp only [Except.ok.injEq, Prod.mk.injEq] at h
     obtain ⟨rfl, rfl, rfl, rfl⟩ := h
     simp
    ·cases h
theorem takeW_app {s : Str} {b : UInt8} {y : Str} (hb : isW b = false) : (s ++ b :: y).takeWhile isW = s.takeWhile isW := by
 induction s with
 | nil => simp [List.takeWhile_cons, hb]
 | cons c s ih =>
  simp only [List.cons_append, List.takeWhile_cons]
  rw [ih]
theorem lineR_len : ∀ (n : Nat) (k : Int) (s : Str) (l : List Tok), s.length ≤ n → lineR k s = .ok l → l.length ≤ s.length
 | _, k, [], l, _, h => by rw [lineR_nil] at h; cases h; simp
 | 0, k, c :: r, l, hn, _ => by simp at hn
 | n + 1, k, c :: r, l, hn, h => by
  simp only [List.length_cons] at hn ⊢
  rw [lineR_cons] at h
  split at h
  ·cases h; simp
  ·split at h
   ·have := lineR_len n (k + 1) r l (by omega) h; omega
   ·split at h
    ·cases h
    ·split at h
     ·cases h
     ·rename_i l' hl
      cases h
      have := lineR_len n _ _ l' (by simp; omega) hl
      simp at this ⊢; omega
theorem lineOut_len {k : Int} {s : Str} : (lineOut [] (lineR k s)).1.length ≤ s.length := by
 cases h : lineR k s with
 | error e => simp [lineOut]
 | ok l => simpa [lineOut] using lineR_len s.length k s l (Nat.le_refl _) h
end Rv
namespace Rv
open Go
theorem wordOf_all {s : Str} (h : s.all isW = true) : wordOf s = s := by
 unfold wordOf
 induction s with
 | nil => rfl
 | cons c r ih =>
  rw [List.all_cons, Bool.and_eq_true] at h
  rw [List.takeWhile_cons, if_pos h.1, ih h.2]
theorem blank_facts {c : UInt8} (h : isW c = true) : c ≠ 59 ∧ ¬ (c = 32 ∨ c = 9) := by
 refine ⟨fun e => ?_, fun e => ?_⟩
 ·subst e; exact absurd h (by decide)
 ·rcases e with rfl | rfl <;> exact absurd h (by decide)
end Rv
namespace Rv
open Go
theorem fit_byte : ((List.range 12).all fun k => isW ((([97, 98, 99, 88, 89, 90, 95, 48, 49, 57, 82, 109] : Str).take (k + 1)).drop k).head! && decide (((([97, 98, 99, 88, 89, 90, 95, 48, 49, 57, 82, 109] : Str).take (k + 1)).drop k).length = 1)) = true := by decide +kernel
theorem fit07_loop2 {Q : UInt8 → Prop} (s : Str) (hs : s.length ≤ 9223372036854775807) (n : Nat) : ∀ (m i : Nat) (out : Str), i ≤ s.length → 6 - i < m → i ≤ 6 → out.length = i + 1 → (∃ c r, out = c :: r ∧ Q c) → out.all isW = true →
  ∃ r, rivetref07_Fit.l4 n m s ([97, 98, 99, 88, 89, 90, 95, 48, 49, 57, 82, 109] : Str) out (i : Int) = some (r, ()) ∧ (∃ c t, r = c :: t ∧ Q c) ∧ r.all isW = true ∧ r.length ≤ 7 ∧ r.length ≤ s.length + 1 := by
 intro m
 induction m with
 | zero => intro i out _ h; omega
 | succ m ih =>
  intro i out hi hm h6 hl hh ha
  simp only [rivetref07_Fit.l4, dt]
  by_cases h1 : i < s.length
  ·rw [if_pos (by omega)]
   by_cases h2 : i < 6
   ·rw [if_pos (by omega), if_pos (by omega), if_pos (by omega), bt_nat]
    have hb := byte_lt (s.getD i 0)
    generalize s.getD i 0 = b at *
    have e0 : Int.tmod (IntKind.i64.wrap (b.toNat : Int)) 12 = ((b.toNat % 12 : Nat) : Int) := by
     rw [w64 (by omega)]
     have : Int.tmod (b.toNat : Int) 12 = (b.toNat : Int) % 12 := Int.tmod_eq_emod_of_nonneg (by omega)
     rw [this]; omega
    rw [e0]
    have hk : b.toNat % 12 < 12 := Nat.mod_lt _ (by omega)
    generalize b.toNat % 12 = k at *
    rw [w64 (x := (k : Int) + 1) (by omega), w64 (x := (i : Int) + 1) (by omega), show (k : Int) + 1 = ((k + 1 : Nat) : Int) by omega, show (i : Int) + 1 = ((i + 1 : Nat) : Int) by omega, Int.toNat_natCast, Int.toNat_natCast]
    have hf := List.all_eq_true.1 fit_byte k (by simpa using hk)
    simp only [Bool.and_eq_true, decide_eq_true_eq] at hf
    obtain ⟨f1, f2⟩ := hf
    generalize ((([97, 98, 99, 88, 89, 90, 95, 48, 49, 57, 82, 109] : Str).take (k + 1)).drop k) = w at *
    obtain ⟨c, rfl⟩ : ∃ c, w = [c] := by
     match w, f2 with
     | [c], _ => exact ⟨c, rfl⟩
    rw [if_pos ⟨by omega, by simp only [List.length_cons, List.length_nil]; omega⟩, if_pos ⟨by omega, by omega⟩, if_pos (by simp; omega)]
    refine ih (i + 1) (out ++ [c]) (by omega) (by omega) (by omega) (by simp; omega) ?_ ?_
    ·obtain ⟨a, r, rfl, h⟩ := hh
     exact ⟨a, r ++ [c], rfl, h⟩
    ·have f1 : isW c = true := f1
     rw [List.all_append, ha, List.all_cons, f1]; rfl
   ·rw [if_neg (by omega)]
    exact ⟨out, rfl, hh, ha, by omega, by omega⟩
  ·rw [if_neg (by omega)]
   exact ⟨out, rfl, hh, ha, by omega, by omega⟩
theorem fit07_loop {Q : UInt8 → Prop} (s : Str) (hs : s.length ≤ 9223372036854775807) (n m i : Nat) (out : Str) (h1 : i ≤ s.length) (h2 : 6 - i < m) (h3 : i ≤ 6) (h4 : out.length = i + 1) (h5 : ∃ c r, out = c :: r ∧ Q c) (h6 : out.all isW = true) :
  ∃ r, rivetref07_Fit.l4 n m s ([97, 98, 99, 88, 89, 90, 95, 48, 49, 57, 82, 109] : Str) out (i : Int) = some (r, ()) ∧ (∃ c t, r = c :: t ∧ Q c) ∧ r.all isW = true ∧ r.length ≤ 7 := by
 obtain ⟨r, g1, g2, g3, g4, _⟩ := fit07_loop2 s hs n m i out h1 h2 h3 h4 h5 h6
 exact ⟨r, g1, g2, g3, g4⟩
def isH (c : UInt8) : Prop := isL c = true ∧ c ≠ 82 ∧ isD c = false
theorem fit07_eq' (s : Str) (hs : s.length ≤ 9223372036854775807) : ∃ r, rivetref07_Fit.g s = some (r, ()) ∧ (∃ c t, r = c :: t ∧ isH c ∧ (s.length ≤ 6 → c ≠ 122)) ∧ r.all isW = true ∧ r.length ≤ 7 := by
 unfold rivetref07_Fit.g rivetref07_Fit.f
 have e1 : Int.tmod (s.length : Int) 26 = ((s.length % 26 : Nat) : Int) := by
  have : Int.tmod (s.length : Int) 26 = (s.length : Int) % 26 := Int.tmod_eq_emod_of_nonneg (by omega)
  rw [this]; omega
 have hk : s.length % 26 < 26 := Nat.mod_lt _ (by omega)
 rw [e1]
 have e2 : IntKind.u8.wrap (97 + IntKind.u8.wrap ((s.length % 26 : Nat) : Int)) = ((97 + s.length % 26 : Nat) : Int) := by
  rw [w8u (x := ((s.length % 26 : Nat) : Int)) (by omega), w8u (by omega)]; omega
 rw [e2]
 have hb : bytesOf [((97 + s.length % 26 : Nat) : Int)] = [UInt8.ofNat (97 + s.length % 26)] := rfl
 rw [hb]
 have hn : (UInt8.ofNat (97 + s.length % 26)).toNat = 97 + s.length % 26 := by rw [UInt8.toNat_ofNat', Nat.mod_eq_of_lt (by omega)]
 have hL : isL (UInt8.ofNat (97 + s.length % 26)) = true := by unfold isL; rw [hn]; simp; omega
 have hne : UInt8.ofNat (97 + s.length % 26) ≠ 82 := fun e => by have := congrArg UInt8.toNat e; rw [hn] at this; simp at this; omega
 have hD : isD (UInt8.ofNat (97 + s.length % 26)) = false := by unfold isD; rw [hn, decide_eq_false_iff_not]; omega
 have hz : s.length ≤ 6 → UInt8.ofNat (97 + s.length % 26) ≠ 122 := fun h6 e => by have := congrArg UInt8.toNat e; rw [hn] at this; simp at this; omega
 exact fit07_loop (Q := fun c => isH c ∧ (s.length ≤ 6 → c ≠ 122)) s hs (1000 + s.length) (1000 + s.length) 0 _ (by omega) (by omega) (by omega) rfl ⟨_, _, rfl, ⟨hL, hne, hD⟩, hz⟩ (by rw [List.all_cons, isW, hL]; rfl)
end Rv
namespace Rv
open Go
def regLike (s : Str) : Bool := decide (s.getD 0 0 = 82) && (decide (s.length = 2) || decide (s.length = 3)) && (s.drop 1).all isD
def labelOk (s : Str) : Bool := decide (s ≠ []) && decide (s.length ≤ 12) && !isD (s.getD 0 0) && s.all isW && !regLike s
def labT (b : Int) : Bool :=
 if bitsI .or .u8 b 32 < 97 ∨ 122 < bitsI .or .u8 b 32 ∨ b < 65 then decide (b = 95) || (!decide (b < 48) && !decide (57 < b)) else true
theorem labT_all : ((List.range 256).all fun k => labT k == isW (UInt8.ofNat k)) = true := by decide +kernel
theorem labT_eq (b : UInt8) : labT b.toNat = isW b := by
 have h := List.all_eq_true.1 labT_all b.toNat (by simp; exact b.toNat_lt)
 simpa using h
theorem propTF (p : Prop) : p = True ∨ p = False := (Classical.em p).imp eq_true eq_false
theorem label_step (s : Str) (n m : Nat) (i : Nat) (h1 : i < s.length) (X : Option (Bool × Unit)) (hX : name_Label.j9 n (name_Label.l4 n m) s (s.length : Int) (i : Int) = X) :
  name_Label.l4 n (m + 1) s (s.length : Int) (i : Int) = if labT (bt s i) = true then X else some (false, ()) := by
 have hc : (0 : Int) ≤ i ∧ (i : Int) < s.length := by omega
 have hc2 : (i : Int) < s.length := hc.2
 simp only [name_Label.l4, dt, df, hX, labT]
 by_cases a1 : bitsI .or .u8 (bt s i) 32 < 97 <;> by_cases a2 : 122 < bitsI .or .u8 (bt s i) 32 <;> by_cases a3 : bt s i < 65 <;> rcases propTF (bt s i = 95) with a4 | a4 <;> by_cases a5 : bt s i < 48 <;> by_cases a6 : 57 < bt s i <;>
  simp only [hc, hc2, a1, a2, a3, a4, a5, a6, if_true, if_false, not_true_eq_false, not_false_eq_true, ne_eq, true_or, or_true, or_false, false_or, or_self, and_self, true_and, decide_true, decide_false, Bool.true_or, Bool.false_or, Bool.not_true, Bool.not_false, Bool.and_true, Bool.and_false, Bool.false_and, Bool.true_and, Bool.or_self, Bool.or_false, Bool.or_true, Bool.false_eq_true]
theorem label_loop (s : Str) (hs : s.length ≤ 12) (n : Nat) : ∀ (m i : Nat), i ≤ s.length → s.length - i < m →
  name_Label.l4 n m s (s.length : Int) (i : Int) = if (s.drop i).all isW = true then name_Label.l4 n 1 s (s.length : Int) (s.length : Int) else some (false, ()) := by
 intro m
 induction m with
 | zero => intro i _ h; omega
 | succ m ih =>
  intro i hi hm
  by_cases h1 : i < s.length
  ·have hnext : name_Label.j9 n (name_Label.l4 n m) s (s.length : Int) (i : Int) = if (s.drop (i + 1)).all isW = true then name_Label.l4 n 1 s (s.length : Int) (s.length : Int) else some (false, ()) := by
    unfold name_Label.j9
    rw [w64 (by omega), show (i : Int) + 1 = ((i + 1 : Nat) : Int) by omega]
    exact ih (i + 1) (by omega) (by omega)
   rw [label_step s n m i h1 _ hnext, bt_nat, labT_eq, drop_cons h1, List.all_cons]
   cases hw : isW (s.getD i 0)
   ·rfl
   ·rw [if_pos rfl, Bool.true_and]
  ·have hi' : i = s.length := by omega
   subst hi'
   rw [List.drop_length, List.all_nil, if_pos rfl]
   have hlt : ¬ ((s.length : Int) < s.length) := by omega
   simp only [name_Label.l4, dt, hlt, if_false]
theorem dig_eq (b : UInt8) : L.isDig b = isD b := by simp [L.isDig, isD]
theorem dropWhile_head {p : UInt8 → Bool} : ∀ {l : Str} {a : UInt8} {r : Str}, l.dropWhile p = a :: r → p a = false
 | [], _, _, h => by simp at h
 | b :: l, a, r, h => by
  rw [List.dropWhile_cons] at h
  cases hb : p b
  ·rw [hb] at h
   simp only [Bool.false_eq_true, if_false, List.cons.injEq] at h
   rw [← h.1]; exact hb
  ·rw [hb] at h
   exact dropWhile_head (l := l) (by simpa using h)
theorem trim_nil (s : Str) : (L.trimDig s = []) = (s.all isD = true) := by
 have gen : ∀ l : Str, (l.dropWhile L.isDig = []) ↔ l.all isD = true := fun l => by
  induction l with
  | nil => simp
  | cons a l ih =>
   simp only [List.dropWhile_cons, List.all_cons, dig_eq]
   cases h : isD a
   ·simp
   ·simp [ih]
 unfold L.trimDig
 apply propext
 rw [gen]
 constructor
 ·intro h
  have h0 : (s.reverse.dropWhile L.isDig) = [] := by
   cases hr : s.reverse.dropWhile L.isDig with
   | nil => rfl
   | cons a r =>
    exfalso
    rw [hr] at h
    have ha : isD a = true := List.all_eq_true.1 h a (by simp)
    rw [← dig_eq, dropWhile_head hr] at ha
    cases ha
  rw [gen] at h0
  simpa using h0
 ·intro h
  have h0 : s.reverse.dropWhile L.isDig = [] := (gen _).2 (by simpa using h)
  rw [h0]; rfl
theorem label_eq (s : Str) : name_Label.g s = some (labelOk s, ()) := by
 unfold name_Label.g name_Label.f
 simp only [dt, df]
 by_cases h0 : s = []
 ·subst h0; rw [if_neg (by simp)]; rfl
 ·rw [if_pos h0]
  have hl0 : 0 < s.length := List.length_pos_iff.2 h0
  by_cases h12 : s.length ≤ 12
  ·rw [if_pos (by omega), if_pos (by omega)]
   have hj : ¬ isD (s.getD 0 0) = true → name_Label.j3 (1000 + s.length) s = some (labelOk s, ()) := fun hd => by
    unfold name_Label.j3
    have := label_loop s h12 (1000 + s.length) (1000 + s.length) 0 (by omega) (by omega)
    rw [List.drop_zero] at this
    rw [show ((0 : Nat) : Int) = 0 from rfl] at this
    rw [this]
    by_cases hw : s.all isW = true
    ·rw [if_pos hw]
     simp only [name_Label.l4, dt, df, bt_nat]
     rw [if_neg (by omega), if_pos (by omega)]
     have hbt : bt s 0 = ((s.getD 0 0).toNat : Int) := rfl
     simp only [hbt]
     have h82 : (((s.getD 0 0).toNat : Int) = 82) = (s.getD 0 0 = 82) := byte_is _ 82 (by omega)
     simp only [h82]
     have htake : (s.take (s.length : Int).toNat).drop (1 : Int).toNat = s.drop 1 := by
      rw [show (s.length : Int).toNat = s.length by omega, List.take_length]; rfl
     have htrim : s.length ≤ 3 → L.trimO ((s.take (s.length : Int).toNat).drop (1 : Int).toNat) [48, 49, 50, 51, 52, 53, 54, 55, 56, 57] = some (L.trimDig (s.drop 1), ()) := fun h => by
      rw [htake]
      unfold L.trimO
      rw [if_pos ⟨rfl, by simp; omega⟩]
     have hL : labelOk s = !regLike s := by
      unfold labelOk
      rw [decide_eq_true (show s ≠ [] from h0), decide_eq_true h12, show isD (s.getD 0 0) = false by simpa using hd, hw]
      rfl
     have hT : decide (L.trimDig (s.drop 1) = []) = (s.drop 1).all isD := by
      rw [Bool.eq_iff_iff, decide_eq_true_eq, trim_nil]
     rw [hL]
     unfold regLike
     by_cases hR : s.getD 0 0 = 82
     ·rw [if_pos hR, decide_eq_true hR]
      by_cases h2 : s.length = 2
      ·rw [if_neg (by omega), if_pos (by omega), htrim (by omega), Option.bind_some, decide_eq_true h2]
       dsimp only
       rw [hT]; rfl
      ·rw [if_pos (by omega), decide_eq_false h2]
       by_cases h3 : s.length = 3
       ·rw [if_pos (by omega), if_pos (by omega), htrim (by omega), Option.bind_some, decide_eq_true h3]
        dsimp only
        rw [hT]; rfl
       ·rw [if_neg (by omega), decide_eq_false h3]; rfl
     ·rw [if_neg hR, decide_eq_false hR]; rfl
    ·rw [if_neg hw]
     simp [labelOk, hw]
   have hbt : bt s 0 = ((s.getD 0 0).toNat : Int) := rfl
   simp only [hbt]
   by_cases h48 : (48 : Int) ≤ (s.getD 0 0).toNat
   ·rw [if_pos h48, if_pos (by omega)]
    by_cases h57 : ((s.getD 0 0).toNat : Int) ≤ 57
    ·rw [if_pos h57]
     have hd : isD (s.getD 0 0) = true := by unfold isD; rw [decide_eq_true_eq]; omega
     unfold labelOk
     rw [hd, decide_eq_true (show s ≠ [] from h0), decide_eq_true h12]; rfl
    ·rw [if_neg h57]
     exact hj (by unfold isD; rw [decide_eq_true_eq]; omega)
   ·rw [if_neg h48]
    exact hj (by unfold isD; rw [decide_eq_true_eq]; omega)
  ·rw [if_neg (by omega)]
   simp [labelOk, h12]
end Rv
namespace Rv
open Go
def isA (b : UInt8) : Bool := decide (65 ≤ b.toNat ∧ b.toNat ≤ 90 ∨ 97 ≤ b.toNat ∧ b.toNat ≤ 122)
theorem isA_L (b : UInt8) : isL b = (isA b || decide (b.toNat = 95)) := by
 unfold isL isA
 rw [Bool.eq_iff_iff]
 simp only [decide_eq_true_eq, Bool.or_eq_true]
 omega
def nameOk (s : Str) : Bool := decide (s ≠ []) && decide (s.length ≤ 12) && isA (s.getD 0 0) && !regLike s && s.all isW
end Rv
namespace Rv
open Go
theorem leis_tab : ((List.range 256).all fun k => decide (le_is.g (k : Int) true = some (isA (UInt8.ofNat k), ())) && decide (le_is.g (k : Int) false = some (isW (UInt8.ofNat k), ()))) = true := by decide +kernel
theorem leis_eq (b : UInt8) (f : Bool) : le_is.g (b.toNat : Int) f = some (if f then isA b else isW b, ()) := by
 have h := List.all_eq_true.1 leis_tab b.toNat (by simp; exact b.toNat_lt)
 simp at h
 cases f
 ·exact h.2
 ·exact h.1
theorem lename_loop (s : Str) (hs : s.length ≤ 12) (n : Nat) : ∀ (m i : Nat), 1 ≤ i → i ≤ s.length → s.length - i < m →
  le_Name.l4 n m s (s.length : Int) (i : Int) = if (s.drop i).all isW = true then le_Name.l4 n 1 s (s.length : Int) (s.length : Int) else some (false, ()) := by
 intro m
 induction m with
 | zero => intro i _ _ h; omega
 | succ m ih =>
  intro i h0 hi hm
  by_cases h1 : i < s.length
  ·rw [le_Name.l4, if_pos (by simp; omega), if_pos (by omega), bt_nat, leis_eq, Option.bind_some, drop_cons h1, List.all_cons]
   dsimp only
   rw [if_neg (show ¬ decide ((i : Int) = 0) = true by simp; omega), w64 (by omega), show (i : Int) + 1 = ((i + 1 : Nat) : Int) by omega, ih (i + 1) (by omega) (by omega) (by omega)]
   cases isW (s.getD i 0) <;> simp
  ·have hi' : i = s.length := by omega
   subst hi'
   rw [List.drop_length, List.all_nil, if_pos rfl]
   have hlt : ¬ ((s.length : Int) < s.length) := by omega
   simp only [le_Name.l4, dt, hlt, if_false]
theorem lename_eq (s : Str) : le_Name.g s = some (nameOk s, ()) := by
 unfold le_Name.g le_Name.f
 simp only [dt, df]
 by_cases h0 : s = []
 ·subst h0; rw [if_neg (by simp)]; rfl
 ·have hl0 : 0 < s.length := List.length_pos_iff.2 h0
  rw [if_pos (by omega)]
  by_cases h12 : s.length ≤ 12
  ·rw [if_neg (by omega)]
   obtain ⟨m, hm⟩ : ∃ m, 1000 + s.length = m + 1 := ⟨999 + s.length, by omega⟩
   rw [show le_Name.l4 (1000 + s.length) (1000 + s.length) s (s.length : Int) 0 = le_Name.l4 (1000 + s.length) (m + 1) s (s.length : Int) 0 by rw [hm], le_Name.l4, if_pos (by simp; omega), if_pos (by omega)]
   have hb0 : bt s 0 = ((s.getD 0 0).toNat : Int) := rfl
   rw [hb0, leis_eq, Option.bind_some]
   dsimp only
   have hdd : decide ((0 : Int) = 0) = true := rfl
   rw [hdd, if_pos (show true = true from rfl), show IntKind.i64.wrap ((0 : Int) + 1) = ((1 : Nat) : Int) from rfl, lename_loop s h12 (1000 + s.length) m 1 (by omega) (by omega) (by omega)]
   have hall : s.all isW = (isW (s.getD 0 0) && (s.drop 1).all isW) := by
    have := drop_cons (s := s) (k := 0) hl0
    rw [List.drop_zero] at this
    conv => lhs; rw [this]
    rw [List.all_cons]
   unfold nameOk
   rw [decide_eq_true h0, decide_eq_true h12, hall]
   have hAW : isA (s.getD 0 0) = true → isW (s.getD 0 0) = true := fun h => by unfold isW; rw [isA_L, h]; rfl
   cases hA : isA (s.getD 0 0) with
   | false => rw [if_pos (by simp)]; simp
   | true =>
    rw [if_neg (by simp), hAW hA]
    by_cases hw : (s.drop 1).all isW = true
    ·rw [if_pos hw, hw]
     simp only [le_Name.l4, dt, df]
     rw [if_neg (by omega), if_pos (by omega), hb0]
     have h82 : (((s.getD 0 0).toNat : Int) = 82) = (s.getD 0 0 = 82) := byte_is _ 82 (by omega)
     simp only [h82]
     have htake : (s.take (s.length : Int).toNat).drop (1 : Int).toNat = s.drop 1 := by
      rw [show (s.length : Int).toNat = s.length by omega, List.take_length]; rfl
     have htrim : s.length ≤ 3 → L.trimO ((s.take (s.length : Int).toNat).drop (1 : Int).toNat) [48, 49, 50, 51, 52, 53, 54, 55, 56, 57] = some (L.trimDig (s.drop 1), ()) := fun h => by
      rw [htake]
      unfold L.trimO
      rw [if_pos ⟨rfl, by simp; omega⟩]
     have hT : decide (L.trimDig (s.drop 1) = []) = (s.drop 1).all isD := by
      rw [Bool.eq_iff_iff, decide_eq_true_eq, trim_nil]
     unfold regLike
     by_cases hR : s.getD 0 0 = 82
     ·rw [if_pos hR, decide_eq_true hR]
      by_cases h2 : s.length = 2
      ·rw [if_neg (by omega), if_pos (by omega), htrim (by omega), Option.bind_some, decide_eq_true h2]
       dsimp only
       rw [hT]; simp
      ·rw [if_pos (by omega), decide_eq_false h2]
       by_cases h3 : s.length = 3
       ·rw [if_pos (by omega), if_pos (by omega), htrim (by omega), Option.bind_some, decide_eq_true h3]
        dsimp only
        rw [hT]; simp
       ·rw [if_neg (by omega), decide_eq_false h3]; simp
     ·rw [if_neg hR, decide_eq_false hR]; simp
    ·rw [if_neg hw, Bool.eq_false_iff.2 hw]; simp
  ·rw [if_pos (by omega)]
   unfold nameOk
   rw [decide_eq_false h12]; simp
end Rv
namespace Rv
open Go
theorem fit13_label (s : Str) (hs : s.length ≤ 9223372036854775807) : ∃ r, rivetref13_Fit.g s = some (r, ()) ∧ labelOk r = true ∧ r.length ≤ 8 ∧ (s.length ≤ 6 → r ≠ [122, 122, 95, 122, 122]) := by
 unfold rivetref13_Fit.g rivetref13_Fit.f
 obtain ⟨r, hr, ⟨c, t, rfl, ⟨hL, hne, hD⟩, hz⟩, ha, hl⟩ := fit07_eq' s hs
 rw [hr, Option.bind_some]
 simp only [dt]
 split
 ·have e1 : mn ((c :: t).length : Int) 11 = (c :: t).length := by unfold mn; rw [if_neg (by omega)]
  rw [e1, if_pos (by omega)]
  simp only [Int.toNat_natCast, List.take_length, List.drop_zero]
  rw [if_pos (by simp at hl ⊢; omega)]
  refine ⟨_, rfl, ?_, by simp at hl ⊢; omega, fun _ e => by simp at e⟩
  unfold labelOk
  rw [List.all_append, ha]
  have h1 : ([95] ++ c :: t : Str).getD 0 0 = 95 := rfl
  have h2 : decide (([95] ++ c :: t : Str).length ≤ 12) = true := by rw [decide_eq_true_eq]; simp at hl ⊢; omega
  rw [h2]
  unfold regLike
  rw [h1]
  rfl
 ·refine ⟨_, rfl, ?_, by omega, fun h6 e => hz h6 (by simp at e; exact e.1)⟩
  unfold labelOk
  have h1 : (c :: t : Str).getD 0 0 = c := rfl
  have h2 : decide ((c :: t : Str).length ≤ 12) = true := by rw [decide_eq_true_eq]; omega
  unfold regLike
  rw [h1, h2, hD, ha, decide_eq_false hne]
  rfl
end Rv
namespace Rv
open Go
end Rv
namespace Rv
open Go
theorem nt_rows : ∀ e ∈ L.nameTbl, L.mnemR e.2.1.1 e.2.1.2.1 e.2.1.2.2 = e.2.2 ∧ L.ofR e.2.2 = (e.2.1.1, e.2.1.2.1, e.2.1.2.2, true, ()) ∧ e.2.2 ≠ [] := by decide +kernel
theorem nt_range : ∀ e ∈ L.nameTbl, 1 ≤ e.2.1.1 ∧ e.2.1.1 ≤ 10 ∧ 0 ≤ e.2.1.2.1 ∧ e.2.1.2.1 ≤ 15 := by decide +kernel
theorem mnem_mem {k o : Int} {u : Bool} (h : L.mnemR k o u ≠ []) : ∃ e ∈ L.nameTbl, e.2.1 = (k, o, u) ∧ e.2.2 = L.mnemR k o u := by
 unfold L.mnemR at h ⊢
 cases hf : L.nameTbl.find? fun e => e.2.1 == (k, o, u) with
 | none => rw [hf] at h; exact absurd rfl h
 | some e =>
  have h1 := List.mem_of_find?_eq_some hf
  have h2 : e.2.1 = (k, o, u) := by simpa using List.find?_some hf
  exact ⟨e, h1, h2, rfl⟩
theorem mnem_of {k o : Int} {u : Bool} (h : L.mnemR k o u ≠ []) : L.ofR (L.mnemR k o u) = (k, o, u, true, ()) ∧ 1 ≤ k ∧ k ≤ 10 ∧ 0 ≤ o ∧ o ≤ 15 := by
 obtain ⟨e, he, hk, hs⟩ := mnem_mem h
 obtain ⟨h1, h2, h3⟩ := nt_rows e he
 have h4 := nt_range e he
 rw [hk] at h2 h4
 rw [← hs]
 exact ⟨h2, h4⟩
theorem mnemO_eq {k o : Int} (u : Bool) (hk : -9223372036854775808 ≤ k ∧ k ≤ 9223372036854775807) (ho : -9223372036854775808 ≤ o ∧ o ≤ 9223372036854775807) : L.mnemO k o u = some (L.mnemR k o u, ()) := by
 unfold L.mnemO
 rw [if_pos ⟨hk.1, hk.2, ho.1, ho.2⟩]
end Rv
namespace Rv
open Go
set_option maxRecDepth 100000
def okE (r : Option (Int × Option Int × Unit)) : Prop := ∃ v e, r = some (v, e, ()) ∧ (e = none ∨ e = some 1 ∨ e = some 2)
theorem okE_none {v : Int} : okE (some (v, none, ())) := ⟨_, _, rfl, .inl rfl⟩
theorem okE_one {v : Int} : okE (some (v, some 1, ())) := ⟨_, _, rfl, .inr (.inl rfl)⟩
theorem okE_two {v : Int} : okE (some (v, some 2, ())) := ⟨_, _, rfl, .inr (.inr rfl)⟩
theorem lower_some (c : Int) : internal_strconv_lower.g c = some (bitsI .or .u8 c 32, ()) := rfl
theorem pa_loop (s09 : Str) (c mv : Int) (l : List Int) (hl : l.length ≤ 1000000) (n : Nat) : ∀ (m i : Nat), i ≤ l.length → l.length - i < m → ∀ v, okE (internal_strconv_ParseUint.l36 n m 10 false s09 c mv false v l (l.length : Int) (i : Int)) := by
 intro m
 induction m with
 | zero => intro i _ h; omega
 | succ m ih =>
  intro i hi hm v
  unfold internal_strconv_ParseUint.l36
  by_cases hlt : i < l.length
  ·rw [if_pos (by simp; omega), if_pos (by omega)]
   have w1 : IntKind.i64.wrap ((i : Int) + 1) = ((i + 1 : Nat) : Int) := by rw [w64 (by omega)]; omega
   have h46 : ∀ d, okE (internal_strconv_ParseUint.j46 n (internal_strconv_ParseUint.l36 n m) 10 false s09 c mv false v d l (l.length : Int) (i : Int)) := by
    intro d
    unfold internal_strconv_ParseUint.j46
    split
    ·exact okE_two
    ·split
     ·exact okE_one
     ·split
      ·split
       ·exact okE_one
       ·unfold internal_strconv_ParseUint.j55
        rw [w1]
        exact ih (i + 1) (by omega) (by omega) _
      ·exact okE_one
   simp only [lower_some, Option.bind_some, Bool.false_eq_true, if_false]
   generalize hb : l.getD (i : Int).toNat 0 = b
   by_cases e1 : b = 95
   ·rw [if_pos (by simp [e1])]
    split
    ·split
     ·exact h46 _
     ·split
      ·split
       ·exact h46 _
       ·exact okE_two
      ·exact okE_two
    ·split
     ·split
      ·exact h46 _
      ·exact okE_two
     ·exact okE_two
   ·rw [if_neg (by simp [e1])]
    split
    ·split
     ·exact h46 _
     ·split
      ·split
       ·exact h46 _
       ·exact okE_two
      ·exact okE_two
    ·split
     ·split
      ·exact h46 _
      ·exact okE_two
     ·exact okE_two
  ·rw [if_neg (by simp; omega)]
   simp only [Bool.false_eq_true, if_false]
   exact okE_none
theorem pu_ok (s : Str) (hs : s.length ≤ 1000000) : okE (internal_strconv_ParseUint.g s 10 0) := by
 unfold internal_strconv_ParseUint.g internal_strconv_ParseUint.f
 by_cases h0 : s = []
 ·rw [if_pos (by simp [h0])]; exact okE_two
 ·rw [if_neg (by simp [h0]), if_pos (by decide), if_pos (by decide)]
  unfold internal_strconv_ParseUint.j21
  rw [if_pos (by decide)]
  unfold internal_strconv_ParseUint.j25
  rw [if_pos (by decide)]
  unfold internal_strconv_ParseUint.j32
  rw [if_neg (by decide)]
  have hd : decide ((10 : Int) = 0) = false := by decide
  rw [hd]
  have hz : (0 : Int) = ((0 : Nat) : Int) := rfl
  have := pa_loop s 1844674407370955162 (IntKind.u64.wrap ((IntKind.u64.wrap ((1 : Int) * 2 ^ (min (IntKind.u64.wrap 64).toNat IntKind.u64.bits))) - (1 : Int))) (s.map fun b => (b.toNat : Int)) (by simpa using hs) (1000 + s.length + (10 : Int).toNat + (0 : Int).toNat) (1000 + s.length + (10 : Int).toNat + (0 : Int).toNat) 0 (by simp) (by simp; omega) 0
  exact this
theorem pi21 (n : Nat) (g : Bool) (v : Int) : okE (internal_strconv_ParseInt.j21 n g v) := by
 unfold internal_strconv_ParseInt.j21
 split <;> exact okE_none
theorem pi19 (n : Nat) (g : Bool) (v c : Int) : okE (internal_strconv_ParseInt.j19 n g v c) := by
 unfold internal_strconv_ParseInt.j19
 split
 ·split
  ·exact okE_one
  ·exact pi21 _ _ _
 ·exact pi21 _ _ _
theorem pi16 (n : Nat) (g : Bool) (v : Int) : okE (internal_strconv_ParseInt.j16 n 64 g v) := by
 unfold internal_strconv_ParseInt.j16
 have h : ¬ IntKind.u64.wrap (IntKind.i64.wrap (64 - 1)) < 0 := by rw [w64 (by omega), w64u (by omega)]; omega
 rw [if_neg h]
 generalize IntKind.u64.wrap ((1 : Int) * 2 ^ (min (IntKind.u64.wrap (IntKind.i64.wrap (64 - 1))).toNat IntKind.u64.bits)) = c
 split
 ·split
  ·exact okE_one
  ·exact pi19 _ _ _ _
 ·exact pi19 _ _ _ _
theorem pi14 (n : Nat) (g : Bool) (v : Int) : okE (internal_strconv_ParseInt.j14 n 0 g v) := by
 unfold internal_strconv_ParseInt.j14
 rw [if_pos (by decide)]
 exact pi16 _ _ _
theorem pi_ok (s : Str) (hs : s.length ≤ 1000000) : okE (internal_strconv_ParseInt.g s 10 0) := by
 unfold internal_strconv_ParseInt.g internal_strconv_ParseInt.f
 generalize 1000 + s.length + (10 : Int).toNat + (0 : Int).toNat = n
 have h10 : ∀ (t : Str) g, t.length ≤ 1000000 → okE (internal_strconv_ParseInt.j10 n t 10 0 g) := fun t g ht => by
  unfold internal_strconv_ParseInt.j10
  obtain ⟨v, e, he, h⟩ := pu_ok t ht
  rw [he, Option.bind_some]
  dsimp only
  rcases h with rfl | rfl | rfl
  ·rw [if_neg (by decide)]; exact pi14 _ _ _
  ·rw [if_pos (by decide), if_neg (by simp)]; exact pi14 _ _ _
  ·rw [if_pos (by decide), if_pos (by simp)]; exact okE_two
 by_cases h0 : s = []
 ·rw [if_pos (by simp [h0])]; exact okE_two
 ·rw [if_neg (by simp [h0])]
  have hlen : 0 < s.length := List.length_pos_iff.2 h0
  have ht : ((s.take ((s.length : Int)).toNat).drop ((1 : Int)).toNat).length ≤ 1000000 := by simp; omega
  rw [if_pos (by omega)]
  split
  ·rw [if_pos (by omega)]; exact h10 _ _ ht
  ·split
   ·rw [if_pos (by omega)]; exact h10 _ _ ht
   ·exact h10 _ _ hs
theorem at_loop (s05 : Str) (h5 : s05 ≠ []) (l : List Int) (hl : l.length ≤ 1000000) (n : Nat) : ∀ (m i : Nat), i ≤ l.length → l.length - i < m → ∀ v, okE (internal_strconv_Atoi.l10 n m s05 v l (l.length : Int) (i : Int)) := by
 intro m
 induction m with
 | zero => intro i _ h; omega
 | succ m ih =>
  intro i hi hm v
  unfold internal_strconv_Atoi.l10
  by_cases hlt : i < l.length
  ·rw [if_pos (by simp; omega), if_pos (by omega)]
   have w1 : IntKind.i64.wrap ((i : Int) + 1) = ((i + 1 : Nat) : Int) := by rw [w64 (by omega)]; omega
   split
   ·exact okE_two
   ·rw [w1]
    exact ih (i + 1) (by omega) (by omega) _
  ·rw [if_neg (by simp; omega)]
   have hlen : 0 < s05.length := List.length_pos_iff.2 h5
   rw [if_pos (by omega)]
   split <;> exact okE_none
theorem ia_ok (s : Str) (hs : s.length ≤ 1000000) : okE (internal_strconv_Atoi.g s) := by
 unfold internal_strconv_Atoi.g internal_strconv_Atoi.f
 obtain ⟨n, hn⟩ : ∃ n, 1000 + s.length = n := ⟨_, rfl⟩
 rw [hn]
 have h8 : ∀ t : Str, t.length ≤ s.length → s ≠ [] → okE (internal_strconv_Atoi.j8 n t s) := fun t ht h0 => by
  unfold internal_strconv_Atoi.j8
  have := at_loop s h0 (t.map fun b => (b.toNat : Int)) (by simp; omega) n n 0 (by simp) (by simp; omega) 0
  exact this
 have h20 : okE (internal_strconv_Atoi.j20 n s) := by
  unfold internal_strconv_Atoi.j20
  obtain ⟨v, e, he, h⟩ := pi_ok s hs
  rw [he, Option.bind_some]
  exact ⟨v, e, rfl, h⟩
 by_cases h0 : s = []
 ·rw [if_neg (by simp [h0])]; exact h20
 ·have hlen : 0 < s.length := List.length_pos_iff.2 h0
  have ht : ((s.take ((s.length : Int)).toNat).drop ((1 : Int)).toNat).length ≤ s.length := by simp
  have h6 : okE (internal_strconv_Atoi.j6 n ((s.take ((s.length : Int)).toNat).drop ((1 : Int)).toNat) s) := by
   unfold internal_strconv_Atoi.j6
   split
   ·exact okE_two
   ·exact h8 _ ht h0
  rw [if_pos (by simp; omega)]
  split
  ·rw [if_pos (by omega)]
   split
   ·rw [if_pos (by omega)]
    split
    ·rw [if_pos (by omega)]; exact h6
    ·exact h8 _ (Nat.le_refl _) h0
   ·rw [if_pos (by omega)]; exact h6
  ·exact h20
theorem atoi_some (s : Str) (hs : s.length ≤ 1000000) : ∃ v b, strconv_Atoi.g s = some (v, b, ()) := by
 unfold strconv_Atoi.g strconv_Atoi.f
 obtain ⟨v, e, he, h⟩ := ia_ok s hs
 rw [he, Option.bind_some]
 dsimp only
 rcases h with rfl | rfl | rfl
 ·exact ⟨_, _, rfl⟩
 ·have : L.toErrorO ([65, 116, 111, 105] : Str) s 0 0 (some 1) = some (false, ()) := by unfold L.toErrorO; rw [if_pos ⟨by omega, Or.inl rfl⟩]
  rw [if_pos (by decide), this]
  exact ⟨_, _, rfl⟩
 ·have : L.toErrorO ([65, 116, 111, 105] : Str) s 0 0 (some 2) = some (false, ()) := by unfold L.toErrorO; rw [if_pos ⟨by omega, Or.inr rfl⟩]
  rw [if_pos (by decide), this]
  exact ⟨_, _, rfl⟩
end Rv
namespace Rv
open Go
def regN (k : Nat) : Str := if k < 10 then [82, UInt8.ofNat (48 + k)] else [82, 49, UInt8.ofNat (38 + k)]
def regOf (s : Str) : Int × Bool := match (List.range 16).find? (fun k => regN k == s) with | some k => ((k : Int), true) | none => (0, false)
theorem reg_facts : ((List.range 16).all fun k => decide (name_RegName.g (k : Int) = some (regN k, ())) && decide (name_Reg.g (regN k) = some ((k : Int), true, ()))) = true := by decide +kernel
theorem reg_fact (k : Nat) (hk : k < 16) : name_RegName.g (k : Int) = some (regN k, ()) ∧ name_Reg.g (regN k) = some ((k : Int), true, ()) := by
 have := List.all_eq_true.1 reg_facts k (List.mem_range.2 hk)
 simpa [and_assoc] using this
theorem regName_out {v : Int} (h : v < 0 ∨ 16 ≤ v) : name_RegName.g v = some ([], ()) := by
 unfold name_RegName.g name_RegName.f
 by_cases h0 : v < 0
 ·rw [if_neg (by simp; omega)]
 ·rw [if_pos (by simp; omega), if_pos (by simp; omega)]
theorem regName_cases (v : Int) : ∃ s, name_RegName.g v = some (s, ()) ∧ (s ≠ [] → ∃ k : Nat, k < 16 ∧ v = (k : Int) ∧ s = regN k) := by
 by_cases h : v < 0 ∨ 16 ≤ v
 ·exact ⟨[], regName_out h, fun e => absurd rfl e⟩
 ·obtain ⟨k, rfl⟩ : ∃ k : Nat, v = (k : Int) := ⟨v.toNat, by omega⟩
  have hk : k < 16 := by omega
  exact ⟨regN k, (reg_fact k hk).1, fun _ => ⟨k, hk, rfl, rfl⟩⟩
theorem cut_nil {s p : Str} (h : L.cutIs s p = true) (hp : p ≠ []) : s ≠ [] := by
 rintro rfl
 cases p with
 | nil => exact hp rfl
 | cons a l => simp [L.cutIs, Lib.hasPrefix] at h
theorem regOf_some {s : Str} {k : Nat} (h : (List.range 16).find? (fun k => regN k == s) = some k) : k < 16 ∧ regN k = s := by
 have h1 := List.mem_of_find?_eq_some h
 have h2 := List.find?_some h
 exact ⟨List.mem_range.1 h1, by simpa using h2⟩
theorem reg_eq (s : Str) (hs : s.length ≤ 1000000) : name_Reg.g s = some ((regOf s).1, (regOf s).2, ()) := by
 unfold regOf
 cases hf : (List.range 16).find? (fun k => regN k == s) with
 | some k =>
  obtain ⟨h1, h2⟩ := regOf_some hf
  have := (reg_fact k h1).2
  rw [h2] at this
  exact this
 | none =>
  have hno : ∀ k, k < 16 → regN k ≠ s := fun k hk e => by
   have := List.find?_eq_none.1 hf k (List.mem_range.2 hk)
   simp [e] at this
  unfold name_Reg.g name_Reg.f
  obtain ⟨v, b, hvb⟩ := atoi_some (L.cutRest s [82]) (by
   unfold L.cutRest Lib.trimPrefix
   split
   ·rw [List.length_drop]; omega
   ·omega)
  rw [hvb, Option.bind_some]
  dsimp only
  cases hc : L.cutIs s [82] with
  | false => rfl
  | true =>
   rw [if_pos (by decide)]
   cases b with
   | false => rfl
   | true =>
    rw [if_pos (by decide)]
    obtain ⟨t, ht, hk⟩ := regName_cases v
    rw [ht, Option.bind_some]
    dsimp only
    by_cases e : t = s
    ·have hne := cut_nil hc (by decide)
     obtain ⟨k, hk1, _, hk2⟩ := hk (by rw [e]; exact hne)
     exact absurd (hk2.symm.trans e) (hno k hk1)
    ·rw [if_pos (by simp [e])]
end Rv
namespace Rv
open Go
abbrev Item := Int × Int × Str × Unit
def needsR (x : Item) : Int × Bool :=
 if x.1 = 1 then (0, decide (x.2.2.1 = []))
 else if x.1 = 2 then (0, decide (x.2.1 = 0) && labelOk x.2.2.1)
 else if x.1 = 3 then (1, decide (x.2.1 = 0) && decide (x.2.2.1 = []))
 else if x.1 = 4 ∨ x.1 = 5 ∨ x.1 = 6 then (2, decide (x.2.1 = 0) && decide (x.2.2.1 = []))
 else (0, false)
theorem needs_eq (a b : Int) (c : Str) : expr_needs.g a b c = some ((needsR (a, b, c, ())).1, (needsR (a, b, c, ())).2, ()) := by
 unfold expr_needs.g expr_needs.f
 simp only [expr_needs.j2, dt, label_eq, Option.bind_some]
 unfold needsR
 dsimp only
 rcases propTF (b = 0) with hb | hb
 all_goals
  by_cases h1 : a = 1
  ·subst h1; simp only [hb, if_true, if_false, decide_true, decide_false]
  by_cases h2 : a = 2
  ·subst h2; simp only [hb, if_true, if_false, decide_true, decide_false, Bool.true_and, Bool.false_and, show ¬ ((2 : Int) = 1) by decide]
  by_cases h3 : a = 3
  ·subst h3; simp only [hb, if_true, if_false, decide_true, decide_false, Bool.true_and, Bool.false_and, show ¬ ((3 : Int) = 1) by decide, show ¬ ((3 : Int) = 2) by decide]
  by_cases h4 : a = 4
  ·subst h4; simp only [hb, if_true, if_false, decide_true, decide_false, Bool.true_and, Bool.false_and, true_or, show ¬ ((4 : Int) = 1) by decide, show ¬ ((4 : Int) = 2) by decide, show ¬ ((4 : Int) = 3) by decide]
  by_cases h5 : a = 5
  ·subst h5; simp only [hb, if_true, if_false, decide_true, decide_false, Bool.true_and, Bool.false_and, true_or, or_true, show ¬ ((5 : Int) = 1) by decide, show ¬ ((5 : Int) = 2) by decide, show ¬ ((5 : Int) = 3) by decide, show ¬ ((5 : Int) = 4) by decide]
  by_cases h6 : a = 6
  ·subst h6; simp only [hb, if_true, if_false, decide_true, decide_false, Bool.true_and, Bool.false_and, true_or, or_true, show ¬ ((6 : Int) = 1) by decide, show ¬ ((6 : Int) = 2) by decide, show ¬ ((6 : Int) = 3) by decide, show ¬ ((6 : Int) = 4) by decide, show ¬ ((6 : Int) = 5) by decide]
  simp only [hb, h1, h2, h3, h4, h5, h6, if_true, if_false, or_self]
def wellR : Int → List Item → Bool
 | t, [] => decide (t = 1)
 | t, x :: r => (needsR x).2 && (!decide (t < (needsR x).1) && wellR (t + (1 - (needsR x).1)) r)
def well (e : List Item) : Bool := wellR 0 e && decide (e.length ≤ 64)
theorem needs_range (x : Item) : 0 ≤ (needsR x).1 ∧ (needsR x).1 ≤ 2 := by
 unfold needsR
 split
 ·simp
 ·split
  ·simp
  ·split
   ·simp
   ·split <;> simp
theorem well_loop (e : List Item) (he : e.length ≤ 4611686018427387904) (n : Nat) : ∀ (m i : Nat) (t : Int), i ≤ e.length → e.length - i < m → 0 ≤ t → t ≤ i →
  expr_Well.l3 n m e t e (e.length : Int) (i : Int) = some (wellR t (e.drop i) && decide (e.length ≤ 64), ()) := by
 intro m
 induction m with
 | zero => intro i t _ h; omega
 | succ m ih =>
  intro i t hi hm h0 ht
  by_cases h1 : i < e.length
  ·have hx : e.drop i = e.getD i ((0 : Int), ((0 : Int), (([] : Str), ()))) :: e.drop (i + 1) := by
    rw [List.drop_eq_getElem_cons h1, List.getD_eq_getElem?_getD, List.getElem?_eq_getElem h1]; rfl
   rw [hx]
   simp only [expr_Well.l3, dt, df, needs_eq, Option.bind_some]
   rw [if_pos (by omega), if_pos (by omega), Int.toNat_natCast]
   generalize e.getD i ((0 : Int), ((0 : Int), (([] : Str), ()))) = x
   obtain ⟨a, b, c, u⟩ := x
   cases u
   have hr := needs_range (a, b, c, ())
   simp only [wellR]
   generalize needsR (a, b, c, ()) = y at *
   obtain ⟨k, ok⟩ := y
   simp only at hr ⊢
   cases ok
   ·rfl
   ·rw [if_pos (show (!true) = false from rfl)]
    by_cases h2 : t < k
    ·rw [if_pos h2]; simp [h2]
    ·rw [if_neg h2, w64 (x := 1 - k) (by omega), w64 (x := t + (1 - k)) (by omega), w64 (x := (i : Int) + 1) (by omega), show (i : Int) + 1 = ((i + 1 : Nat) : Int) by omega]
     rw [ih (i + 1) (t + (1 - k)) (by omega) (by omega) (by omega) (by omega)]
     simp [h2]
  ·have hi' : i = e.length := by omega
   subst hi'
   simp only [expr_Well.l3, dt]
   rw [if_neg (by omega), List.drop_length]
   simp only [wellR]
   by_cases h3 : t = 1
   ·rw [if_pos h3]
    simp [h3]
    omega
   ·rw [if_neg h3]; simp [h3]
theorem well_eq (e : List Item) (he : e.length ≤ 4611686018427387904) : expr_Well.g e = some (well e, ()) := by
 unfold expr_Well.g expr_Well.f
 exact well_loop e he _ _ 0 0 (by omega) (by omega) (by omega) (by omega)
end Rv
namespace Rv
open Go
def enough : Int → List Item → Option Int
 | t, [] => some t
 | t, x :: r => if (needsR x).2 = true ∧ ¬ t < (needsR x).1 then enough (t + (1 - (needsR x).1)) r else none
theorem wellR_enough : ∀ (e : List Item) (t : Int), (wellR t e = true) = (enough t e = some 1)
 | [], t => by simp [wellR, enough]
 | x :: r, t => by
  simp only [wellR, enough, Bool.and_eq_true, Bool.not_eq_true', decide_eq_false_iff_not]
  by_cases h : (needsR x).2 = true ∧ ¬ t < (needsR x).1
  ·rw [if_pos h, ← wellR_enough r]
   simp [h.1, h.2]
  ·rw [if_neg h]
   apply propext
   constructor
   ·intro h'; exact absurd ⟨h'.1, h'.2.1⟩ h
   ·intro h'; cases h'
theorem enough_app : ∀ (a b : List Item) (t : Int), enough t (a ++ b) = (enough t a).bind fun k => enough k b
 | [], b, t => rfl
 | x :: a, b, t => by
  simp only [List.cons_append, enough]
  split
  ·exact enough_app a b _
  ·rfl
def wellL (e : List Item) : Prop := enough 0 e = some 1
theorem enough_shift : ∀ (e : List Item) (t k j : Int), 0 ≤ j → enough t e = some k → enough (t + j) e = some (k + j)
 | [], t, k, j, _, h => by
  simp only [enough, Option.some.injEq] at h ⊢
  omega
 | x :: e, t, k, j, hj, h => by
  simp only [enough] at h ⊢
  split at h
  ·rename_i hc
   rw [if_pos ⟨hc.1, by omega⟩, show t + j + (1 - (needsR x).1) = (t + (1 - (needsR x).1)) + j by omega]
   exact enough_shift e _ k j hj h
  ·cases h
theorem well_of {e : List Item} (h : wellL e) (hl : e.length ≤ 64) : well e = true := by
 unfold well
 rw [Bool.and_eq_true, decide_eq_true_eq, wellR_enough]
 exact ⟨h, hl⟩
theorem well_two {a b : List Item} (ha : wellL a) (hb : wellL b) (x : Item) (hx : needsR x = (2, true)) : wellL (a ++ b ++ [x]) := by
 unfold wellL at *
 have h1 : enough 1 b = some 2 := enough_shift b 0 1 1 (by omega) hb
 rw [enough_app, enough_app, ha, Option.bind_some, h1, Option.bind_some]
 simp [enough, hx]
theorem well_one {a : List Item} (ha : wellL a) (x : Item) (hx : needsR x = (1, true)) : wellL (a ++ [x]) := by
 unfold wellL at *
 rw [enough_app, ha, Option.bind_some]
 simp [enough, hx]
end Rv
namespace Rv
open Go
def goodItem (x : Item) : Prop := 0 ≤ x.2.1 ∧ x.2.1 ≤ 4294967295 ∧ (needsR x).2 = true
theorem fit15_end (n : Nat) : ∀ (m : Nat) (out : List Item) (t : Int), enough 0 out = some t → 1 ≤ t → t ≤ 10 → out.length + t ≤ 20 → t.toNat < m → (∀ x ∈ out, goodItem x) →
  ∃ r, rivetref15_Fit.l21 n m out t = some (r, ()) ∧ wellL r ∧ r.length ≤ 19 ∧ ∀ x ∈ r, goodItem x := by
 intro m
 induction m with
 | zero => intro out t _ _ _ _ h; omega
 | succ m ih =>
  intro out t he h1 h10 hl hm hg
  simp only [rivetref15_Fit.l21, dt]
  by_cases h2 : 1 < t
  ·rw [if_pos h2, if_pos (by simp; omega), w64 (by omega)]
   refine ih _ (t - 1) ?_ (by omega) (by omega) (by simp; omega) (by omega) ?_
   ·rw [enough_app, he, Option.bind_some]
    have e0 : needsR ((4 : Int), 0, ([] : Str), ()) = (2, true) := rfl
    simp only [enough, e0]
    rw [if_pos ⟨trivial, by omega⟩]
    congr 1
   ·intro x hx
    rcases List.mem_append.1 hx with hx | hx
    ·exact hg x hx
    ·rw [List.mem_singleton] at hx
     subst hx
     exact ⟨by decide, by decide, rfl⟩
  ·rw [if_neg h2]
   have : t = 1 := by omega
   subst this
   exact ⟨out, rfl, he, by omega, hg⟩
theorem enough_snoc {out : List Item} {t k : Int} {x : Item} (he : enough 0 out = some t) (hx : needsR x = (k, true)) (hk : ¬ t < k) : enough 0 (out ++ [x]) = some (t + (1 - k)) := by
 rw [enough_app, he, Option.bind_some]
 simp only [enough, hx]
 rw [if_pos ⟨trivial, hk⟩]
theorem fit15_after (n : Nat) (hn : 100 ≤ n) (out : List Item) (t : Int) (he : enough 0 out = some t) (h0 : 0 ≤ t) (h10 : t ≤ out.length) (hl : out.length ≤ 10) (hg : ∀ x ∈ out, goodItem x) :
  ∃ r, rivetref15_Fit.j19 n out t = some (r, ()) ∧ wellL r ∧ r.length ≤ 19 ∧ ∀ x ∈ r, goodItem x := by
 unfold rivetref15_Fit.j19
 simp only [dt]
 by_cases h : t = 0
 ·rw [if_pos h]
  refine ⟨_, rfl, rfl, by simp, fun x hx => ?_⟩
  rw [List.mem_singleton] at hx
  subst hx
  exact ⟨by decide, by decide, rfl⟩
 ·rw [if_neg h]
  exact fit15_end n n out t he (by omega) (by omega) (by omega) (by omega) hg
end Rv
namespace Rv
open Go
theorem tmod6 (k : Int) : -6 < Int.tmod k 6 ∧ Int.tmod k 6 < 6 := by
 by_cases h : 0 ≤ k
 ·rw [Int.tmod_eq_emod_of_nonneg h]; omega
 ·have : k = -(-k) := by omega
  rw [this, Int.neg_tmod, Int.tmod_eq_emod_of_nonneg (by omega)]; omega
def kindOf (k : Int) : Int := IntKind.i64.wrap (1 + Int.tmod (IntKind.i64.wrap (Int.tmod k 6 + 6)) 6)
theorem kindOf_range (k : Int) : 1 ≤ kindOf k ∧ kindOf k ≤ 6 := by
 unfold kindOf
 have h1 := tmod6 k
 rw [w64 (x := Int.tmod k 6 + 6) (by omega), Int.tmod_eq_emod_of_nonneg (show 0 ≤ Int.tmod k 6 + 6 by omega), w64 (by omega)]
 omega
end Rv
namespace Rv
open Go
def wfItems (l : List Item) : Prop := ∀ x ∈ l, 0 ≤ x.2.1 ∧ x.2.1 ≤ 4294967295 ∧ x.2.2.1.length ≤ 9223372036854775807
theorem fit15_push (n : Nat) (rl) (l out : List Item) (t : Int) (i : Nat) (hi : i < 10) (hlen : out.length = i) (x : Item) :
  rivetref15_Fit.j18 n rl l out t (i : Int) x.1 x.2.1 x.2.2.1 = rl l (out ++ [x]) t ((i + 1 : Nat) : Int) := by
 unfold rivetref15_Fit.j18
 rw [if_pos (by simp; omega), w64 (by omega)]
 rfl
theorem getD_mem {l : List Item} {i : Nat} (h : i < l.length) (d : Item) : l.getD i d ∈ l := by
 rw [List.getD_eq_getElem?_getD, List.getElem?_eq_getElem h]; exact List.getElem_mem h
theorem fit15_j9 (n : Nat) (rl) (l out : List Item) (t : Int) (i : Nat) (hi : i < 10) (hil : i < l.length) (hlen : out.length = i) (ht : 0 ≤ t ∧ t ≤ i) (hw : wfItems l) (K : Int) (hK : 1 ≤ K ∧ K ≤ 6) (h3 : K = 3 → 1 ≤ t) (h4 : 4 ≤ K → 2 ≤ t) :
  ∃ x k, needsR x = (k, true) ∧ ¬ t < k ∧ goodItem x ∧ rivetref15_Fit.j9 n rl l out t (i : Int) K 0 ([] : Str) = rl l (out ++ [x]) (t + (1 - k)) ((i + 1 : Nat) : Int) := by
 have hx := hw _ (getD_mem hil ((0 : Int), ((0 : Int), (([] : Str), ()))))
 unfold rivetref15_Fit.j9
 simp only [dt, Int.toNat_natCast]
 generalize l.getD i ((0 : Int), ((0 : Int), (([] : Str), ()))) = y at hx ⊢
 obtain ⟨hy0, hy1, hy2⟩ := hx
 by_cases k1 : K = 1
 ·subst k1
  rw [if_pos rfl, if_pos (by omega), w64 (by omega)]
  refine ⟨((1 : Int), y.2.1, ([] : Str), ()), 0, rfl, by omega, ⟨hy0, hy1, rfl⟩, ?_⟩
  exact fit15_push n rl l out _ i hi hlen ((1 : Int), y.2.1, ([] : Str), ())
 ·rw [if_neg k1]
  by_cases k2 : K = 2
  ·subst k2
   have e1 : (mn (y.2.2.1.length : Int) 6) = ((min y.2.2.1.length 6 : Nat) : Int) := by unfold mn; split <;> omega
   obtain ⟨r, hr, hlab, _⟩ := fit13_label (y.2.2.1.take (min y.2.2.1.length 6)) (by simp; omega)
   have e2 : (y.2.2.1.take (mn (y.2.2.1.length : Int) 6).toNat).drop 0 = y.2.2.1.take (min y.2.2.1.length 6) := by rw [e1, Int.toNat_natCast, List.drop_zero]
   rw [if_pos rfl, if_pos (by omega), if_pos (by omega), if_pos (by rw [e1]; omega), e2, hr, Option.bind_some, w64 (by omega)]
   have hn : needsR ((2 : Int), 0, r, ()) = (0, true) := by
    unfold needsR
    simp [hlab]
   refine ⟨((2 : Int), 0, r, ()), 0, hn, by omega, ⟨Int.le_refl 0, (by decide : (0 : Int) ≤ 4294967295), by rw [hn]⟩, ?_⟩
   exact fit15_push n rl l out _ i hi hlen ((2 : Int), 0, r, ())
  ·rw [if_neg k2]
   by_cases k3 : K = 3
   ·subst k3
    rw [if_pos rfl]
    refine ⟨((3 : Int), 0, ([] : Str), ()), 1, rfl, by have := h3 rfl; omega, ⟨by decide, by decide, rfl⟩, ?_⟩
    rw [show t + (1 - 1) = t by omega]
    exact fit15_push n rl l out _ i hi hlen ((3 : Int), 0, ([] : Str), ())
   ·rw [if_neg k3, w64 (by omega)]
    have hn : needsR (K, 0, ([] : Str), ()) = (2, true) := by
     unfold needsR
     have : K = 4 ∨ K = 5 ∨ K = 6 := by omega
     simp [k1, k2, k3, this]
    refine ⟨(K, 0, ([] : Str), ()), 2, hn, by have := h4 (by omega); omega, ⟨Int.le_refl 0, (by decide : (0 : Int) ≤ 4294967295), by rw [hn]⟩, ?_⟩
    rw [show t + (1 - 2) = t - 1 by omega]
    exact fit15_push n rl l out _ i hi hlen (K, 0, ([] : Str), ())
theorem fit15_loop (l : List Item) (hl : l.length ≤ 9223372036854775807) (hw : wfItems l) (n : Nat) (hn : 100 ≤ n) : ∀ (m i : Nat) (out : List Item) (t : Int), i ≤ l.length → i ≤ 10 → 10 - i < m → out.length = i → enough 0 out = some t → 0 ≤ t → t ≤ i → (∀ x ∈ out, goodItem x) →
  ∃ r, rivetref15_Fit.l4 n m l out t (i : Int) = some (r, ()) ∧ wellL r ∧ r.length ≤ 19 ∧ ∀ x ∈ r, goodItem x := by
 intro m
 induction m with
 | zero => intro i out t _ _ h; omega
 | succ m ih =>
  intro i out t hi hi10 hm hlen he h0 ht hg
  have fin := fit15_after n hn out t he h0 (by omega) (by omega) hg
  simp only [rivetref15_Fit.l4, dt, df, Int.toNat_natCast]
  by_cases h1 : i < l.length
  ·rw [if_pos (show (i : Int) < l.length by omega)]
   by_cases h2 : i < 10
   ·rw [if_pos (show (i : Int) < 10 by omega), if_pos (by omega)]
    have hkk : IntKind.i64.wrap (1 + Int.tmod (IntKind.i64.wrap (Int.tmod (l.getD i ((0 : Int), ((0 : Int), (([] : Str), ())))).1 6 + 6)) 6) = kindOf (l.getD i ((0 : Int), ((0 : Int), (([] : Str), ())))).1 := rfl
    rw [hkk]
    have hK := kindOf_range (l.getD i ((0 : Int), ((0 : Int), (([] : Str), ())))).1
    generalize kindOf (l.getD i ((0 : Int), ((0 : Int), (([] : Str), ())))).1 = K at *
    have go : ∀ K : Int, 1 ≤ K ∧ K ≤ 6 → (K = 3 → 1 ≤ t) → (4 ≤ K → 2 ≤ t) → ∃ r, rivetref15_Fit.j9 n (rivetref15_Fit.l4 n m) l out t (i : Int) K 0 ([] : Str) = some (r, ()) ∧ wellL r ∧ r.length ≤ 19 ∧ ∀ x ∈ r, goodItem x := fun K hK h3 h4 => by
     obtain ⟨x, k, hx, hk, hgx, heq⟩ := fit15_j9 n (rivetref15_Fit.l4 n m) l out t i h2 h1 hlen ⟨h0, ht⟩ hw K hK h3 h4
     rw [heq]
     have hr := needs_range x
     rw [hx] at hr
     refine ih (i + 1) (out ++ [x]) (t + (1 - k)) (by omega) (by omega) (by omega) (by simp [hlen]) (enough_snoc he hx hk) (by simp at hr; omega) (by simp at hr; omega) fun y hy => ?_
     rcases List.mem_append.1 hy with hy | hy
     ·exact hg y hy
     ·rw [List.mem_singleton] at hy; subst hy; exact hgx
    by_cases k3 : K = 3
    ·rw [if_pos k3]
     by_cases t1 : t < 1
     ·rw [if_neg (by omega)]
      exact go 1 (by omega) (by omega) (by omega)
     ·rw [if_pos t1]
      by_cases k4 : 3 < K
      ·omega
      ·rw [if_neg k4]
       exact go K hK (by omega) (by omega)
    ·rw [if_neg k3]
     by_cases k4 : 3 < K
     ·rw [if_pos k4]
      by_cases t2 : t < 2
      ·rw [if_pos t2]
       exact go 1 (by omega) (by omega) (by omega)
      ·rw [if_neg t2]
       exact go K hK (by omega) (by omega)
     ·rw [if_neg k4]
      exact go K hK (by omega) (by omega)
   ·rw [if_neg (by omega)]
    exact fin
  ·rw [if_neg (by omega)]
   exact fin
theorem fit15_eq (l : List Item) (hl : l.length ≤ 9223372036854775807) (hw : wfItems l) : ∃ r, rivetref15_Fit.g l = some (r, ()) ∧ wellL r ∧ r.length ≤ 19 ∧ ∀ x ∈ r, goodItem x := by
 unfold rivetref15_Fit.g rivetref15_Fit.f
 exact fit15_loop l hl hw _ (by omega) _ 0 [] 0 (by omega) (by omega) (by omega) rfl rfl (by omega) (by omega) (fun x hx => by cases hx)
end Rv
namespace Rv
open Go
abbrev TokL := Int × Int × Str × Int × Unit
def preE (ts : List TokL) : Except Int (List TokL) → Except Int (List TokL)
 | .error e => .error e
 | .ok l => .ok (ts ++ l)
theorem preE_app (a b : List TokL) (x : Except Int (List TokL)) : preE (a ++ b) x = preE a (preE b x) := by cases x <;> simp [preE]
def okR (r : Str) : Prop := r = [] ∨ ∃ b y, r = b :: y ∧ isW b = false
theorem word_okR {s r : Str} (hs : s.all isW = true) (hr : okR r) : wordOf (s ++ r) = s := by
 rcases hr with rfl | ⟨b, y, rfl, hb⟩
 ·rw [List.append_nil]; exact wordOf_all hs
 ·unfold wordOf
  rw [takeW_app hb]
  exact wordOf_all hs
theorem line_word {s : Str} {c : UInt8} {t : Str} (hs : s = c :: t) (ha : s.all isW = true) {q v : Int} (hk : ∀ r, okR r → tokAt c (t ++ r) = .ok (0, q, s, v)) (k : Int) {r : Str} (hr : okR r) : lineR k (s ++ r) = preE [(q, k, s, v, ())] (lineR (k + s.length) r) := by
 subst hs
 have hW : isW c = true := by simp only [List.all_cons, Bool.and_eq_true] at ha; exact ha.1
 obtain ⟨h1, h2⟩ := blank_facts hW
 rw [List.cons_append, lineR_cons, if_neg h1, if_neg h2, hk r hr]
 dsimp only
 have hd : (t ++ r).drop (0 + (c :: t).length - 1) = r := by
  rw [List.length_cons, show 0 + (t.length + 1) - 1 = t.length by omega]
  exact List.drop_left' rfl
 rw [hd, show k + ((0 : Nat) : Int) + ((c :: t).length : Int) = k + ((c :: t).length : Int) by omega]
 cases lineR (k + ((c :: t).length : Int)) r <;> rfl
theorem line_sig (c : UInt8) (hc : c ∈ ([40, 41, 42, 43, 45] : Str)) (k : Int) (r : Str) : lineR k (c :: r) = preE [(3, k, [c], 0, ())] (lineR (k + 1) r) := by
 have step : isL c = false ∧ isD c = false ∧ c ≠ 46 ∧ isS c = true ∧ c ≠ 59 ∧ c ≠ 32 ∧ c ≠ 9 := by
  simp only [List.mem_cons, List.not_mem_nil, or_false] at hc
  rcases hc with rfl | rfl | rfl | rfl | rfl <;> decide
 obtain ⟨h1, h2, h3, h4, h5, h6, h7⟩ := step
 rw [lineR_cons, if_neg h5, if_neg (fun h => h.elim h6 h7)]
 unfold tokAt
 rw [if_neg (by simp [h1]), if_neg (by simp [h2]), if_neg (fun h => h3 h.1), if_pos h4]
 dsimp only
 rw [show k + ((0 : Nat) : Int) + (([c] : Str).length : Int) = k + 1 by simp, show 0 + ([c] : Str).length - 1 = 0 from rfl, List.drop_zero]
 cases lineR (k + 1) r <;> rfl
theorem line_blank (k : Int) (r : Str) : lineR k (32 :: r) = lineR (k + 1) r := by
 rw [lineR_cons, if_neg (by decide), if_pos (.inl rfl)]
end Rv
namespace Rv
open Go
inductive Opr
 | add | sub | mul
def Opr.kind : Opr → Int
 | .add => 4 | .sub => 5 | .mul => 6
def Opr.byte : Opr → UInt8
 | .add => 43 | .sub => 45 | .mul => 42
def Opr.tight : Opr → Nat
 | .mul => 1 | _ => 0
inductive Tr
 | num (n : Int) | nam (s : Str) | neg (x : Tr) | bin (o : Opr) (a b : Tr) | br (x : Tr)
namespace Tr
def post : Tr → List Item
 | .num n => [(1, n, [], ())]
 | .nam s => [(2, 0, s, ())]
 | .neg x => x.post ++ [(3, 0, [], ())]
 | .bin o a b => a.post ++ b.post ++ [(o.kind, 0, [], ())]
 | .br x => x.post
def ok : Tr → Prop
 | .num n => 0 ≤ n ∧ n ≤ 4294967295
 | .nam s => labelOk s = true
 | .neg x => x.ok
 | .bin _ a b => a.ok ∧ b.ok
 | .br x => x.ok
def plain : Tr → Prop
 | .neg x => x.plain
 | .bin _ a b => a.plain ∧ b.plain
 | .br _ => False
 | _ => True
def tight : Tr → Nat
 | .bin o _ _ => o.tight
 | _ => 2
end Tr
abbrev Bt := Int × Str × Int
def bare (t : TokL) : Bt := (t.1, t.2.2.1, t.2.2.2.1)
def tLp : Bt := (3, [40], 0)
def tRp : Bt := (3, [41], 0)
def tOp (o : Opr) : Bt := (3, [o.byte], 0)
def tNeg : Bt := (3, [45], 0)
def brk (b : Bool) (l : List Bt) : List Bt := if b then tLp :: (l ++ [tRp]) else l
namespace Tr
def toks : Tr → List Bt
 | .num n => [(2, Lib.itoa n, n)]
 | .nam s => [(1, s, 0)]
 | .neg x => tNeg :: brk (decide (x.tight < 2)) x.toks
 | .bin o a b => brk (decide (a.tight < o.tight)) a.toks ++ tOp o :: brk (decide (b.tight < o.tight + 1)) b.toks
 | .br x => tLp :: (x.toks ++ [tRp])
def toksA (lv : Nat) (x : Tr) : List Bt := brk (decide (x.tight < lv)) x.toks
def dep : Tr → Nat
 | .num _ => 0
 | .nam _ => 0
 | .neg x => 1 + (x.dep + if x.tight < 2 then 1 else 0)
 | .bin o a b => max (a.dep + if a.tight < o.tight then 1 else 0) (b.dep + if b.tight < o.tight + 1 then 1 else 0)
 | .br x => 1 + x.dep
def depA (lv : Nat) (x : Tr) : Nat := x.dep + if x.tight < lv then 1 else 0
theorem post_pos : ∀ x : Tr, 1 ≤ x.post.length
 | .num _ => by simp [post]
 | .nam _ => by simp [post]
 | .neg _ => by simp [post]
 | .bin _ _ _ => by simp [post]; omega
 | .br x => post_pos x
def cnt (l : List Bt) : Nat := l.countP fun b => decide (b.2.1 = [45]) || decide (b.2.1 = [40])
end Tr
theorem item_cases {x : Item} (h : (needsR x).2 = true) : (∃ n, x = (1, n, [], ())) ∨ (∃ s, x = (2, 0, s, ()) ∧ labelOk s = true) ∨ x = (3, 0, [], ()) ∨ ∃ o : Opr, x = (o.kind, 0, [], ()) := by
 obtain ⟨a, b, c, u⟩ := x
 cases u
 unfold needsR at h
 dsimp only at h
 split at h
 ·rename_i h1
  simp only [decide_eq_true_eq] at h
  exact .inl ⟨b, by rw [h1, h]⟩
 ·split at h
  ·rename_i h2
   simp only [Bool.and_eq_true, decide_eq_true_eq] at h
   exact .inr (.inl ⟨c, by rw [h2, h.1], h.2⟩)
  ·split at h
   ·rename_i h3
    simp only [Bool.and_eq_true, decide_eq_true_eq] at h
    exact .inr (.inr (.inl (by rw [h3, h.1, h.2])))
   ·split at h
    ·rename_i h4
     simp only [Bool.and_eq_true, decide_eq_true_eq] at h
     obtain ⟨rfl, rfl⟩ := h
     rcases h4 with rfl | rfl | rfl
     ·exact .inr (.inr (.inr ⟨.add, rfl⟩))
     ·exact .inr (.inr (.inr ⟨.sub, rfl⟩))
     ·exact .inr (.inr (.inr ⟨.mul, rfl⟩))
    ·cases h
theorem snocT (l : List Tr) : l = [] ∨ ∃ a x, l = a ++ [x] := by
 rcases List.eq_nil_or_concat l with h | ⟨a, x, h⟩
 ·exact .inl h
 ·exact .inr ⟨a, x, by simpa using h⟩
def posts (st : List Tr) : List Item := (st.map Tr.post).flatten
theorem posts_app (a b : List Tr) : posts (a ++ b) = posts a ++ posts b := by simp [posts]
theorem posts_one (x : Tr) : posts [x] = x.post := by simp [posts]
theorem trees_of : ∀ (e : List Item) (st : List Tr) (k : Int), enough (st.length : Int) e = some k → (∀ x ∈ e, goodItem x) → (∀ x ∈ st, x.ok ∧ x.plain) →
  ∃ st' : List Tr, (st'.length : Int) = k ∧ posts st ++ e = posts st' ∧ ∀ x ∈ st', x.ok ∧ x.plain
 | [], st, k, h, _, ho => by
  simp only [enough, Option.some.injEq] at h
  exact ⟨st, h, by simp, ho⟩
 | x :: e, st, k, h, hg, ho => by
  have hgx := hg x (by simp)
  unfold enough at h
  split at h
  case isFalse => cases h
  rename_i hc
  have push : ∀ (l : List Tr) (t : Tr), (∀ y ∈ l, y.ok ∧ y.plain) → t.ok ∧ t.plain → ((l.length : Int) + 1 = st.length + (1 - (needsR x).1)) → posts st ++ [x] = posts l ++ t.post → ∃ st' : List Tr, (st'.length : Int) = k ∧ posts st ++ x :: e = posts st' ∧ ∀ x ∈ st', x.ok ∧ x.plain := by
   intro l t hl ht hlen hp
   obtain ⟨st', h1, h2, h3⟩ := trees_of e (l ++ [t]) k (by rw [show ((l ++ [t]).length : Int) = st.length + (1 - (needsR x).1) by rw [← hlen]; simp]; exact h) (fun y hy => hg y (by simp [hy])) (fun y hy => by
    rcases List.mem_append.1 hy with hy | hy
    ·exact hl y hy
    ·rw [List.mem_singleton] at hy; subst hy; exact ht)
   refine ⟨st', h1, ?_, h3⟩
   rw [← h2, posts_app, posts_one, ← hp]; simp
  rcases item_cases hc.1 with ⟨n, rfl⟩ | ⟨s, rfl, hs⟩ | rfl | ⟨o, rfl⟩
  ·exact push st (.num n) ho ⟨⟨hgx.1, hgx.2.1⟩, trivial⟩ (by rw [show (needsR (1, n, [], ())).1 = 0 from rfl]; omega) rfl
  ·exact push st (.nam s) ho ⟨hs, trivial⟩ (by rw [show (needsR (2, 0, s, ())).1 = 0 from rfl]; omega) rfl
  ·have e1 : (needsR (3, 0, [], ())).1 = 1 := rfl
   rcases snocT st with rfl | ⟨l, v, rfl⟩
   ·exact absurd hc.2 (by rw [e1]; simp)
   ·have hv := ho v (by simp)
    exact push l (.neg v) (fun y hy => ho y (by simp [hy])) hv (by rw [e1]; simp <;> omega) (by rw [posts_app, posts_one]; simp [Tr.post])
  ·have e2 : (needsR (o.kind, 0, [], ())).1 = 2 := by cases o <;> rfl
   rcases snocT st with rfl | ⟨l0, v, rfl⟩
   ·exact absurd hc.2 (by rw [e2]; simp)
   ·rcases snocT l0 with rfl | ⟨l, w, rfl⟩
    ·exact absurd hc.2 (by rw [e2]; simp)
    ·exact push l (.bin o w v) (fun y hy => ho y (by simp [hy])) ⟨⟨(ho w (by simp)).1, (ho v (by simp)).1⟩, (ho w (by simp)).2, (ho v (by simp)).2⟩ (by rw [e2]; simp <;> omega) (by rw [posts_app, posts_app, posts_one, posts_one]; simp [Tr.post])
theorem tree_of {e : List Item} (h : wellL e) (hg : ∀ x ∈ e, goodItem x) : ∃ t : Tr, t.post = e ∧ t.ok ∧ t.plain := by
 obtain ⟨st, h1, h2, h3⟩ := trees_of e [] 1 h hg (fun x hx => by cases hx)
 match st, h1, h2, h3 with
 | [t], _, h2, h3 => exact ⟨t, by rw [posts_one] at h2; exact h2.symm, h3 t (by simp)⟩
 | [], h1, _, _ => simp at h1
 | _ :: _ :: _, h1, _, _ => simp at h1; omega
end Rv
namespace Rv
open Go
def dch (d : Nat) : UInt8 := if d < 10 then UInt8.ofNat (48 + d) else UInt8.ofNat (87 + d)
theorem dch_tab : ((List.range 16).all fun d => decide (digOf (dch d) = some d) && isW (dch d) && (decide (10 ≤ d) || isD (dch d)) && decide ((([48, 49, 50, 51, 52, 53, 54, 55, 56, 57, 97, 98, 99, 100, 101, 102] : Str).take (d + 1)).drop d = [dch d])) = true := by decide +kernel
theorem dch_facts {d : Nat} (h : d < 16) : digOf (dch d) = some d ∧ isW (dch d) = true ∧ (d < 10 → isD (dch d) = true) ∧ (([48, 49, 50, 51, 52, 53, 54, 55, 56, 57, 97, 98, 99, 100, 101, 102] : Str).take (d + 1)).drop d = [dch d] := by
 have := List.all_eq_true.1 dch_tab d (by simpa using h)
 simp only [Bool.and_eq_true, decide_eq_true_eq, Bool.or_eq_true] at this
 obtain ⟨⟨⟨h1, h2⟩, h3⟩, h4⟩ := this
 exact ⟨h1, h2, fun h => h3.resolve_left (by omega), h4⟩
theorem numFrom_app (b : Nat) : ∀ (s t : Str) (v : Nat), numFrom b v (s ++ t) = (numFrom b v s).bind fun w => numFrom b w t
 | [], t, v => rfl
 | c :: s, t, v => by
  simp only [List.cons_append, numFrom]
  cases digOf c with
  | none => rfl
  | some d =>
   simp only
   split
   ·split
    ·exact numFrom_app b s t _
    ·rfl
   ·rfl
end Rv
namespace Rv
open Go
def brkT (b : Bool) (s : Str) : Str := if b then 40 :: (s ++ [41]) else s
namespace Tr
def txt : Tr → Str
 | .num n => Lib.itoa n
 | .nam s => s
 | .neg x => 45 :: brkT (decide (x.tight < 2)) x.txt
 | .bin o a b => brkT (decide (a.tight < o.tight)) a.txt ++ ([32, o.byte, 32] ++ brkT (decide (b.tight < o.tight + 1)) b.txt)
 | .br x => 40 :: (x.txt ++ [41])
end Tr
theorem dec_num : ∀ (n : Nat), n < 4294967296 → numFrom 10 0 (Lib.decDigits n) = some n := by
 intro n
 induction n using Nat.strongRecOn with
 | _ n ih =>
  intro hn
  rw [Lib.decDigits]
  have hd : ∀ d, d < 10 → digOf (UInt8.ofNat (48 + d)) = some d := fun d h => by
   have := (dch_facts (show d < 16 by omega)).1
   unfold dch at this
   rwa [if_pos h] at this
  split
  ·rename_i h
   simp only [numFrom, hd n h]
   rw [if_pos h, if_pos (by omega)]
   simp
  ·rename_i h
   rw [numFrom_app, ih (n / 10) (by omega) (by omega), Option.bind_some]
   simp only [numFrom, hd (n % 10) (by omega)]
   have e : n / 10 * 10 + n % 10 = n := by omega
   rw [if_pos (by omega), e, if_pos hn]
theorem dec_all : ∀ (n : Nat), (Lib.decDigits n).all isD = true ∧ Lib.decDigits n ≠ [] := by
 intro n
 induction n using Nat.strongRecOn with
 | _ n ih =>
  rw [Lib.decDigits]
  have hd : ∀ d, d < 10 → isD (UInt8.ofNat (48 + d)) = true := fun d h => by
   have := (dch_facts (show d < 16 by omega)).2.2.1 h
   unfold dch at this
   rwa [if_pos h] at this
  split
  ·rename_i h
   exact ⟨by rw [List.all_cons, hd n h]; rfl, by simp⟩
  ·rename_i h
   exact ⟨by rw [List.all_append, (ih (n / 10) (by omega)).1, List.all_cons, hd (n % 10) (by omega)]; rfl, by simp⟩
theorem dec_len : ∀ (k n : Nat), n < 10 ^ (k + 1) → (Lib.decDigits n).length ≤ k + 1
 | 0, n, h => by
  rw [Lib.decDigits, dif_pos (by simpa using h)]; simp
 | k + 1, n, h => by
  rw [Lib.decDigits]
  split
  ·simp
  ·have := dec_len k (n / 10) (by rw [Nat.div_lt_iff_lt_mul (by omega), ← Nat.pow_succ]; exact h)
   simp; omega
theorem line_dec (n : Int) (h : 0 ≤ n ∧ n ≤ 4294967295) (k : Int) {r : Str} (hr : okR r) : lineR k (Lib.itoa n ++ r) = preE [(2, k, Lib.itoa n, n, ())] (lineR (k + (Lib.itoa n).length) r) := by
 obtain ⟨m, rfl⟩ : ∃ m : Nat, n = m := ⟨n.toNat, by omega⟩
 have hi : Lib.itoa (m : Int) = Lib.decDigits m := by unfold Lib.itoa; rw [if_neg (by omega)]; rfl
 obtain ⟨hD, hne⟩ := dec_all m
 rw [hi]
 obtain ⟨c, t, hs⟩ : ∃ c t, Lib.decDigits m = c :: t := by
  cases hd : Lib.decDigits m with
  | nil => exact absurd hd hne
  | cons c t => exact ⟨c, t, rfl⟩
 have hW : (Lib.decDigits m).all isW = true := by
  rw [List.all_eq_true] at hD ⊢
  intro x hx
  have := hD x hx
  simp [isW, this]
 have hc : isD c = true := List.all_eq_true.1 hD c (by rw [hs]; simp)
 refine line_word hs hW (fun r hr => ?_) k hr
 have hL : ¬ isL c = true := by
  intro h
  unfold isL at h
  unfold isD at hc
  simp only [decide_eq_true_eq] at h hc
  omega
 have hword : wordOf (c :: (t ++ r)) = Lib.decDigits m := by
  rw [← List.cons_append, ← hs]; exact word_okR hW hr
 have hnum : num (Lib.decDigits m) = some m := by
  unfold num
  have : ¬ ([48, 120] : Str).isPrefixOf (Lib.decDigits m) = true := by
   intro hp
   rw [hs] at hp hD
   cases t with
   | nil => simp [List.isPrefixOf] at hp
   | cons b t =>
    have hb : isD b = true := List.all_eq_true.1 hD b (by simp)
    simp only [List.isPrefixOf, Bool.and_true, Bool.and_eq_true, beq_iff_eq] at hp
    rw [← hp.2] at hb
    exact absurd hb (by decide)
  rw [if_neg this, if_neg hne]
  exact dec_num m (by omega)
 unfold tokAt
 rw [if_neg hL, if_pos hc, hword, hnum]
theorem line_name' {s : Str} (h : labelOk s = true) (k : Int) {r : Str} (hr : okR r) : lineR k (s ++ r) = preE [(1, k, s, 0, ())] (lineR (k + s.length) r) := by
 unfold labelOk at h
 simp only [Bool.and_eq_true, decide_eq_true_eq, Bool.not_eq_true'] at h
 obtain ⟨⟨⟨⟨hne, _⟩, hD⟩, hW⟩, _⟩ := h
 obtain ⟨c, t, hs⟩ : ∃ c t, s = c :: t := by
  cases s with
  | nil => exact absurd rfl hne
  | cons c t => exact ⟨c, t, rfl⟩
 have hc : isL c = true := by
  have h1 : isW c = true := List.all_eq_true.1 hW c (by rw [hs]; simp)
  rw [hs] at hD
  have h2 : isD c = false := hD
  simpa [isW, h2] using h1
 refine line_word hs hW (fun r hr => ?_) k hr
 have hword : wordOf (c :: (t ++ r)) = s := by
  rw [← List.cons_append, ← hs]; exact word_okR hW hr
 unfold tokAt
 rw [if_pos hc, hword]
def Scans (s : Str) (b : List Bt) : Prop := ∀ k : Int, ∃ ts : List TokL, ts.map bare = b ∧ ∀ r, okR r → lineR k (s ++ r) = preE ts (lineR (k + s.length) r)
theorem Scans.sig (c : UInt8) (hc : c ∈ ([40, 41, 42, 43, 45] : Str)) : ∀ k : Int, ∃ ts : List TokL, ts.map bare = [(3, [c], 0)] ∧ ∀ r, lineR k ([c] ++ r) = preE ts (lineR (k + ([c] : Str).length) r) := fun k =>
 ⟨[(3, k, [c], 0, ())], rfl, fun r => line_sig c hc k r⟩
theorem Scans.brk {s : Str} {b : List Bt} (h : Scans s b) : Scans (40 :: (s ++ [41])) (tLp :: (b ++ [tRp])) := fun k => by
 obtain ⟨ts, h1, h2⟩ := h (k + 1)
 refine ⟨[(3, k, [40], 0, ())] ++ ts ++ [(3, k + 1 + s.length, [41], 0, ())], ?_, fun r hr => ?_⟩
 ·rw [List.map_append, List.map_append, h1]; rfl
 ·have e : (40 :: (s ++ [41])) ++ r = 40 :: (s ++ (41 :: r)) := by simp
  rw [e, line_sig 40 (by simp), h2 _ (.inr ⟨41, r, rfl, by decide⟩), line_sig 41 (by simp), ← preE_app, ← preE_app]
  congr 2
  simp; omega
theorem Scans.brkT {s : Str} {b : List Bt} (h : Scans s b) (x : Bool) : Scans (Rv.brkT x s) (Rv.brk x b) := by
 unfold Rv.brkT Rv.brk
 cases x with
 | false => exact h
 | true => exact h.brk
theorem scans_tree : ∀ t : Tr, t.ok → Scans t.txt t.toks
 | .num n, h => fun k => ⟨_, rfl, fun r hr => line_dec n h k hr⟩
 | .nam s, h => fun k => ⟨_, rfl, fun r hr => line_name' h k hr⟩
 | .neg x, h => fun k => by
  obtain ⟨ts, h1, h2⟩ := (scans_tree x h).brkT (decide (x.tight < 2)) (k + 1)
  refine ⟨[(3, k, [45], 0, ())] ++ ts, ?_, fun r hr => ?_⟩
  ·rw [List.map_append, h1]; rfl
  ·show lineR k (45 :: (Rv.brkT (decide (x.tight < 2)) x.txt ++ r)) = _
   rw [line_sig 45 (by simp), h2 r hr, ← preE_app]
   congr 2
   simp [Tr.txt]; omega
 | .br x, h => (scans_tree x h).brk
 | .bin o a b, h => fun k => by
  obtain ⟨t1, h1, h2⟩ := (scans_tree a h.1).brkT (decide (a.tight < o.tight)) k
  obtain ⟨t2, h3, h4⟩ := (scans_tree b h.2).brkT (decide (b.tight < o.tight + 1)) (k + (Rv.brkT (decide (a.tight < o.tight)) a.txt).length + 3)
  refine ⟨t1 ++ [(3, k + (Rv.brkT (decide (a.tight < o.tight)) a.txt).length + 1, [o.byte], 0, ())] ++ t2, ?_, fun r hr => ?_⟩
  ·rw [List.map_append, List.map_append, h1, h3, List.append_assoc]; rfl
  ·have e : (Tr.bin o a b).txt ++ r = Rv.brkT (decide (a.tight < o.tight)) a.txt ++ (32 :: o.byte :: 32 :: (Rv.brkT (decide (b.tight < o.tight + 1)) b.txt ++ r)) := by simp [Tr.txt]
   rw [e, h2 _ (.inr ⟨32, _, rfl, by decide⟩), line_blank, line_sig o.byte (by cases o <;> simp [Opr.byte]), line_blank]
   rw [show k + ((Rv.brkT (decide (a.tight < o.tight)) a.txt).length : Int) + 1 + 1 + 1 = k + (Rv.brkT (decide (a.tight < o.tight)) a.txt).length + 3 by omega, h4 r hr, ← preE_app, ← preE_app]
   congr 2
   simp [Tr.txt]; omega
theorem brkT_len (b : Bool) (s : Str) : (brkT b s).length ≤ s.length + 2 := by unfold brkT; split <;> simp
theorem txt_len : ∀ t : Tr, t.ok → t.plain → t.txt.length ≤ 20 * t.post.length
 | .num n, h, _ => by
  obtain ⟨m, rfl⟩ : ∃ m : Nat, n = m := ⟨n.toNat, by have := h.1; omega⟩
  have hi : Lib.itoa (m : Int) = Lib.decDigits m := by unfold Lib.itoa; rw [if_neg (by omega)]; rfl
  have := dec_len 9 m (by have h2 := h.2; omega)
  show (Lib.itoa (m : Int)).length ≤ 20 * 1
  rw [hi]; omega
 | .nam s, h, _ => by
  have h : labelOk s = true := h
  unfold labelOk at h
  simp only [Bool.and_eq_true, decide_eq_true_eq] at h
  have := h.1.1.1.2
  show s.length ≤ 20 * 1
  omega
 | .neg x, h, hp => by
  have h1 := txt_len x h hp
  have h2 := brkT_len (decide (x.tight < 2)) x.txt
  simp [Tr.txt, Tr.post]; omega
 | .br x, _, hp => hp.elim
 | .bin o a b, h, hp => by
  have h1 := txt_len a h.1 hp.1
  have h2 := txt_len b h.2 hp.2
  have h3 := brkT_len (decide (a.tight < o.tight)) a.txt
  have h4 := brkT_len (decide (b.tight < o.tight + 1)) b.txt
  simp [Tr.txt, Tr.post]; omega
end Rv
namespace Rv
open Go
abbrev dIt : Item := ((0 : Int), ((0 : Int), (([] : Str), ())))
theorem pat_eq (s : Str) (hs : s.length ≤ 1000000) (k lv : Nat) : expr_part_at.g s (k : Int) (lv : Int) = some (brkT (decide (k < lv)) s, ()) := by
 unfold expr_part_at.g expr_part_at.f brkT
 by_cases h : k < lv
 ·rw [if_pos (by simp; omega), if_pos (by simp; omega), if_pos (by simp; omega), if_pos (by simpa using h)]
  simp
 ·rw [if_neg (by simp; omega), if_neg (by simpa using h)]
theorem fu_eq (n : Int) (h : 0 ≤ n ∧ n ≤ 4294967295) : strconv_FormatUint.g (IntKind.u64.wrap n) 10 = some (Lib.itoa n, ()) := by
 rw [w64u (by omega)]
 unfold strconv_FormatUint.g strconv_FormatUint.f L.formatUintO
 rw [if_pos ⟨rfl, h.1, by omega⟩]
 rfl
def parts (st : List Tr) : List (Str × Int × Unit) := st.map fun t => (t.txt, (t.tight : Int), ())
theorem parts_len (st : List Tr) : (parts st).length = st.length := by simp [parts]
theorem parts_app (a b : List Tr) : parts (a ++ b) = parts a ++ parts b := by simp [parts]
theorem it_at {e : List Item} {i : Nat} {x : Item} {r : List Item} (h : e.drop i = x :: r) : i < e.length ∧ e.getD i dIt = x ∧ e.drop (i + 1) = r := by
 have hi : i < e.length := by
  apply Classical.byContradiction
  intro hn
  rw [List.drop_eq_nil_of_le (by omega)] at h
  cases h
 have hd : e.drop i = e.getD i dIt :: e.drop (i + 1) := by
  rw [List.drop_eq_getElem_cons hi, List.getD_eq_getElem?_getD, List.getElem?_eq_getElem hi]; rfl
 rw [hd, List.cons.injEq] at h
 exact ⟨hi, h.1, h.2⟩
theorem j23_eq (n : Nat) (rl) (st on : List Tr) (e : List Item) (i : Nat) (he : e.length ≤ 1000) (hi : i < e.length) (s : Str) (k : Int) (hst : st.length + on.length ≤ 1000) :
  expr_Print.j23 n rl (parts (st ++ on)) (on.length : Int) e (e.length : Int) (i : Int) s k = rl (parts st ++ [(s, k, ())]) e (e.length : Int) ((i + 1 : Nat) : Int) := by
 unfold expr_Print.j23
 have hl : (parts (st ++ on)).length = st.length + on.length := by rw [parts_len]; simp
 have hw : IntKind.i64.wrap (((parts (st ++ on)).length : Int) - (on.length : Int)) = (st.length : Int) := by rw [hl, w64 (by omega)]; omega
 have ht : (parts (st ++ on)).take st.length = parts st := by
  rw [parts_app]
  exact List.take_left' (parts_len st)
 rw [hw, hl, if_pos (by omega), Int.toNat_natCast, ht, if_pos (by rw [parts_len]; simp; omega), w64 (by omega)]
 rfl
theorem print_run (e : List Item) (he : e.length ≤ 1000) (n : Nat) : ∀ t : Tr, t.ok → t.plain → ∀ (st : List Tr) (m i : Nat) (rest : List Item), st.length + t.post.length ≤ 1000 → e.drop i = t.post ++ rest →
  expr_Print.l5 n (m + t.post.length) (parts st) e (e.length : Int) (i : Int) = expr_Print.l5 n m (parts (st ++ [t])) e (e.length : Int) ((i + t.post.length : Nat) : Int)
 | .num v, ho, hp, st, m, i, rest, hst, hd => by
  obtain ⟨h1, h2, _⟩ := it_at (x := (1, v, [], ())) (r := rest) hd
  show expr_Print.l5 n (m + 1) (parts st) e (e.length : Int) (i : Int) = _
  rw [expr_Print.l5]
  simp only [dt, Int.toNat_natCast]
  rw [if_pos (by omega), if_pos (by omega), h2]
  dsimp only
  rw [needs_eq, Option.bind_some]
  have e0 : (needsR (1, v, [], ())).1 = 0 := rfl
  dsimp only
  rw [e0, if_pos (by rw [parts_len, w64 (by simp [Tr.post] at hst; omega)]; omega), if_pos rfl, fu_eq v ho, Option.bind_some]
  have := j23_eq n (expr_Print.l5 n m) st [] e i he h1 (Lib.itoa v) 2 (by simp [Tr.post] at hst ⊢; omega)
  rw [List.append_nil] at this
  rw [show ((0 : Int)) = (([] : List Tr).length : Int) from rfl, this, parts_app]
  rfl
 | .nam s, ho, hp, st, m, i, rest, hst, hd => by
  obtain ⟨h1, h2, _⟩ := it_at (x := (2, 0, s, ())) (r := rest) hd
  show expr_Print.l5 n (m + 1) (parts st) e (e.length : Int) (i : Int) = _
  rw [expr_Print.l5]
  simp only [dt, Int.toNat_natCast]
  rw [if_pos (by omega), if_pos (by omega), h2]
  dsimp only
  rw [needs_eq, Option.bind_some]
  have e0 : (needsR (2, 0, s, ())).1 = 0 := rfl
  dsimp only
  rw [e0, if_pos (by rw [parts_len, w64 (by simp [Tr.post] at hst; omega)]; omega), if_neg (show ¬ (2 : Int) = 1 by decide), if_pos rfl]
  have := j23_eq n (expr_Print.l5 n m) st [] e i he h1 s 2 (by simp [Tr.post] at hst ⊢; omega)
  rw [List.append_nil] at this
  rw [show ((0 : Int)) = (([] : List Tr).length : Int) from rfl, this, parts_app]
  rfl
 | .neg x, ho, hp, st, m, i, rest, hst, hd => by
  have hP : (Tr.neg x).post = x.post ++ [(3, 0, [], ())] := rfl
  rw [hP, List.append_assoc] at hd
  rw [hP] at hst ⊢
  simp only [List.length_append, List.length_cons, List.length_nil] at hst ⊢
  have hx := print_run e he n x ho hp st (m + 1) i ((3, 0, [], ()) :: rest) (by omega) hd
  rw [show m + (x.post.length + (0 + 1)) = m + 1 + x.post.length by omega, hx]
  have hd2 : e.drop (i + x.post.length) = (3, 0, [], ()) :: rest := by
   rw [← List.drop_drop, hd]
   exact List.drop_left' rfl
  obtain ⟨h1, h2, _⟩ := it_at hd2
  have hl := txt_len x ho hp
  rw [expr_Print.l5]
  simp only [dt, Int.toNat_natCast]
  rw [if_pos (by omega), if_pos (by omega), h2]
  dsimp only
  rw [needs_eq, Option.bind_some]
  have e0 : (needsR (3, 0, [], ())).1 = 1 := rfl
  have hpl : (parts (st ++ [x])).length = st.length + 1 := by rw [parts_len]; simp
  have hw : IntKind.i64.wrap (((parts (st ++ [x])).length : Int) - 1) = (st.length : Int) := by rw [hpl, w64 (by omega)]; omega
  have hon : ((parts (st ++ [x])).take (parts (st ++ [x])).length).drop st.length = [(x.txt, (x.tight : Int), ())] := by
   rw [List.take_length, parts_app]
   exact List.drop_left' (parts_len st)
  dsimp only
  rw [e0, hw, if_pos (by rw [hpl]; omega), if_neg (show ¬ (3 : Int) = 1 by decide), if_neg (show ¬ (3 : Int) = 2 by decide), if_pos rfl]
  simp only [Int.toNat_natCast, hon]
  rw [if_pos (by simp), show ([(x.txt, (x.tight : Int), ())] : List (Str × Int × Unit)).getD (0 : Int).toNat (([] : Str), ((0 : Int), ())) = (x.txt, (x.tight : Int), ()) from rfl]
  dsimp only
  rw [show (2 : Int) = ((2 : Nat) : Int) from rfl, pat_eq x.txt (by omega), Option.bind_some]
  dsimp only
  have hb := brkT_len (decide (x.tight < 2)) x.txt
  rw [if_pos (by simp; omega)]
  have := j23_eq n (expr_Print.l5 n m) st [x] e (i + x.post.length) he h1 ([45] ++ brkT (decide (x.tight < 2)) x.txt) 2 (by simp; omega)
  rw [show (1 : Int) = (([x] : List Tr).length : Int) from rfl, show ((2 : Nat) : Int) = 2 from rfl, this, parts_app]
  rfl
 | .br x, _, hp, _, _, _, _, _, _ => hp.elim
 | .bin o a b, ho, hp, st, m, i, rest, hst, hd => by
  have hP : (Tr.bin o a b).post = a.post ++ b.post ++ [(o.kind, 0, [], ())] := rfl
  rw [hP, List.append_assoc, List.append_assoc] at hd
  rw [hP] at hst ⊢
  simp only [List.length_append, List.length_cons, List.length_nil] at hst ⊢
  have hxa := print_run e he n a ho.1 hp.1 st (m + 1 + b.post.length) i (b.post ++ ((o.kind, 0, [], ()) :: rest)) (by omega) hd
  have hd2 : e.drop (i + a.post.length) = b.post ++ ((o.kind, 0, [], ()) :: rest) := by
   rw [← List.drop_drop, hd]
   exact List.drop_left' rfl
  have hxb := print_run e he n b ho.2 hp.2 (st ++ [a]) (m + 1) (i + a.post.length) ((o.kind, 0, [], ()) :: rest) (by simp; omega) hd2
  rw [show m + (a.post.length + b.post.length + (0 + 1)) = m + 1 + b.post.length + a.post.length by omega, hxa, hxb]
  have hd3 : e.drop (i + a.post.length + b.post.length) = (o.kind, 0, [], ()) :: rest := by
   rw [← List.drop_drop, hd2]
   exact List.drop_left' rfl
  obtain ⟨h1, h2, _⟩ := it_at hd3
  have hla := txt_len a ho.1 hp.1
  have hlb := txt_len b ho.2 hp.2
  rw [expr_Print.l5]
  simp only [dt, Int.toNat_natCast]
  rw [if_pos (by omega), if_pos (by omega), h2]
  dsimp only
  rw [needs_eq, Option.bind_some]
  have e0 : (needsR (o.kind, 0, [], ())).1 = 2 := by cases o <;> rfl
  have hpl : (parts (st ++ [a] ++ [b])).length = st.length + 2 := by rw [parts_len]; simp
  have hw : IntKind.i64.wrap (((parts (st ++ [a] ++ [b])).length : Int) - 2) = (st.length : Int) := by rw [hpl, w64 (by omega)]; omega
  have hon : ((parts (st ++ [a] ++ [b])).take (parts (st ++ [a] ++ [b])).length).drop st.length = [(a.txt, (a.tight : Int), ()), (b.txt, (b.tight : Int), ())] := by
   rw [List.take_length, List.append_assoc, parts_app]
   exact List.drop_left' (parts_len st)
  dsimp only
  rw [e0, hw, if_pos (by rw [hpl]; omega), if_neg (show ¬ o.kind = 1 by cases o <;> decide), if_neg (show ¬ o.kind = 2 by cases o <;> decide), if_neg (show ¬ o.kind = 3 by cases o <;> decide)]
  simp only [Int.toNat_natCast, hon]
  have g0 : ([(a.txt, (a.tight : Int), ()), (b.txt, (b.tight : Int), ())] : List (Str × Int × Unit)).getD (0 : Int).toNat (([] : Str), ((0 : Int), ())) = (a.txt, (a.tight : Int), ()) := rfl
  have g1 : ([(a.txt, (a.tight : Int), ()), (b.txt, (b.tight : Int), ())] : List (Str × Int × Unit)).getD (1 : Int).toNat (([] : Str), ((0 : Int), ())) = (b.txt, (b.tight : Int), ()) := rfl
  simp only [g0, g1]
  have hb0 := brkT_len (decide (a.tight < 0)) a.txt
  have hb1 := brkT_len (decide (a.tight < 1)) a.txt
  have hc1 := brkT_len (decide (b.tight < 1)) b.txt
  have hc2 := brkT_len (decide (b.tight < 2)) b.txt
  have t0 : expr_part_at.g a.txt (a.tight : Int) (0 : Int) = some (brkT (decide (a.tight < 0)) a.txt, ()) := pat_eq a.txt (by omega) a.tight 0
  have t1 : expr_part_at.g a.txt (a.tight : Int) (1 : Int) = some (brkT (decide (a.tight < 1)) a.txt, ()) := pat_eq a.txt (by omega) a.tight 1
  have u1 : expr_part_at.g b.txt (b.tight : Int) (1 : Int) = some (brkT (decide (b.tight < 1)) b.txt, ()) := pat_eq b.txt (by omega) b.tight 1
  have u2 : expr_part_at.g b.txt (b.tight : Int) (2 : Int) = some (brkT (decide (b.tight < 2)) b.txt, ()) := pat_eq b.txt (by omega) b.tight 2
  have fin := fun s k => j23_eq n (expr_Print.l5 n m) st [a, b] e (i + a.post.length + b.post.length) he h1 s k (by have := Tr.post_pos a; have := Tr.post_pos b; simp only [List.length_cons, List.length_nil]; omega)
  have hab : st ++ [a] ++ [b] = st ++ [a, b] := by simp
  rw [hab]
  cases o with
  | add =>
   rw [if_pos (show Opr.add.kind = 4 from rfl), if_pos (by simp), t0, Option.bind_some]
   dsimp only [Opr.tight]
   rw [if_pos (by simp only [List.length_append, List.length_cons, List.length_nil]; omega), if_pos (by simp), u1, Option.bind_some]
   dsimp only
   rw [if_pos (by simp only [List.length_append, List.length_cons, List.length_nil]; omega), show (2 : Int) = (([a, b] : List Tr).length : Int) from rfl, fin, parts_app, List.append_assoc, show i + a.post.length + b.post.length + 1 = i + (a.post.length + b.post.length + (0 + 1)) by omega]
   rfl
  | sub =>
   rw [if_neg (show ¬ Opr.sub.kind = 4 by decide), if_pos (show Opr.sub.kind = 5 from rfl), if_pos (by simp), t0, Option.bind_some]
   dsimp only [Opr.tight]
   rw [if_pos (by simp only [List.length_append, List.length_cons, List.length_nil]; omega), if_pos (by simp), u1, Option.bind_some]
   dsimp only
   rw [if_pos (by simp only [List.length_append, List.length_cons, List.length_nil]; omega), show (2 : Int) = (([a, b] : List Tr).length : Int) from rfl, fin, parts_app, List.append_assoc, show i + a.post.length + b.post.length + 1 = i + (a.post.length + b.post.length + (0 + 1)) by omega]
   rfl
  | mul =>
   rw [if_neg (show ¬ Opr.mul.kind = 4 by decide), if_neg (show ¬ Opr.mul.kind = 5 by decide), if_pos (show Opr.mul.kind = 6 from rfl), if_pos (by simp), t1, Option.bind_some]
   dsimp only [Opr.tight]
   rw [if_pos (by simp only [List.length_append, List.length_cons, List.length_nil]; omega), if_pos (by simp), u2, Option.bind_some]
   dsimp only
   rw [if_pos (by simp only [List.length_append, List.length_cons, List.length_nil]; omega), show (2 : Int) = (([a, b] : List Tr).length : Int) from rfl, fin, parts_app, List.append_assoc, show i + a.post.length + b.post.length + 1 = i + (a.post.length + b.post.length + (0 + 1)) by omega]
   rfl
theorem eprint_eq {t : Tr} (ho : t.ok) (hp : t.plain) (hw : wellL t.post) (hl : t.post.length ≤ 64) : expr_Print.g t.post = some (t.txt, 0, ()) := by
 unfold expr_Print.g expr_Print.f
 rw [well_eq t.post (by omega), well_of hw hl, Option.bind_some]
 dsimp only
 rw [if_neg (show ¬ (!true) = true by decide)]
 obtain ⟨N, hN⟩ : ∃ N, 1000 + t.post.length = N + 1 + t.post.length := ⟨999, by omega⟩
 rw [hN]
 have := print_run t.post (by omega) (N + 1 + t.post.length) t ho hp [] (N + 1) 0 [] (by simp; omega) (by simp)
 rw [show parts [] = [] from rfl, show ((0 : Nat) : Int) = 0 from rfl] at this
 rw [this, expr_Print.l5]
 simp only [dt]
 rw [if_neg (by omega), if_pos (by rw [parts_len]; simp)]
 rfl
end Rv
namespace Rv
open Go
abbrev R := rec_expr_parser_sum
abbrev dTok : TokL := ((0 : Int), ((0 : Int), (([] : Str), ((0 : Int), ()))))
theorem next_at (l : List TokL) (p : Nat) (out : List Item) (hp : p < l.length) : expr_parser_next.g l p out 0 = some ((l.getD p dTok).1, (l.getD p dTok).2.1, (l.getD p dTok).2.2.1, (l.getD p dTok).2.2.2.1, true, l, (p : Int), out, 0, ()) := by
 unfold expr_parser_next.g expr_parser_next.f
 simp only [df, dt]
 rw [if_pos (by simp), if_pos (by omega), if_neg (by omega), if_pos (by omega), Int.toNat_natCast]
theorem next_end (l : List TokL) (p : Nat) (out : List Item) (hp : l.length ≤ p) : expr_parser_next.g l p out 0 = some (0, 0, [], 0, false, l, (p : Int), out, 0, ()) := by
 unfold expr_parser_next.g expr_parser_next.f
 simp only [df, dt]
 rw [if_pos (by simp), if_pos (by omega), if_pos (by omega)]
theorem next_err (l : List TokL) (p : Int) (out : List Item) (e : Int) (he : e ≠ 0) : expr_parser_next.g l p out e = some (0, 0, [], 0, false, l, p, out, e, ()) := by
 unfold expr_parser_next.g expr_parser_next.f
 simp only [df]
 rw [if_neg (by simpa using he)]
theorem sign_loop (n : Nat) (all : List Str) (hall : all.length ≤ 100) (ok : Bool) (l : List TokL) (p : Int) (out : List Item) (e k a : Int) (tx : Str) (nn : Int) : ∀ (m i : Nat), i ≤ all.length → all.length - i < m →
  expr_parser_sign.l3 n m ok all (all.length : Int) (i : Int) l p out e k a tx nn = if ok = true ∧ k = 3 ∧ tx ∈ all.drop i then some (tx, true, l, IntKind.i64.wrap (p + 1), out, e, ()) else some ([], false, l, p, out, e, ()) := by
 intro m
 induction m with
 | zero => intro i _ h; omega
 | succ m ih =>
  intro i hi hm
  rw [expr_parser_sign.l3]
  simp only [dt, expr_parser_sign.j8, Int.toNat_natCast]
  by_cases h : i < all.length
  ·have hd : all.drop i = all.getD i [] :: all.drop (i + 1) := by
    rw [List.drop_eq_getElem_cons h, List.getD_eq_getElem?_getD, List.getElem?_eq_getElem h]; rfl
   have hih := ih (i + 1) (by omega) (by omega)
   rw [if_pos (by omega), if_pos (by omega), w64 (x := (i : Int) + 1) (by omega), show (i : Int) + 1 = ((i + 1 : Nat) : Int) by omega, hih, hd]
   generalize all.getD i [] = s
   by_cases h1 : ok = true
   ·rw [if_pos h1]
    by_cases h2 : k = 3
    ·rw [if_pos h2]
     by_cases h3 : tx = s
     ·rw [if_pos h3, if_pos ⟨h1, h2, by simp [h3]⟩, h3]
     ·rw [if_neg h3]
      by_cases h4 : tx ∈ all.drop (i + 1)
      ·rw [if_pos ⟨h1, h2, h4⟩, if_pos ⟨h1, h2, by simp [h4]⟩]
      ·rw [if_neg (fun h => h4 h.2.2), if_neg (fun h => by simp [h3, h4] at h)]
    ·rw [if_neg h2, if_neg (fun h => h2 h.2.1), if_neg (fun h => h2 h.2.1)]
   ·rw [if_neg h1, if_neg (fun h => h1 h.1), if_neg (fun h => h1 h.1)]
  ·have : i = all.length := by omega
   subst this
   rw [if_neg (by omega), if_neg (fun h => by simp at h)]
theorem sign_err (all : List Str) (hall : all.length ≤ 100) (l : List TokL) (p : Int) (out : List Item) (e : Int) (he : e ≠ 0) : expr_parser_sign.g all l p out e = some ([], false, l, p, out, e, ()) := by
 unfold expr_parser_sign.g expr_parser_sign.f
 rw [next_err l p out e he, Option.bind_some]
 have := sign_loop (1000 + all.length + l.length + p.toNat + out.length + e.toNat) all hall false l p out e 0 0 [] 0 (1000 + all.length + l.length + p.toNat + out.length + e.toNat) 0 (by omega) (by omega)
 rw [if_neg (fun h => by cases h.1)] at this
 exact this
def At (l : List TokL) (p : Nat) (k : List Bt) : Prop := (l.drop p).map bare = k
theorem At.cons {l : List TokL} {p : Nat} {b : Bt} {k : List Bt} (h : At l p (b :: k)) : p < l.length ∧ bare (l.getD p dTok) = b ∧ At l (p + 1) k := by
 unfold At at h
 have hp : p < l.length := by
  apply Classical.byContradiction
  intro hn
  rw [List.drop_eq_nil_of_le (by omega)] at h
  cases h
 have hd : l.drop p = l.getD p dTok :: l.drop (p + 1) := by
  rw [List.drop_eq_getElem_cons hp, List.getD_eq_getElem?_getD, List.getElem?_eq_getElem hp]; rfl
 rw [hd, List.map_cons, List.cons.injEq] at h
 exact ⟨hp, h.1, h.2⟩
theorem At.app {l : List TokL} {k' : List Bt} : ∀ {k : List Bt} {p : Nat}, At l p (k ++ k') → At l (p + k.length) k' ∧ p + k.length ≤ l.length ∨ k = []
 | [], _, _ => .inr rfl
 | b :: k, p, h => by
  obtain ⟨h1, _, h3⟩ := At.cons h
  rcases At.app h3 with ⟨h4, h5⟩ | rfl
  ·left
   rw [List.length_cons, show p + (k.length + 1) = p + 1 + k.length by omega]
   exact ⟨h4, h5⟩
  ·left; exact ⟨h3, by simp; omega⟩
theorem At.app' {l : List TokL} {k k' : List Bt} {p : Nat} (h : At l p (k ++ k')) : At l (p + k.length) k' := by
 rcases At.app h with ⟨h, _⟩ | rfl
 ·exact h
 ·exact h
theorem At.len {l : List TokL} {k k' : List Bt} {p : Nat} (h : At l p (k ++ k')) (hk : k ≠ []) : p + k.length ≤ l.length := by
 rcases At.app h with ⟨_, h⟩ | rfl
 ·exact h
 ·exact absurd rfl hk
def noS (all : List Str) (k : List Bt) : Prop := ∀ b r, k = b :: r → ¬ (b.1 = 3 ∧ b.2.1 ∈ all)
theorem sign_yes (all : List Str) (hall : all.length ≤ 100) {l : List TokL} {p : Nat} {s : Str} {v : Int} {k : List Bt} (h : At l p ((3, s, v) :: k)) (hl : l.length ≤ 1000000) (hs : s ∈ all) (out : List Item) : expr_parser_sign.g all l p out 0 = some (s, true, l, ((p + 1 : Nat) : Int), out, 0, ()) := by
 obtain ⟨h1, h2, _⟩ := At.cons h
 unfold expr_parser_sign.g expr_parser_sign.f
 rw [next_at l p out h1, Option.bind_some]
 simp only [bare, Prod.mk.injEq] at h2
 have := sign_loop (1000 + all.length + l.length + (p : Int).toNat + out.length + (0 : Int).toNat) all hall true l p out 0 (l.getD p dTok).1 (l.getD p dTok).2.1 (l.getD p dTok).2.2.1 (l.getD p dTok).2.2.2.1 (1000 + all.length + l.length + (p : Int).toNat + out.length + (0 : Int).toNat) 0 (by omega) (by omega)
 rw [if_pos ⟨rfl, h2.1, by rw [h2.2.1]; simpa using hs⟩, h2.2.1, w64 (by omega)] at this
 dsimp only
 rw [h2.2.1]
 exact this
theorem sign_no (all : List Str) (hall : all.length ≤ 100) {l : List TokL} {p : Nat} {k : List Bt} (h : At l p k) (hs : noS all k) (out : List Item) : expr_parser_sign.g all l p out 0 = some ([], false, l, (p : Int), out, 0, ()) := by
 unfold expr_parser_sign.g expr_parser_sign.f
 cases k with
 | nil =>
  have hp : l.length ≤ p := by
   unfold At at h
   have := congrArg List.length h
   simp at this; omega
  rw [next_end l p out hp, Option.bind_some]
  have := sign_loop (1000 + all.length + l.length + (p : Int).toNat + out.length + (0 : Int).toNat) all hall false l p out 0 0 0 [] 0 (1000 + all.length + l.length + (p : Int).toNat + out.length + (0 : Int).toNat) 0 (by omega) (by omega)
  rw [if_neg (fun h => by cases h.1)] at this
  exact this
 | cons b r =>
  obtain ⟨h1, h2, _⟩ := At.cons h
  rw [next_at l p out h1, Option.bind_some]
  have hb := hs b r rfl
  have := sign_loop (1000 + all.length + l.length + (p : Int).toNat + out.length + (0 : Int).toNat) all hall true l p out 0 (l.getD p dTok).1 (l.getD p dTok).2.1 (l.getD p dTok).2.2.1 (l.getD p dTok).2.2.2.1 (1000 + all.length + l.length + (p : Int).toNat + out.length + (0 : Int).toNat) 0 (by omega) (by omega)
  rw [if_neg (fun h => hb (by rw [← h2]; exact ⟨h.2.1, h.2.2⟩))] at this
  exact this
theorem put_eq (a b : Int) (c : Str) (l : List TokL) (p : Int) (out : List Item) (e : Int) (ho : out.length ≤ 1000000) : expr_parser_put.g a b c l p out e = some (l, p, out ++ [(a, b, c, ())], e, ()) := by
 unfold expr_parser_put.g expr_parser_put.f
 rw [if_pos (by simp; omega)]
theorem fail_eq (x : Int) (l : List TokL) (p : Int) (out : List Item) : expr_parser_fail.g x l p out 0 = some (l, p, out, x, ()) := by
 unfold expr_parser_fail.g expr_parser_fail.f
 rw [if_pos (by decide)]
abbrev sMul : List Str := [[42]]
abbrev sAdd : List Str := [[43], [45]]
def okF (t : Tr) : Prop := ∀ (l : List TokL) (p : Nat) (out : List Item) (rest : List Bt) (d q : Nat), l.length ≤ 1000000 → out.length + t.post.length ≤ 1000000 → At l p (t.toksA 2 ++ rest) → d ≤ 9 → 6 * (9 - d) + 1 ≤ q →
 (d + t.depA 2 ≤ 8 → (R q).expr_parser_factor (d : Int) l p out 0 = some (l, ((p + (t.toksA 2).length : Nat) : Int), out ++ t.post, 0, ())) ∧
 (¬ d + t.depA 2 ≤ 8 → ∃ (p' : Int) (out' : List Item), (R q).expr_parser_factor (d : Int) l p out 0 = some (l, p', out', 24, ()) ∧ out'.length ≤ out.length + t.post.length)
def mc : Tr → Nat
 | .bin .mul a _ => mc a + 1
 | _ => 0
def okT (t : Tr) : Prop := ∀ (l : List TokL) (p : Nat) (out : List Item) (rest : List Bt) (d q m n : Nat), l.length ≤ 1000000 → out.length + t.post.length ≤ 1000000 → At l p (t.toksA 1 ++ rest) → d ≤ 9 → 6 * (9 - d) + 2 ≤ q → mc t < m →
 (d + t.depA 1 ≤ 8 → ((R q).expr_parser_sum_1_1 (d : Int) l p out 0).bind (fun y1 => expr_parser_row_c201.l1 n (R q) m sMul y1.2.2.1 y1.2.2.2.1 y1.2.2.2.2.1 y1.2.2.2.2.2.1 y1.2.1) = expr_parser_row_c201.l1 n (R q) (m - mc t) sMul l ((p + (t.toksA 1).length : Nat) : Int) (out ++ t.post) 0 (d : Int)) ∧
 (¬ d + t.depA 1 ≤ 8 → ∃ (p' : Int) (out' : List Item), ((R q).expr_parser_sum_1_1 (d : Int) l p out 0).bind (fun y1 => expr_parser_row_c201.l1 n (R q) m sMul y1.2.2.1 y1.2.2.2.1 y1.2.2.2.2.1 y1.2.2.2.2.2.1 y1.2.1) = some (l, p', out', 24, (), (d : Int), ()) ∧ out'.length ≤ out.length + t.post.length)
def ac : Tr → Nat
 | .bin .add a _ => ac a + 1
 | .bin .sub a _ => ac a + 1
 | _ => 0
def okS (t : Tr) : Prop := ∀ (l : List TokL) (p : Nat) (out : List Item) (rest : List Bt) (d q m n : Nat), l.length ≤ 1000000 → out.length + t.post.length ≤ 1000000 → At l p (t.toks ++ rest) → noS sMul rest → d ≤ 9 → 6 * (9 - d) + 4 ≤ q → ac t < m →
 (d + t.dep ≤ 8 → ((R q).expr_parser_sum_1 (d : Int) l p out 0).bind (fun y1 => expr_parser_row_c200.l1 n (R q) m sAdd y1.2.2.1 y1.2.2.2.1 y1.2.2.2.2.1 y1.2.2.2.2.2.1 y1.2.1) = expr_parser_row_c200.l1 n (R q) (m - ac t) sAdd l ((p + t.toks.length : Nat) : Int) (out ++ t.post) 0 (d : Int)) ∧
 (¬ d + t.dep ≤ 8 → ∃ (p' : Int) (out' : List Item), ((R q).expr_parser_sum_1 (d : Int) l p out 0).bind (fun y1 => expr_parser_row_c200.l1 n (R q) m sAdd y1.2.2.1 y1.2.2.2.1 y1.2.2.2.2.1 y1.2.2.2.2.2.1 y1.2.1) = some (l, p', out', 24, (), (d : Int), ()) ∧ out'.length ≤ out.length + t.post.length)
theorem mc_le : ∀ t : Tr, mc t ≤ t.post.length
 | .num _ => Nat.zero_le _
 | .nam _ => Nat.zero_le _
 | .neg _ => Nat.zero_le _
 | .bin .mul a b => by have := mc_le a; simp [mc, Tr.post]; omega
 | .bin .add _ _ => Nat.zero_le _
 | .bin .sub _ _ => Nat.zero_le _
 | .br _ => Nat.zero_le _
end Rv
namespace Rv
open Go
theorem fail_err (x : Int) (l : List TokL) (p : Int) (out : List Item) (e : Int) (he : e ≠ 0) : expr_parser_fail.g x l p out e = some (l, p, out, e, ()) := by
 unfold expr_parser_fail.g expr_parser_fail.f
 rw [if_neg (by simpa using he)]
theorem l52_err (n : Nat) (r : Rec_expr_parser_sum) (m : Nat) (l : List TokL) (p : Int) (out : List Item) (e d : Int) (he : e ≠ 0) : expr_parser_row_c201.l1 n r (m + 1) sMul l p out e d = some (l, p, out, e, (), d, ()) := by
 rw [expr_parser_row_c201.l1, sign_err sMul (by simp) l p out e he, Option.bind_some]
 rfl
theorem l51_err (n : Nat) (r : Rec_expr_parser_sum) (m : Nat) (l : List TokL) (p : Int) (out : List Item) (e d : Int) (he : e ≠ 0) : expr_parser_row_c200.l1 n r (m + 1) sAdd l p out e d = some (l, p, out, e, (), d, ()) := by
 rw [expr_parser_row_c200.l1, sign_err sAdd (by simp) l p out e he, Option.bind_some]
 rfl
theorem l52_exit (n : Nat) (r : Rec_expr_parser_sum) (m : Nat) {l : List TokL} {p : Nat} {k : List Bt} (h : At l p k) (hs : noS sMul k) (out : List Item) (d : Int) : expr_parser_row_c201.l1 n r (m + 1) sMul l p out 0 d = some (l, (p : Int), out, 0, (), d, ()) := by
 rw [expr_parser_row_c201.l1, sign_no sMul (by simp) h hs out, Option.bind_some]
 rfl
theorem l51_exit (n : Nat) (r : Rec_expr_parser_sum) (m : Nat) {l : List TokL} {p : Nat} {k : List Bt} (h : At l p k) (hs : noS sAdd k) (out : List Item) (d : Int) : expr_parser_row_c200.l1 n r (m + 1) sAdd l p out 0 d = some (l, (p : Int), out, 0, (), d, ()) := by
 rw [expr_parser_row_c200.l1, sign_no sAdd (by simp) h hs out, Option.bind_some]
 rfl
theorem F_deep (q : Nat) (l : List TokL) (p : Int) (out : List Item) : (R (q + 1)).expr_parser_factor 9 l p out 0 = some (l, p, out, 24, ()) := by
 show expr_parser_factor.h (R q) 9 l p out 0 = _
 unfold expr_parser_factor.h expr_parser_factor.f
 rw [if_neg (by decide), if_pos (by decide), fail_eq, Option.bind_some]
theorem F_intro {t : Tr} (H : ∀ (l : List TokL) (p : Nat) (out : List Item) (rest : List Bt) (d q : Nat), l.length ≤ 1000000 → out.length + t.post.length ≤ 1000000 → At l p (t.toksA 2 ++ rest) → d ≤ 8 → 6 * (9 - d) ≤ q →
  (d + t.depA 2 ≤ 8 → expr_parser_factor.h (R q) (d : Int) l p out 0 = some (l, ((p + (t.toksA 2).length : Nat) : Int), out ++ t.post, 0, ())) ∧
  (¬ d + t.depA 2 ≤ 8 → ∃ (p' : Int) (out' : List Item), expr_parser_factor.h (R q) (d : Int) l p out 0 = some (l, p', out', 24, ()) ∧ out'.length ≤ out.length + t.post.length)) : okF t := by
 intro l p out rest d q hl ho hat hd hq
 obtain ⟨q, rfl⟩ : ∃ q', q = q' + 1 := ⟨q - 1, by omega⟩
 by_cases h9 : d = 9
 ·subst h9
  refine ⟨fun h => absurd h (by omega), fun _ => ⟨(p : Int), out, F_deep q l p out, by omega⟩⟩
 ·exact H l p out rest d q hl ho hat (by omega) (by omega)
theorem noS_kind {all : List Str} {b : Bt} {r : List Bt} (h : b.1 ≠ 3) : noS all (b :: r) := fun b' r' e h' => by cases e; exact h h'.1
theorem noS_text {all : List Str} {b : Bt} {r : List Bt} (h : b.2.1 ∉ all) : noS all (b :: r) := fun b' r' e h' => by cases e; exact h h'.2
theorem F_num (n : Int) : okF (.num n) := F_intro fun l p out rest d q hl ho hat hd hq => by
 have hat : At l p ((2, Lib.itoa n, n) :: rest) := hat
 obtain ⟨h1, h2, _⟩ := At.cons hat
 simp only [bare, Prod.mk.injEq] at h2
 refine ⟨fun _ => ?_, fun h => absurd (show d + (Tr.num n).depA 2 ≤ 8 from hd) h⟩
 unfold expr_parser_factor.h expr_parser_factor.f
 rw [if_neg (by decide), if_neg (by simp; omega), sign_no [[45], [40]] (by simp) hat (noS_kind (show (2 : Int) ≠ 3 by decide)) out, Option.bind_some]
 dsimp only
 rw [if_neg (show ¬ decide (([] : Str) = [45]) = true by decide), if_neg (show ¬ decide (([] : Str) = [40]) = true by decide), next_at l p out h1, Option.bind_some]
 dsimp only
 rw [if_pos rfl, if_pos (by rw [h2.1]; decide), h2.2.2, put_eq _ _ _ _ _ _ _ (by omega), Option.bind_some]
 unfold expr_parser_factor.j19
 dsimp only
 rw [w64 (by omega)]
 rfl
theorem F_nam {s : Str} (hs : labelOk s = true) : okF (.nam s) := F_intro fun l p out rest d q hl ho hat hd hq => by
 have hat : At l p ((1, s, 0) :: rest) := hat
 obtain ⟨h1, h2, _⟩ := At.cons hat
 simp only [bare, Prod.mk.injEq] at h2
 refine ⟨fun _ => ?_, fun h => absurd (show d + (Tr.nam s).depA 2 ≤ 8 from hd) h⟩
 unfold expr_parser_factor.h expr_parser_factor.f
 rw [if_neg (by decide), if_neg (by simp; omega), sign_no [[45], [40]] (by simp) hat (noS_kind (show (1 : Int) ≠ 3 by decide)) out, Option.bind_some]
 dsimp only
 rw [if_neg (show ¬ decide (([] : Str) = [45]) = true by decide), if_neg (show ¬ decide (([] : Str) = [40]) = true by decide), next_at l p out h1, Option.bind_some]
 dsimp only
 rw [if_pos rfl, if_neg (by rw [h2.1]; decide), if_pos rfl, if_pos (by rw [h2.1]; decide), h2.2.1, label_eq, hs, Option.bind_some]
 dsimp only
 rw [if_pos rfl, put_eq _ _ _ _ _ _ _ (by omega), Option.bind_some]
 unfold expr_parser_factor.j19
 dsimp only
 rw [w64 (by omega)]
 rfl
theorem F_neg {x : Tr} (hx : okF x) : okF (.neg x) := F_intro fun l p out rest d q hl ho hat hd hq => by
 have hat : At l p (tNeg :: (x.toksA 2 ++ rest)) := by
  have e : (Tr.neg x).toksA 2 ++ rest = tNeg :: (x.toksA 2 ++ rest) := rfl
  rw [e] at hat; exact hat
 obtain ⟨h1, _, hat2⟩ := At.cons hat
 have hpost : (Tr.neg x).post = x.post ++ [(3, 0, [], ())] := rfl
 have hdep : (Tr.neg x).depA 2 = 1 + x.depA 2 := rfl
 have htl : ((Tr.neg x).toksA 2).length = 1 + (x.toksA 2).length := by
  show (tNeg :: x.toksA 2).length = _
  rw [List.length_cons, Nat.add_comm]
 rw [hpost] at ho
 simp only [List.length_append, List.length_cons, List.length_nil] at ho
 obtain ⟨g1, g2⟩ := hx l (p + 1) out rest (d + 1) q hl (by omega) hat2 (by omega) (by omega)
 rw [hdep, htl, hpost]
 unfold expr_parser_factor.h expr_parser_factor.f
 rw [if_neg (by decide), if_neg (by simp; omega), sign_yes [[45], [40]] (by simp) hat hl (by simp) out, Option.bind_some]
 dsimp only
 rw [if_pos (show decide (([45] : Str) = [45]) = true by decide), w64 (by omega), show (d : Int) + 1 = ((d + 1 : Nat) : Int) by omega]
 constructor
 ·intro h
  rw [g1 (by omega), Option.bind_some]
  dsimp only
  rw [put_eq _ _ _ _ _ _ _ (by simp; omega), Option.bind_some]
  dsimp only
  rw [List.append_assoc, Nat.add_assoc]
 ·intro h
  obtain ⟨p', out', g3, g4⟩ := g2 (by omega)
  rw [g3, Option.bind_some]
  dsimp only
  rw [put_eq _ _ _ _ _ _ _ (by omega), Option.bind_some]
  exact ⟨p', _, rfl, by simp; omega⟩
theorem brk_len (b : Bool) (l : List Bt) : l.length ≤ (brk b l).length := by unfold brk; split <;> simp <;> omega
theorem mc_toks : ∀ t : Tr, mc t ≤ t.toks.length
 | .num _ => Nat.zero_le _
 | .nam _ => Nat.zero_le _
 | .neg _ => Nat.zero_le _
 | .bin .mul a b => by
  have h1 := mc_toks a
  have h2 := brk_len (decide (a.tight < Opr.mul.tight)) a.toks
  simp only [mc, Tr.toks, List.length_append, List.length_cons]; omega
 | .bin .add _ _ => Nat.zero_le _
 | .bin .sub _ _ => Nat.zero_le _
 | .br _ => Nat.zero_le _
theorem ac_toks : ∀ t : Tr, ac t ≤ t.toks.length
 | .num _ => Nat.zero_le _
 | .nam _ => Nat.zero_le _
 | .neg _ => Nat.zero_le _
 | .bin .mul _ _ => Nat.zero_le _
 | .bin .add a b => by
  have h1 := ac_toks a
  have h2 := brk_len (decide (a.tight < Opr.add.tight)) a.toks
  simp only [ac, Tr.toks, List.length_append, List.length_cons]; omega
 | .bin .sub a b => by
  have h1 := ac_toks a
  have h2 := brk_len (decide (a.tight < Opr.sub.tight)) a.toks
  simp only [ac, Tr.toks, List.length_append, List.length_cons]; omega
 | .br _ => Nat.zero_le _
theorem toks_ne (t : Tr) : t.toks ≠ [] := by cases t <;> simp [Tr.toks]
theorem toksA_ne (lv : Nat) (t : Tr) : t.toksA lv ≠ [] := by
 intro h
 have h1 := brk_len (decide (t.tight < lv)) t.toks
 have h2 : (t.toksA lv).length = 0 := by rw [h]; rfl
 have h3 : t.toks.length ≠ 0 := fun h => toks_ne t (List.length_eq_zero_iff.1 h)
 unfold Tr.toksA at h2
 omega
theorem W_of_T {t : Tr} (hT : okT t) (l : List TokL) (p : Nat) (out : List Item) (rest : List Bt) (d q : Nat) (hl : l.length ≤ 1000000) (ho : out.length + t.post.length ≤ 1000000) (hat : At l p (t.toksA 1 ++ rest)) (hr : noS sMul rest) (hd : d ≤ 9) (hq : 6 * (9 - d) + 4 ≤ q) :
  (d + t.depA 1 ≤ 8 → (R q).expr_parser_sum_1 (d : Int) l p out 0 = some ((), (d : Int), l, ((p + (t.toksA 1).length : Nat) : Int), out ++ t.post, 0, ())) ∧
  (¬ d + t.depA 1 ≤ 8 → ∃ (p' : Int) (out' : List Item), (R q).expr_parser_sum_1 (d : Int) l p out 0 = some ((), (d : Int), l, p', out', 24, ()) ∧ out'.length ≤ out.length + t.post.length) := by
 obtain ⟨q, rfl⟩ : ∃ q', q = q' + 2 := ⟨q - 2, by omega⟩
 have hmc := mc_le t
 show (_ → expr_parser_sum_1.h (R (q + 1)) d l p out 0 = _) ∧ (_ → ∃ p' out', expr_parser_sum_1.h (R (q + 1)) d l p out 0 = _ ∧ _)
 unfold expr_parser_sum_1.h expr_parser_sum_1.f
 have e : (R (q + 1)).expr_parser_row_c201 sMul l (p : Int) out 0 (d : Int) = expr_parser_row_c201.h (R q) sMul l (p : Int) out 0 (d : Int) := rfl
 rw [e]
 unfold expr_parser_row_c201.h expr_parser_row_c201.f
 have hN : ∃ N, 1000 + sMul.length + l.length + (p : Int).toNat + out.length + (0 : Int).toNat + (d : Int).toNat = N := ⟨_, rfl⟩
 obtain ⟨N, hN⟩ := hN
 rw [hN]
 have hlen := At.len hat (toksA_ne 1 t)
 have h1 := mc_toks t
 have h2 := brk_len (decide (t.tight < 1)) t.toks
 have hbig : mc t < N := by unfold Tr.toksA at hlen; omega
 obtain ⟨g1, g2⟩ := hT l p out rest d q N N hl ho hat hd (by omega) hbig
 constructor
 ·intro h
  rw [g1 h]
  obtain ⟨m, hm⟩ : ∃ m, N - mc t = m + 1 := ⟨N - mc t - 1, by omega⟩
  rw [hm, l52_exit N (R q) m (At.app' hat) hr, Option.bind_some]
 ·intro h
  obtain ⟨p', out', g3, g4⟩ := g2 h
  rw [g3, Option.bind_some]
  exact ⟨p', out', rfl, g4⟩
theorem T_of_F {t : Tr} (hF : okF t) (hA : t.toksA 1 = t.toksA 2) (hD : t.depA 1 = t.depA 2) (hm0 : mc t = 0) : okT t := by
 intro l p out rest d q m n hl ho hat hd hq hm
 obtain ⟨q, rfl⟩ : ∃ q', q = q' + 1 := ⟨q - 1, by omega⟩
 rw [hA] at hat
 obtain ⟨g1, g2⟩ := hF l p out rest d q hl ho hat hd (by omega)
 have e : (R (q + 1)).expr_parser_sum_1_1 (d : Int) l (p : Int) out 0 = expr_parser_sum_1_1.h (R q) (d : Int) l (p : Int) out 0 := rfl
 rw [e, hA, hD, hm0]
 unfold expr_parser_sum_1_1.h expr_parser_sum_1_1.f
 constructor
 ·intro h
  rw [g1 h, Option.bind_some, Option.bind_some]
  rfl
 ·intro h
  obtain ⟨p', out', g3, g4⟩ := g2 h
  rw [g3, Option.bind_some, Option.bind_some]
  obtain ⟨m, rfl⟩ : ∃ m', m = m' + 1 := ⟨m - 1, by omega⟩
  exact ⟨p', out', l52_err n (R (q + 1)) m l p' out' 24 d (by decide), g4⟩
theorem mx1 {d x y : Nat} (h : d + max x y ≤ 8) : d + x ≤ 8 := by omega
theorem mx2 {d x y : Nat} (h : d + max x y ≤ 8) : d + y ≤ 8 := by omega
theorem mx3 {d x y : Nat} (h : ¬ d + max x y ≤ 8) (h1 : d + x ≤ 8) : ¬ d + y ≤ 8 := by omega
theorem T_mul {a b : Tr} (ha : okT a) (hb : okF b) : okT (.bin .mul a b) := by
 intro l p out rest d q m n hl ho hat hd hq hm
 have hA : (Tr.bin .mul a b).toksA 1 = a.toksA 1 ++ tOp .mul :: b.toksA 2 := rfl
 have hP : (Tr.bin .mul a b).post = a.post ++ b.post ++ [(6, 0, [], ())] := rfl
 have hD : (Tr.bin .mul a b).depA 1 = max (a.depA 1) (b.depA 2) := rfl
 have hM : mc (Tr.bin .mul a b) = mc a + 1 := rfl
 rw [hA, List.append_assoc, List.cons_append] at hat
 rw [hM] at hm
 rw [hP] at ho
 simp only [List.length_append, List.length_cons, List.length_nil] at ho
 obtain ⟨g1, g2⟩ := ha l p out (tOp .mul :: (b.toksA 2 ++ rest)) d q m n hl (by omega) hat hd hq (by omega)
 rw [hA, hP, hD, hM]
 clear hD
 have hat1 := At.app' hat
 obtain ⟨_, _, hat2⟩ := At.cons hat1
 by_cases h1 : d + a.depA 1 ≤ 8
 ·rw [g1 h1]
  obtain ⟨m', hm'⟩ : ∃ m', m - mc a = m' + 1 := ⟨m - mc a - 1, by omega⟩
  rw [hm', expr_parser_row_c201.l1, sign_yes sMul (by simp) hat1 hl (by simp [tOp, Opr.byte]) _, Option.bind_some]
  dsimp only
  rw [if_neg (show ¬ (!true) = true by decide)]
  obtain ⟨q, rfl⟩ : ∃ q', q = q' + 1 := ⟨q - 1, by omega⟩
  obtain ⟨k1, k2⟩ := hb l (p + (a.toksA 1).length + 1) (out ++ a.post) rest d q hl (by simp; omega) hat2 hd (by omega)
  have e : (R (q + 1)).expr_parser_sum_1_1 (d : Int) l ((p + (a.toksA 1).length + 1 : Nat) : Int) (out ++ a.post) 0 = expr_parser_sum_1_1.h (R q) (d : Int) l ((p + (a.toksA 1).length + 1 : Nat) : Int) (out ++ a.post) 0 := rfl
  rw [e]
  unfold expr_parser_sum_1_1.h expr_parser_sum_1_1.f
  constructor
  ·intro h
   rw [k1 (mx2 h), Option.bind_some, Option.bind_some]
   dsimp only
   rw [put_eq _ _ _ _ _ _ _ (by simp; omega), Option.bind_some]
   dsimp only
   have e1 : m - (mc a + 1) = m' := by clear g1 g2 k1 k2; omega
   have e2 : p + (a.toksA 1).length + 1 + (b.toksA 2).length = p + (a.toksA 1 ++ tOp Opr.mul :: b.toksA 2).length := by simp; omega
   rw [e1, e2, List.append_assoc (out ++ a.post), List.append_assoc out, ← List.append_assoc a.post]
   rfl
  ·intro h
   obtain ⟨p', out', k3, k4⟩ := k2 (mx3 h h1)
   rw [k3, Option.bind_some, Option.bind_some]
   dsimp only
   simp only [List.length_append] at k4
   rw [put_eq _ _ _ _ _ _ _ (by omega), Option.bind_some]
   dsimp only
   obtain ⟨m'', rfl⟩ : ∃ k, m' = k + 1 := ⟨m' - 1, by clear g1 g2 k1 k2; omega⟩
   exact ⟨p', _, l52_err n (R (q + 1)) m'' l p' _ 24 d (by decide), by clear g1 g2 k1 k2; simp; omega⟩
 ·constructor
  ·intro h
   exact absurd (mx1 h) h1
  ·intro h
   obtain ⟨p', out', g3, g4⟩ := g2 h1
   exact ⟨p', out', g3, by simp; omega⟩
theorem S_of_T {t : Tr} (hT : okT t) (hA : t.toks = t.toksA 1) (hD : t.dep = t.depA 1) (hm0 : ac t = 0) : okS t := by
 intro l p out rest d q m n hl ho hat hr hd hq hm
 rw [hA] at hat
 obtain ⟨g1, g2⟩ := W_of_T hT l p out rest d q hl ho hat hr hd hq
 rw [hA, hD, hm0]
 constructor
 ·intro h
  rw [g1 h, Option.bind_some]
  rfl
 ·intro h
  obtain ⟨p', out', g3, g4⟩ := g2 h
  rw [g3, Option.bind_some]
  obtain ⟨m, rfl⟩ : ∃ m', m = m' + 1 := ⟨m - 1, by clear g1 g2; omega⟩
  exact ⟨p', out', l51_err n (R q) m l p' out' 24 d (by decide), g4⟩
theorem S_add {o : Opr} (ho' : o = .add ∨ o = .sub) {a b : Tr} (ha : okS a) (hb : okT b) (haA : a.toksA 0 = a.toks) : okS (.bin o a b) := by
 intro l p out rest d q m n hl ho hat hr hd hq hm
 have hA : (Tr.bin o a b).toks = a.toks ++ tOp o :: b.toksA 1 := by
  rcases ho' with rfl | rfl <;> (rw [← haA]; rfl)
 have hP : (Tr.bin o a b).post = a.post ++ b.post ++ [(o.kind, 0, [], ())] := rfl
 have hD : (Tr.bin o a b).dep = max a.dep (b.depA 1) := by
  rcases ho' with rfl | rfl
  ·show max (a.dep + if a.tight < 0 then 1 else 0) (b.dep + if b.tight < 0 + 1 then 1 else 0) = _
   rw [if_neg (Nat.not_lt_zero _)]; rfl
  ·show max (a.dep + if a.tight < 0 then 1 else 0) (b.dep + if b.tight < 0 + 1 then 1 else 0) = _
   rw [if_neg (Nat.not_lt_zero _)]; rfl
 have hM : ac (Tr.bin o a b) = ac a + 1 := by rcases ho' with rfl | rfl <;> rfl
 have hin : [o.byte] ∈ sAdd := by rcases ho' with rfl | rfl <;> decide
 have hno : noS sMul (tOp o :: (b.toksA 1 ++ rest)) := noS_text (by rcases ho' with rfl | rfl <;> decide)
 have hk : (L.kinds [o.byte]).1 = o.kind := by rcases ho' with rfl | rfl <;> rfl
 rw [hA, List.append_assoc, List.cons_append] at hat
 rw [hM] at hm
 rw [hP] at ho
 simp only [List.length_append, List.length_cons, List.length_nil] at ho
 obtain ⟨g1, g2⟩ := ha l p out (tOp o :: (b.toksA 1 ++ rest)) d q m n hl (by omega) hat hno hd hq (by omega)
 rw [hA, hP, hD, hM]
 clear hD
 have hat1 := At.app' hat
 obtain ⟨_, _, hat2⟩ := At.cons hat1
 by_cases h1 : d + a.dep ≤ 8
 ·rw [g1 h1]
  obtain ⟨m', hm'⟩ : ∃ m', m - ac a = m' + 1 := ⟨m - ac a - 1, by clear g1 g2; omega⟩
  rw [hm', expr_parser_row_c200.l1, sign_yes sAdd (by simp) hat1 hl hin _, Option.bind_some]
  dsimp only
  rw [if_neg (show ¬ (!true) = true by decide), hk]
  obtain ⟨k1, k2⟩ := W_of_T hb l (p + a.toks.length + 1) (out ++ a.post) rest d q hl (by simp; clear g1 g2; omega) hat2 hr hd hq
  constructor
  ·intro h
   rw [k1 (mx2 h), Option.bind_some]
   dsimp only
   rw [put_eq _ _ _ _ _ _ _ (by clear g1 g2 k1 k2; simp; omega), Option.bind_some]
   dsimp only
   have e1 : m - (ac a + 1) = m' := by clear g1 g2 k1 k2; omega
   have e2 : p + a.toks.length + 1 + (b.toksA 1).length = p + (a.toks ++ tOp o :: b.toksA 1).length := by clear g1 g2 k1 k2; simp; omega
   rw [e1, e2, List.append_assoc (out ++ a.post), List.append_assoc out, ← List.append_assoc a.post]
  ·intro h
   obtain ⟨p', out', k3, k4⟩ := k2 (mx3 h h1)
   rw [k3, Option.bind_some]
   dsimp only
   simp only [List.length_append] at k4
   rw [put_eq _ _ _ _ _ _ _ (by clear g1 g2 k1 k2; omega), Option.bind_some]
   dsimp only
   obtain ⟨m'', rfl⟩ : ∃ k, m' = k + 1 := ⟨m' - 1, by clear g1 g2 k1 k2; omega⟩
   exact ⟨p', _, l51_err n (R q) m'' l p' _ 24 d (by decide), by clear g1 g2 k1 k2; simp; omega⟩
 ·constructor
  ·intro h
   exact absurd (mx1 h) h1
  ·intro h
   obtain ⟨p', out', g3, g4⟩ := g2 h1
   exact ⟨p', out', g3, by clear g1 g2; simp; omega⟩
theorem sum_of_S {t : Tr} (hS : okS t) (l : List TokL) (p : Nat) (out : List Item) (rest : List Bt) (d q : Nat) (hl : l.length ≤ 1000000) (ho : out.length + t.post.length ≤ 1000000) (hat : At l p (t.toks ++ rest)) (hr : noS sMul rest) (hr2 : noS sAdd rest) (hd : d ≤ 9) (hq : 6 * (9 - d) + 6 ≤ q) :
  (d + t.dep ≤ 8 → (R q).expr_parser_sum (d : Int) l p out 0 = some (l, ((p + t.toks.length : Nat) : Int), out ++ t.post, 0, ())) ∧
  (¬ d + t.dep ≤ 8 → ∃ (p' : Int) (out' : List Item), (R q).expr_parser_sum (d : Int) l p out 0 = some (l, p', out', 24, ()) ∧ out'.length ≤ out.length + t.post.length) := by
 obtain ⟨q, rfl⟩ : ∃ q', q = q' + 2 := ⟨q - 2, by omega⟩
 show (_ → expr_parser_sum.h (R (q + 1)) d l p out 0 = _) ∧ (_ → ∃ p' out', expr_parser_sum.h (R (q + 1)) d l p out 0 = _ ∧ _)
 unfold expr_parser_sum.h expr_parser_sum.f
 have e : (R (q + 1)).expr_parser_row_c200 sAdd l (p : Int) out 0 (d : Int) = expr_parser_row_c200.h (R q) sAdd l (p : Int) out 0 (d : Int) := rfl
 rw [e]
 unfold expr_parser_row_c200.h expr_parser_row_c200.f
 obtain ⟨N, hN⟩ : ∃ N, 1000 + sAdd.length + l.length + (p : Int).toNat + out.length + (0 : Int).toNat + (d : Int).toNat = N := ⟨_, rfl⟩
 rw [hN]
 have hlen := At.len hat (toks_ne t)
 have h1 := ac_toks t
 have hbig : ac t < N := by omega
 obtain ⟨g1, g2⟩ := hS l p out rest d q N N hl ho hat hr hd (by omega) hbig
 constructor
 ·intro h
  rw [g1 h]
  obtain ⟨m, hm⟩ : ∃ m, N - ac t = m + 1 := ⟨N - ac t - 1, by clear g1 g2; omega⟩
  rw [hm, l51_exit N (R q) m (At.app' hat) hr2, Option.bind_some]
 ·intro h
  obtain ⟨p', out', g3, g4⟩ := g2 h
  rw [g3, Option.bind_some]
  exact ⟨p', out', rfl, g4⟩
theorem F_paren {x : Tr} (hS : okS x) (l : List TokL) (p : Nat) (out : List Item) (rest : List Bt) (d q : Nat) (hl : l.length ≤ 1000000) (ho : out.length + x.post.length ≤ 1000000) (hat : At l p (tLp :: (x.toks ++ tRp :: rest))) (hd : d ≤ 8) (hq : 6 * (9 - d) ≤ q) :
  (d + (x.dep + 1) ≤ 8 → expr_parser_factor.h (R q) (d : Int) l p out 0 = some (l, ((p + (x.toks.length + 2) : Nat) : Int), out ++ x.post, 0, ())) ∧
  (¬ d + (x.dep + 1) ≤ 8 → ∃ (p' : Int) (out' : List Item), expr_parser_factor.h (R q) (d : Int) l p out 0 = some (l, p', out', 24, ()) ∧ out'.length ≤ out.length + x.post.length) := by
 obtain ⟨_, _, hat2⟩ := At.cons hat
 have hn1 : noS sMul (tRp :: rest) := noS_text (by decide)
 have hn2 : noS sAdd (tRp :: rest) := noS_text (by decide)
 obtain ⟨g1, g2⟩ := sum_of_S hS l (p + 1) out (tRp :: rest) (d + 1) q hl ho hat2 hn1 hn2 (by omega) (by omega)
 unfold expr_parser_factor.h expr_parser_factor.f
 rw [if_neg (by decide), if_neg (by simp; omega), sign_yes [[45], [40]] (by simp) hat hl (by simp) out, Option.bind_some]
 dsimp only
 rw [if_neg (show ¬ decide (([40] : Str) = [45]) = true by decide), if_pos (show decide (([40] : Str) = [40]) = true by decide), w64 (by omega), show (d : Int) + 1 = ((d + 1 : Nat) : Int) by omega]
 constructor
 ·intro h
  rw [g1 (by clear g1 g2; omega), Option.bind_some]
  dsimp only
  rw [sign_yes [[41]] (by simp) (At.app' hat2) hl (by simp) _, Option.bind_some]
  dsimp only
  rw [if_neg (show ¬ (!true) = true by decide), show p + 1 + x.toks.length + 1 = p + (x.toks.length + 2) by clear g1 g2; omega]
 ·intro h
  obtain ⟨p', out', g3, g4⟩ := g2 (by clear g1 g2; omega)
  rw [g3, Option.bind_some]
  dsimp only
  rw [sign_err [[41]] (by simp) l p' out' 24 (by decide), Option.bind_some]
  dsimp only
  rw [if_pos (show (!false) = true by decide), fail_err 23 l p' out' 24 (by decide), Option.bind_some]
  exact ⟨p', out', rfl, g4⟩
theorem F_low {x : Tr} (hS : okS x) (ht : x.tight < 2) : okF x := F_intro fun l p out rest d q hl ho hat hd hq => by
 have hA : x.toksA 2 = tLp :: (x.toks ++ [tRp]) := by unfold Tr.toksA brk; rw [if_pos (by simpa using ht)]
 have hD : x.depA 2 = x.dep + 1 := by unfold Tr.depA; rw [if_pos ht]
 rw [hA] at hat ⊢
 rw [hD]
 have hat' : At l p (tLp :: (x.toks ++ tRp :: rest)) := by
  have e : tLp :: (x.toks ++ [tRp]) ++ rest = tLp :: (x.toks ++ tRp :: rest) := by simp
  rw [e] at hat; exact hat
 have := F_paren hS l p out rest d q hl ho hat' hd hq
 have e : (tLp :: (x.toks ++ [tRp])).length = x.toks.length + 2 := by simp
 rw [e]
 exact this
theorem F_br {x : Tr} (hS : okS x) : okF (.br x) := F_intro fun l p out rest d q hl ho hat hd hq => by
 have hA : (Tr.br x).toksA 2 = tLp :: (x.toks ++ [tRp]) := rfl
 have hD : (Tr.br x).depA 2 = x.dep + 1 := by show 1 + x.dep + (if (2 : Nat) < 2 then 1 else 0) = _; rw [if_neg (by omega)]; omega
 have hP : (Tr.br x).post = x.post := rfl
 rw [hP] at ho ⊢
 rw [hA] at hat ⊢
 rw [hD]
 have hat' : At l p (tLp :: (x.toks ++ tRp :: rest)) := by
  have e : tLp :: (x.toks ++ [tRp]) ++ rest = tLp :: (x.toks ++ tRp :: rest) := by simp
  rw [e] at hat; exact hat
 have := F_paren hS l p out rest d q hl ho hat' hd hq
 have e : (tLp :: (x.toks ++ [tRp])).length = x.toks.length + 2 := by simp
 rw [e]
 exact this
theorem T_of_F2 {t : Tr} (hF : okF t) (ht : t.tight = 2) (hm0 : mc t = 0) : okT t :=
 T_of_F hF (by unfold Tr.toksA; rw [ht]; rfl) (by unfold Tr.depA; rw [ht]; rfl) hm0
theorem S_of_T1 {t : Tr} (hT : okT t) (ht : 1 ≤ t.tight) (ha0 : ac t = 0) : okS t :=
 S_of_T hT (by unfold Tr.toksA brk; rw [if_neg (by simp; omega)]) (by unfold Tr.depA; rw [if_neg (by omega), Nat.add_zero]) ha0
theorem parse_ok : ∀ t : Tr, t.ok → okF t ∧ okT t ∧ okS t
 | .num n, _ => by
  have hF := F_num n
  have hT := T_of_F2 hF rfl rfl
  exact ⟨hF, hT, S_of_T1 hT (show 1 ≤ 2 by decide) rfl⟩
 | .nam s, h => by
  have hF := F_nam h
  have hT := T_of_F2 hF rfl rfl
  exact ⟨hF, hT, S_of_T1 hT (show 1 ≤ 2 by decide) rfl⟩
 | .neg x, h => by
  have hF := F_neg (parse_ok x h).1
  have hT := T_of_F2 hF rfl rfl
  exact ⟨hF, hT, S_of_T1 hT (show 1 ≤ 2 by decide) rfl⟩
 | .br x, h => by
  have hF := F_br (parse_ok x h).2.2
  have hT := T_of_F2 hF rfl rfl
  exact ⟨hF, hT, S_of_T1 hT (show 1 ≤ 2 by decide) rfl⟩
 | .bin .mul a b, h => by
  have hT := T_mul (parse_ok a h.1).2.1 (parse_ok b h.2).1
  have hS := S_of_T1 hT (show 1 ≤ 1 by decide) rfl
  exact ⟨F_low hS (show 1 < 2 by decide), hT, hS⟩
 | .bin .add a b, h => by
  have hS := S_add (.inl rfl) (parse_ok a h.1).2.2 (parse_ok b h.2).2.1 (by unfold Tr.toksA brk; rw [if_neg (by simp)])
  have hF := F_low hS (show 0 < 2 by decide)
  exact ⟨hF, T_of_F hF rfl rfl rfl, hS⟩
 | .bin .sub a b, h => by
  have hS := S_add (.inr rfl) (parse_ok a h.1).2.2 (parse_ok b h.2).2.1 (by unfold Tr.toksA brk; rw [if_neg (by simp)])
  have hF := F_low hS (show 0 < 2 by decide)
  exact ⟨hF, T_of_F hF rfl rfl rfl, hS⟩
theorem eparse_eq {t : Tr} (ht : t.ok) (l : List TokL) (p : Nat) (rest : List Bt) (hl : l.length ≤ 1000000) (hpost : t.post.length ≤ 64) (hat : At l p (t.toks ++ rest)) (hr : noS sMul rest) (hr2 : noS sAdd rest) :
  (t.dep ≤ 8 → expr_Parse.g l p = some (t.post, ((p + t.toks.length : Nat) : Int), 0, ())) ∧ (¬ t.dep ≤ 8 → expr_Parse.g l p = some ([], 0, 24, ())) := by
 unfold expr_Parse.g expr_Parse.f expr_parser_sum.g
 obtain ⟨g1, g2⟩ := sum_of_S (parse_ok t ht).2.2 l p [] rest 0 (1000 + (0 : Int).toNat + l.length + (p : Int).toNat + ([] : List Item).length + (0 : Int).toNat) hl (by simp; omega) hat hr hr2 (by omega) (by omega)
 constructor
 ·intro h
  have := g1 (by clear g1 g2; omega)
  rw [show ((0 : Nat) : Int) = 0 from rfl] at this
  rw [this, Option.bind_some]
  dsimp only
  rw [if_pos (show decide ((0 : Int) = 0) = true by decide), if_neg (by clear g1 g2 this; simp; omega), List.nil_append]
  unfold expr_Parse.j5
  rw [if_neg (show ¬ decide ((0 : Int) ≠ 0) = true by decide)]
 ·intro h
  obtain ⟨p', out', g3, g4⟩ := g2 (by clear g1 g2; omega)
  rw [show ((0 : Nat) : Int) = 0 from rfl] at g3
  rw [g3, Option.bind_some]
  dsimp only
  rw [if_neg (show ¬ decide ((24 : Int) = 0) = true by decide)]
  unfold expr_Parse.j5
  rw [if_pos (show decide ((24 : Int) ≠ 0) = true by decide)]
end Rv
namespace Rv
open Go
theorem sameE_refl (a : List Item) (ha : a.length ≤ 1000) : rivetref15_Same.g a a = some (true, ()) := by
 have loop : ∀ (n m i : Nat), i ≤ a.length → a.length - i < m → rivetref15_Same.l4 n m a a (i : Int) = some (true, ()) := by
  intro n m
  induction m with
  | zero => intro i _ h; omega
  | succ m ih =>
   intro i hi hm
   rw [rivetref15_Same.l4]
   simp only [dt]
   by_cases h : i < a.length
   ·rw [if_pos (by omega), if_pos (by omega), if_pos (by omega), if_neg (by simp), w64 (by omega)]
    exact ih (i + 1) (by omega) (by omega)
   ·rw [if_neg (by omega)]
 unfold rivetref15_Same.g rivetref15_Same.f
 rw [if_neg (by simp)]
 exact loop _ _ 0 (by omega) (by omega)
theorem scans_line {s : Str} {b : List Bt} (h : Scans s b) (hs : s.length ≤ 1000000) : ∃ ts : List TokL, ts.map bare = b ∧ scan_Line.g s = some (ts, 0, ()) := by
 obtain ⟨ts, h1, h2⟩ := h 0
 refine ⟨ts, h1, ?_⟩
 have := h2 [] (.inl rfl)
 rw [List.append_nil, lineR_nil] at this
 rw [line_eq s hs, this]
 simp [preE, lineOut]
theorem At.whole {ts : List TokL} {b : List Bt} (h : ts.map bare = b) : At ts 0 (b ++ []) := by
 unfold At
 rw [List.drop_zero, h, List.append_nil]
theorem noS_nil (all : List Str) : noS all [] := fun b r h => by cases h
theorem fit_tree (l : List Item) (hl : l.length ≤ 9223372036854775807) (hw : wfItems l) : ∃ t : Tr, rivetref15_Fit.g l = some (t.post, ()) ∧ t.ok ∧ t.plain ∧ wellL t.post ∧ t.post.length ≤ 19 := by
 obtain ⟨r, h1, h2, h3, h4⟩ := fit15_eq l hl hw
 obtain ⟨t, rfl, ho, hp⟩ := tree_of h2 h4
 exact ⟨t, h1, ho, hp, h2, h3⟩
end Rv
namespace Rv
open Go
structure Sm where
 k : Int
 o : Int
 a : Int
 b : Int
 c : Int
 u : Bool
 e : List Item
 nm : Str
def okT' (t : Tr) : Prop := t.ok ∧ t.plain ∧ wellL t.post ∧ t.post.length ≤ 64
def postO : Option Tr → List Item
 | none => []
 | some t => t.post
inductive GoodS : Sm → Option Tr → Prop
 | none : GoodS ⟨0, 0, 0, 0, 0, false, [], []⟩ none
 | ins0 {k o a b c : Int} {u : Bool} : GoodI0 k o a b c u → (k = 1 ∨ k = 3 ∨ k = 4 ∨ k = 6) → GoodS ⟨k, o, a, b, c, u, [], []⟩ none
 | ins1 {k o a b c : Int} {u : Bool} {t : Tr} : GoodI0 k o a b c u → (k = 2 ∨ k = 5 ∨ k = 7) → okT' t → GoodS ⟨k, o, a, b, c, u, t.post, []⟩ (some t)
 | load {a : Int} {t : Tr} : rg a → okT' t → GoodS ⟨8, 0, a, 0, 0, false, t.post, []⟩ (some t)
 | word {t : Tr} : okT' t → GoodS ⟨9, 0, 0, 0, 0, false, t.post, []⟩ (some t)
 | exp {nm : Str} : nameOk nm = true → GoodS ⟨10, 0, 0, 0, 0, false, [], nm⟩ none
def rn (a : Int) : Str := regN a.toNat
theorem rn_eq {a : Int} (h : rg a) : name_RegName.g a = some (rn a, ()) := by
 obtain ⟨k, rfl⟩ : ∃ k : Nat, a = (k : Int) := ⟨a.toNat, by have := h.1; omega⟩
 have := (reg_fact k (by have := h.2; omega)).1
 rw [this]; unfold rn; rw [Int.toNat_natCast]
theorem rn_ne (k : Nat) : regN k ≠ [] := by unfold regN; split <;> simp
theorem numbered_eq (k : Int) : stmt_numbered.g k = some (decide (k = 2 ∨ k = 5 ∨ k = 7 ∨ k = 8 ∨ k = 9), ()) := by
 unfold stmt_numbered.g stmt_numbered.f
 simp only [dt]
 by_cases h1 : k = 2
 ·simp [h1]
 ·by_cases h2 : k = 5
  ·simp [h2]
  ·by_cases h3 : k = 7
   ·simp [h3]
   ·by_cases h4 : k = 8
    ·simp [h4]
    ·by_cases h5 : k = 9
     ·simp [h5]
     ·simp [h1, h2, h3, h4, h5]
abbrev mayG (s : Sm) : Option (Bool × Unit) := stmt_May.g s.k s.o s.a s.b s.c s.u s.e s.nm
theorem may_good {s : Sm} {t : Option Tr} (h : GoodS s t) : mayG s = some (true, ()) := by
 have hw : ∀ t : Tr, okT' t → expr_Well.g t.post = some (true, ()) := fun t h => by
  rw [well_eq t.post (by have := h.2.2.2; omega), well_of h.2.2.1 h.2.2.2]
 have hp : ∀ t : Tr, decide ((0 : Int) < (t.post.length : Int)) = true := fun t => by have := t.post_pos; simp; omega
 cases h with
 | none => rfl
 | @ins0 k o a b c u h hk =>
  unfold mayG stmt_May.g
  generalize 1000 + _ + _ + _ + _ + _ + _ + _ = n
  unfold stmt_May.f
  have hn : decide (k = 2 ∨ k = 5 ∨ k = 7 ∨ k = 8 ∨ k = 9) = false := by simp; omega
  have h10 : decide (k = 10) = false := by simp; omega
  simp only [numbered_eq, hn, Option.bind_some]
  rw [if_pos (by simp), if_neg (by decide), h10, if_neg (by simp)]
  unfold stmt_May.j4 stmt_May.j12
  simp only [dt]
  rw [isa_good h, Option.bind_some, if_neg (by omega), if_neg (by omega), if_neg (by omega), if_neg (by omega)]
 | @ins1 k o a b c u t h hk ht =>
  unfold mayG stmt_May.g
  generalize 1000 + _ + _ + _ + _ + _ + _ + _ = n
  unfold stmt_May.f
  have hn : decide (k = 2 ∨ k = 5 ∨ k = 7 ∨ k = 8 ∨ k = 9) = true := by simp; omega
  have h10 : decide (k = 10) = false := by simp; omega
  simp only [numbered_eq, hn, Option.bind_some, hp, hw t ht]
  rw [if_pos (by simp), if_pos (by decide), if_pos (by decide), h10, if_neg (by simp)]
  unfold stmt_May.j4 stmt_May.j12
  simp only [dt]
  rw [isa_good h, Option.bind_some, if_neg (by omega), if_neg (by omega), if_neg (by omega), if_neg (by omega)]
 | @load a t ha ht =>
  unfold mayG stmt_May.g
  generalize 1000 + _ + _ + _ + _ + _ + _ + _ = n
  unfold stmt_May.f
  simp only [numbered_eq, Option.bind_some, hp, hw t ht]
  rw [if_pos (by simp), if_pos (by decide), if_pos (by decide), if_neg (by simp)]
  unfold stmt_May.j4
  simp only [rn_eq ha, Option.bind_some]
  have := rn_ne a.toNat
  simp [rn, this]
 | @word t ht =>
  unfold mayG stmt_May.g
  generalize 1000 + _ + _ + _ + _ + _ + _ + _ = n
  unfold stmt_May.f
  simp only [numbered_eq, Option.bind_some, hp, hw t ht]
  rw [if_pos (by simp), if_pos (by decide), if_pos (by decide), if_neg (by simp)]
  rfl
 | @exp nm hn =>
  have hne : nm ≠ [] := by rintro rfl; exact absurd hn (by decide)
  unfold mayG stmt_May.g
  generalize 1000 + _ + _ + _ + _ + _ + _ + _ = n
  unfold stmt_May.f
  simp only [numbered_eq, Option.bind_some]
  rw [if_pos (by simp), if_neg (by decide), if_neg (by simp [hne])]
  unfold stmt_May.j4
  simp only [lename_eq, hn, Option.bind_some]
  rfl
end Rv
