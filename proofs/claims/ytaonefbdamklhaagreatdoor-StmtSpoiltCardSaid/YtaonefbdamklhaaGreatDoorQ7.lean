/- Texts put together, part 7 of 18. -/
import Derived.Test.YtaonefbdamklhaaGreatDoorQ6
import Derived.Test.YtaonefbdamklhaaGreatDoorQ1
set_option linter.all false
namespace Rv
open Go
def regLike (s : Str) : Bool := decide (s.getD 0 0 = 82) && (decide (s.length = 2) || decide (s.length = 3)) && (s.drop 1).all isD
def labelOk (s : Str) : Bool := decide (s ≠ []) && decide (s.length ≤ 12) && !isD (s.getD 0 0) && s.all isW && !regLike s
def labT (b : Int) : Bool :=
 if bitsI .or .u8 b 32 < 97 ∨ 122 < bitsI .or .u8 b 32 ∨ b < 65 then decide (b = 95) || (!decide (b < 48) && !decide (57 < b)) else true
theorem labT_all : ((List.range 256).all fun k => labT k == isW (UInt8.ofNat k)) = true := by decide +kernel
theorem labT_eq (b : UInt8) : labT b.toNat = isW b := by
 have h := List.all_eq_true.1 labT_all b.toNat (by simp; exact b.toNat_lt)
 simpa using h
theorem propTF (p : Prop) : p = True ∨ p = False := (Classical.em p).imp eq_true eq_false
theorem label_step (s : Str) (n m : Nat) (i : Nat) (h1 : i < s.length) (X : Option (Bool × Unit)) (hX : name_Label.j9 n (name_Label.l4 n m) s (s.length : Int) (i : Int) = X) :
  name_Label.l4 n (m + 1) s (s.length : Int) (i : Int) = if labT (bt s i) = true then X else some (false, ()) := by
 have hc : (0 : Int) ≤ i ∧ (i : Int) < s.length := by omega
 have hc2 : (i : Int) < s.length := hc.2
 simp only [name_Label.l4, dt, df, hX, labT]
 by_cases a1 : bitsI .or .u8 (bt s i) 32 < 97 <;> by_cases a2 : 122 < bitsI .or .u8 (bt s i) 32 <;> by_cases a3 : bt s i < 65 <;> rcases propTF (bt s i = 95) with a4 | a4 <;> by_cases a5 : bt s i < 48 <;> by_cases a6 : 57 < bt s i <;>
  simp only [hc, hc2, a1, a2, a3, a4, a5, a6, if_true, if_false, not_true_eq_false, not_false_eq_true, ne_eq, true_or, or_true, or_false, false_or, or_self, and_self, true_and, decide_true, decide_false, Bool.true_or, Bool.false_or, Bool.not_true, Bool.not_false, Bool.and_true, Bool.and_false, Bool.false_and, Bool.true_and, Bool.or_self, Bool.or_false, Bool.or_true, Bool.false_eq_true]
theorem label_loop (s : Str) (hs : s.length ≤ 12) (n : Nat) : ∀ (m i : Nat), i ≤ s.length → s.length - i < m →
  name_Label.l4 n m s (s.length : Int) (i : Int) = if (s.drop i).all isW = true then name_Label.l4 n 1 s (s.length : Int) (s.length : Int) else some (false, ()) := by
 intro m
 induction m with
 | zero => intro i _ h; omega
 | succ m ih =>
  intro i hi hm
  by_cases h1 : i < s.length
  ·have hnext : name_Label.j9 n (name_Label.l4 n m) s (s.length : Int) (i : Int) = if (s.drop (i + 1)).all isW = true then name_Label.l4 n 1 s (s.length : Int) (s.length : Int) else some (false, ()) := by
    unfold name_Label.j9
    rw [w64 (by omega), show (i : Int) + 1 = ((i + 1 : Nat) : Int) by omega]
    exact ih (i + 1) (by omega) (by omega)
   rw [label_step s n m i h1 _ hnext, bt_nat, labT_eq, drop_cons h1, List.all_cons]
   cases hw : isW (s.getD i 0)
   ·rfl
   ·rw [if_pos rfl, Bool.true_and]
  ·have hi' : i = s.length := by omega
   subst hi'
   rw [List.drop_length, List.all_nil, if_pos rfl]
   have hlt : ¬ ((s.length : Int) < s.length) := by omega
   simp only [name_Label.l4, dt, hlt, if_false]
theorem dig_eq (b : UInt8) : L.isDig b = isD b := by simp [L.isDig, isD]
theorem dropWhile_head {p : UInt8 → Bool} : ∀ {l : Str} {a : UInt8} {r : Str}, l.dropWhile p = a :: r → p a = false
 | [], _, _, h => by simp at h
 | b :: l, a, r, h => by
  rw [List.dropWhile_cons] at h
  cases hb : p b
  ·rw [hb] at h
   simp only [Bool.false_eq_true, if_false, List.cons.injEq] at h
   rw [← h.1]; exact hb
  ·rw [hb] at h
   exact dropWhile_head (l := l) (by simpa using h)
theorem trim_nil (s : Str) : (L.trimDig s = []) = (s.all isD = true) := by
 have gen : ∀ l : Str, (l.dropWhile L.isDig = []) ↔ l.all isD = true := fun l => by
  induction l with
  | nil => simp
  | cons a l ih =>
   simp only [List.dropWhile_cons, List.all_cons, dig_eq]
   cases h : isD a
   ·simp
   ·simp [ih]
 unfold L.trimDig
 apply propext
 rw [gen]
 constructor
 ·intro h
  have h0 : (s.reverse.dropWhile L.isDig) = [] := by
   cases hr : s.reverse.dropWhile L.isDig with
   | nil => rfl
   | cons a r =>
    exfalso
    rw [hr] at h
    have ha : isD a = true := List.all_eq_true.1 h a (by simp)
    rw [← dig_eq, dropWhile_head hr] at ha
    cases ha
  rw [gen] at h0
  simpa using h0
 ·intro h
  have h0 : s.reverse.dropWhile L.isDig = [] := (gen _).2 (by simpa using h)
  rw [h0]; rfl
theorem label_eq (s : Str) : name_Label.g s = some (labelOk s, ()) := by
 unfold name_Label.g name_Label.f
 simp only [dt, df]
 by_cases h0 : s = []
 ·subst h0; rw [if_neg (by simp)]; rfl
 ·rw [if_pos h0]
  have hl0 : 0 < s.length := List.length_pos_iff.2 h0
  by_cases h12 : s.length ≤ 12
  ·rw [if_pos (by omega), if_pos (by omega)]
   have hj : ¬ isD (s.getD 0 0) = true → name_Label.j3 (1000 + s.length) s = some (labelOk s, ()) := fun hd => by
    unfold name_Label.j3
    have := label_loop s h12 (1000 + s.length) (1000 + s.length) 0 (by omega) (by omega)
    rw [List.drop_zero] at this
    rw [show ((0 : Nat) : Int) = 0 from rfl] at this
    rw [this]
    by_cases hw : s.all isW = true
    ·rw [if_pos hw]
     simp only [name_Label.l4, dt, df, bt_nat]
     rw [if_neg (by omega), if_pos (by omega)]
     have hbt : bt s 0 = ((s.getD 0 0).toNat : Int) := rfl
     simp only [hbt]
     have h82 : (((s.getD 0 0).toNat : Int) = 82) = (s.getD 0 0 = 82) := byte_is _ 82 (by omega)
     simp only [h82]
     have htake : (s.take (s.length : Int).toNat).drop (1 : Int).toNat = s.drop 1 := by
      rw [show (s.length : Int).toNat = s.length by omega, List.take_length]; rfl
     have htrim : s.length ≤ 3 → L.trimO ((s.take (s.length : Int).toNat).drop (1 : Int).toNat) [48, 49, 50, 51, 52, 53, 54, 55, 56, 57] = some (L.trimDig (s.drop 1), ()) := fun h => by
      rw [htake]
      unfold L.trimO
      rw [if_pos ⟨rfl, by simp; omega⟩]
     have hL : labelOk s = !regLike s := by
      unfold labelOk
      rw [decide_eq_true (show s ≠ [] from h0), decide_eq_true h12, show isD (s.getD 0 0) = false by simpa using hd, hw]
      rfl
     have hT : decide (L.trimDig (s.drop 1) = []) = (s.drop 1).all isD := by
      rw [Bool.eq_iff_iff, decide_eq_true_eq, trim_nil]
     rw [hL]
     unfold regLike
     by_cases hR : s.getD 0 0 = 82
     ·rw [if_pos hR, decide_eq_true hR]
      by_cases h2 : s.length = 2
      ·rw [if_neg (by omega), if_pos (by omega), htrim (by omega), Option.bind_some, decide_eq_true h2]
       dsimp only
       rw [hT]; rfl
      ·rw [if_pos (by omega), decide_eq_false h2]
       by_cases h3 : s.length = 3
       ·rw [if_pos (by omega), if_pos (by omega), htrim (by omega), Option.bind_some, decide_eq_true h3]
        dsimp only
        rw [hT]; rfl
       ·rw [if_neg (by omega), decide_eq_false h3]; rfl
     ·rw [if_neg hR, decide_eq_false hR]; rfl
    ·rw [if_neg hw]
     simp [labelOk, hw]
   have hbt : bt s 0 = ((s.getD 0 0).toNat : Int) := rfl
   simp only [hbt]
   by_cases h48 : (48 : Int) ≤ (s.getD 0 0).toNat
   ·rw [if_pos h48, if_pos (by omega)]
    by_cases h57 : ((s.getD 0 0).toNat : Int) ≤ 57
    ·rw [if_pos h57]
     have hd : isD (s.getD 0 0) = true := by unfold isD; rw [decide_eq_true_eq]; omega
     unfold labelOk
     rw [hd, decide_eq_true (show s ≠ [] from h0), decide_eq_true h12]; rfl
    ·rw [if_neg h57]
     exact hj (by unfold isD; rw [decide_eq_true_eq]; omega)
   ·rw [if_neg h48]
    exact hj (by unfold isD; rw [decide_eq_true_eq]; omega)
  ·rw [if_neg (by omega)]
   simp [labelOk, h12]
end Rv
namespace Rv
open Go
def isA (b : UInt8) : Bool := decide (65 ≤ b.toNat ∧ b.toNat ≤ 90 ∨ 97 ≤ b.toNat ∧ b.toNat ≤ 122)
theorem isA_L (b : UInt8) : isL b = (isA b || decide (b.toNat = 95)) := by
 unfold isL isA
 rw [Bool.eq_iff_iff]
 simp only [decide_eq_true_eq, Bool.or_eq_true]
 omega
def nameOk (s : Str) : Bool := decide (s ≠ []) && decide (s.length ≤ 12) && isA (s.getD 0 0) && !regLike s && s.all isW
end Rv
namespace Rv
open Go
theorem leis_tab : ((List.range 256).all fun k => decide (le_is.g (k : Int) true = some (isA (UInt8.ofNat k), ())) && decide (le_is.g (k : Int) false = some (isW (UInt8.ofNat k), ()))) = true := by decide +kernel
theorem leis_eq (b : UInt8) (f : Bool) : le_is.g (b.toNat : Int) f = some (if f then isA b else isW b, ()) := by
 have h := List.all_eq_true.1 leis_tab b.toNat (by simp; exact b.toNat_lt)
 simp at h
 cases f
 ·exact h.2
 ·exact h.1
theorem lename_loop (s : Str) (hs : s.length ≤ 12) (n : Nat) : ∀ (m i : Nat), 1 ≤ i → i ≤ s.length → s.length - i < m →
  le_Name.l4 n m s (s.length : Int) (i : Int) = if (s.drop i).all isW = true then le_Name.l4 n 1 s (s.length : Int) (s.length : Int) else some (false, ()) := by
 intro m
 induction m with
 | zero => intro i _ _ h; omega
 | succ m ih =>
  intro i h0 hi hm
  by_cases h1 : i < s.length
  ·rw [le_Name.l4, if_pos (by simp; omega), if_pos (by omega), bt_nat, leis_eq, Option.bind_some, drop_cons h1, List.all_cons]
   dsimp only
   rw [if_neg (show ¬ decide ((i : Int) = 0) = true by simp; omega), w64 (by omega), show (i : Int) + 1 = ((i + 1 : Nat) : Int) by omega, ih (i + 1) (by omega) (by omega) (by omega)]
   cases isW (s.getD i 0) <;> simp
  ·have hi' : i = s.length := by omega
   subst hi'
   rw [List.drop_length, List.all_nil, if_pos rfl]
   have hlt : ¬ ((s.length : Int) < s.length) := by omega
   simp only [le_Name.l4, dt, hlt, if_false]
theorem lename_eq (s : Str) : le_Name.g s = some (nameOk s, ()) := by
 unfold le_Name.g le_Name.f
 simp only [dt, df]
 by_cases h0 : s = []
 ·subst h0; rw [if_neg (by simp)]; rfl
 ·have hl0 : 0 < s.length := List.length_pos_iff.2 h0
  rw [if_pos (by omega)]
  by_cases h12 : s.length ≤ 12
  ·rw [if_neg (by omega)]
   obtain ⟨m, hm⟩ : ∃ m, 1000 + s.length = m + 1 := ⟨999 + s.length, by omega⟩
   rw [show le_Name.l4 (1000 + s.length) (1000 + s.length) s (s.length : Int) 0 = le_Name.l4 (1000 + s.length) (m + 1) s (s.length : Int) 0 by rw [hm], le_Name.l4, if_pos (by simp; omega), if_pos (by omega)]
   have hb0 : bt s 0 = ((s.getD 0 0).toNat : Int) := rfl
   rw [hb0, leis_eq, Option.bind_some]
   dsimp only
   have hdd : decide ((0 : Int) = 0) = true := rfl
   rw [hdd, if_pos (show true = true from rfl), show IntKind.i64.wrap ((0 : Int) + 1) = ((1 : Nat) : Int) from rfl, lename_loop s h12 (1000 + s.length) m 1 (by omega) (by omega) (by omega)]
   have hall : s.all isW = (isW (s.getD 0 0) && (s.drop 1).all isW) := by
    have := drop_cons (s := s) (k := 0) hl0
    rw [List.drop_zero] at this
    conv => lhs; rw [this]
    rw [List.all_cons]
   unfold nameOk
   rw [decide_eq_true h0, decide_eq_true h12, hall]
   have hAW : isA (s.getD 0 0) = true → isW (s.getD 0 0) = true := fun h => by unfold isW; rw [isA_L, h]; rfl
   cases hA : isA (s.getD 0 0) with
   | false => rw [if_pos (by simp)]; simp
   | true =>
    rw [if_neg (by simp), hAW hA]
    by_cases hw : (s.drop 1).all isW = true
    ·rw [if_pos hw, hw]
     simp only [le_Name.l4, dt, df]
     rw [if_neg (by omega), if_pos (by omega), hb0]
     have h82 : (((s.getD 0 0).toNat : Int) = 82) = (s.getD 0 0 = 82) := byte_is _ 82 (by omega)
     simp only [h82]
     have htake : (s.take (s.length : Int).toNat).drop (1 : Int).toNat = s.drop 1 := by
      rw [show (s.length : Int).toNat = s.length by omega, List.take_length]; rfl
     have htrim : s.length ≤ 3 → L.trimO ((s.take (s.length : Int).toNat).drop (1 : Int).toNat) [48, 49, 50, 51, 52, 53, 54, 55, 56, 57] = some (L.trimDig (s.drop 1), ()) := fun h => by
      rw [htake]
      unfold L.trimO
      rw [if_pos ⟨rfl, by simp; omega⟩]
     have hT : decide (L.trimDig (s.drop 1) = []) = (s.drop 1).all isD := by
      rw [Bool.eq_iff_iff, decide_eq_true_eq, trim_nil]
     unfold regLike
     by_cases hR : s.getD 0 0 = 82
     ·rw [if_pos hR, decide_eq_true hR]
      by_cases h2 : s.length = 2
      ·rw [if_neg (by omega), if_pos (by omega), htrim (by omega), Option.bind_some, decide_eq_true h2]
       dsimp only
       rw [hT]; simp
      ·rw [if_pos (by omega), decide_eq_false h2]
       by_cases h3 : s.length = 3
       ·rw [if_pos (by omega), if_pos (by omega), htrim (by omega), Option.bind_some, decide_eq_true h3]
        dsimp only
        rw [hT]; simp
       ·rw [if_neg (by omega), decide_eq_false h3]; simp
     ·rw [if_neg hR, decide_eq_false hR]; simp
    ·rw [if_neg hw, Bool.eq_false_iff.2 hw]; simp
  ·rw [if_pos (by omega)]
   unfold nameOk
   rw [decide_eq_false h12]; simp
end Rv
namespace Rv
open Go
theorem fit13_label (s : Str) (hs : s.length ≤ 9223372036854775807) : ∃ r, rivetref13_Fit.g s = some (r, ()) ∧ labelOk r = true ∧ r.length ≤ 8 ∧ (s.length ≤ 6 → r ≠ [122, 122, 95, 122, 122]) := by
 unfold rivetref13_Fit.g rivetref13_Fit.f
 obtain ⟨r, hr, ⟨c, t, rfl, ⟨hL, hne, hD⟩, hz⟩, ha, hl⟩ := fit07_eq' s hs
 rw [hr, Option.bind_some]
 simp only [dt]
 split
 ·have e1 : mn ((c :: t).length : Int) 11 = (c :: t).length := by unfold mn; rw [if_neg (by omega)]
  rw [e1, if_pos (by omega)]
  simp only [Int.toNat_natCast, List.take_length, List.drop_zero]
  rw [if_pos (by simp at hl ⊢; omega)]
  refine ⟨_, rfl, ?_, by simp at hl ⊢; omega, fun _ e => by simp at e⟩
  unfold labelOk
  rw [List.all_append, ha]
  have h1 : ([95] ++ c :: t : Str).getD 0 0 = 95 := rfl
  have h2 : decide (([95] ++ c :: t : Str).length ≤ 12) = true := by rw [decide_eq_true_eq]; simp at hl ⊢; omega
  rw [h2]
  unfold regLike
  rw [h1]
  rfl
 ·refine ⟨_, rfl, ?_, by omega, fun h6 e => hz h6 (by simp at e; exact e.1)⟩
  unfold labelOk
  have h1 : (c :: t : Str).getD 0 0 = c := rfl
  have h2 : decide ((c :: t : Str).length ≤ 12) = true := by rw [decide_eq_true_eq]; omega
  unfold regLike
  rw [h1, h2, hD, ha, decide_eq_false hne]
  rfl
end Rv
namespace Rv
open Go
theorem bytesOf_one (b : UInt8) : bytesOf [(b.toNat : Int)] = [b] := by simp [bytesOf]
theorem u8_of {c : Int} (h : (Lit.int .u8 c).wf = true) : ∃ b : UInt8, c = (b.toNat : Int) := by
 have := wfU8 h
 refine ⟨UInt8.ofNat c.toNat, ?_⟩
 rw [UInt8.toNat_ofNat']
 omega
end Rv
namespace Rv
open Go
theorem nt_rows : ∀ e ∈ L.nameTbl, L.mnemR e.2.1.1 e.2.1.2.1 e.2.1.2.2 = e.2.2 ∧ L.ofR e.2.2 = (e.2.1.1, e.2.1.2.1, e.2.1.2.2, true, ()) ∧ e.2.2 ≠ [] := by decide +kernel
theorem nt_label : ∀ e ∈ L.nameTbl, e.2.1.1 ≤ 7 → labelOk e.2.2 = true ∧ e.2.2.length ≤ 4 := by decide +kernel
theorem nt_range : ∀ e ∈ L.nameTbl, 1 ≤ e.2.1.1 ∧ e.2.1.1 ≤ 10 ∧ 0 ≤ e.2.1.2.1 ∧ e.2.1.2.1 ≤ 15 := by decide +kernel
theorem mnem_mem {k o : Int} {u : Bool} (h : L.mnemR k o u ≠ []) : ∃ e ∈ L.nameTbl, e.2.1 = (k, o, u) ∧ e.2.2 = L.mnemR k o u := by
 unfold L.mnemR at h ⊢
 cases hf : L.nameTbl.find? fun e => e.2.1 == (k, o, u) with
 | none => rw [hf] at h; exact absurd rfl h
 | some e =>
  have h1 := List.mem_of_find?_eq_some hf
  have h2 : e.2.1 = (k, o, u) := by simpa using List.find?_some hf
  exact ⟨e, h1, h2, rfl⟩
theorem mnem_of {k o : Int} {u : Bool} (h : L.mnemR k o u ≠ []) : L.ofR (L.mnemR k o u) = (k, o, u, true, ()) ∧ 1 ≤ k ∧ k ≤ 10 ∧ 0 ≤ o ∧ o ≤ 15 := by
 obtain ⟨e, he, hk, hs⟩ := mnem_mem h
 obtain ⟨h1, h2, h3⟩ := nt_rows e he
 have h4 := nt_range e he
 rw [hk] at h2 h4
 rw [← hs]
 exact ⟨h2, h4⟩
theorem mnem_uniq {k o k' o' : Int} {u u' : Bool} (h : L.mnemR k o u ≠ []) (e : L.mnemR k o u = L.mnemR k' o' u') : k = k' ∧ o = o' ∧ u = u' := by
 have h1 := (mnem_of h).1
 have h2 := (mnem_of (e ▸ h : L.mnemR k' o' u' ≠ [])).1
 rw [e, h2] at h1
 simp only [Prod.mk.injEq] at h1
 exact ⟨h1.1.symm, h1.2.1.symm, h1.2.2.1.symm⟩
theorem mnemO_eq {k o : Int} (u : Bool) (hk : -9223372036854775808 ≤ k ∧ k ≤ 9223372036854775807) (ho : -9223372036854775808 ≤ o ∧ o ≤ 9223372036854775807) : L.mnemO k o u = some (L.mnemR k o u, ()) := by
 unfold L.mnemO
 rw [if_pos ⟨hk.1, hk.2, ho.1, ho.2⟩]
theorem ofR_none {s : Str} (h : ∀ k o u, L.mnemR k o u = s → s = []) : L.ofR s = (0, 0, false, false, ()) := by
 unfold L.ofR
 cases hf : L.nameTbl.find? fun e => e.2.2 == s with
 | none => rfl
 | some e =>
  have h1 := List.mem_of_find?_eq_some hf
  have h2 : e.2.2 = s := by simpa using List.find?_some hf
  obtain ⟨h3, _, h4⟩ := nt_rows e h1
  exact absurd (h2 ▸ h _ _ _ (h3.trans h2)) h4
theorem regs_closed : ∀ k : Nat, k < 17 → name_RegName.g (k : Int) = some (if k < 10 then [82, UInt8.ofNat (48 + k)] else if k < 16 then [82, 49, UInt8.ofNat (38 + k)] else [], ()) := by decide +kernel
end Rv
namespace Rv
open Go
set_option maxRecDepth 100000
def okE (r : Option (Int × Option Int × Unit)) : Prop := ∃ v e, r = some (v, e, ()) ∧ (e = none ∨ e = some 1 ∨ e = some 2)
theorem okE_none {v : Int} : okE (some (v, none, ())) := ⟨_, _, rfl, .inl rfl⟩
theorem okE_one {v : Int} : okE (some (v, some 1, ())) := ⟨_, _, rfl, .inr (.inl rfl)⟩
theorem okE_two {v : Int} : okE (some (v, some 2, ())) := ⟨_, _, rfl, .inr (.inr rfl)⟩
theorem lower_some (c : Int) : internal_strconv_lower.g c = some (bitsI .or .u8 c 32, ()) := rfl
theorem pa_loop (s09 : Str) (c mv : Int) (l : List Int) (hl : l.length ≤ 1000000) (n : Nat) : ∀ (m i : Nat), i ≤ l.length → l.length - i < m → ∀ v, okE (internal_strconv_ParseUint.l36 n m 10 false s09 c mv false v l (l.length : Int) (i : Int)) := by
 intro m
 induction m with
 | zero => intro i _ h; omega
 | succ m ih =>
  intro i hi hm v
  unfold internal_strconv_ParseUint.l36
  by_cases hlt : i < l.length
  ·rw [if_pos (by simp; omega), if_pos (by omega)]
   have w1 : IntKind.i64.wrap ((i : Int) + 1) = ((i + 1 : Nat) : Int) := by rw [w64 (by omega)]; omega
   have h46 : ∀ d, okE (internal_strconv_ParseUint.j46 n (internal_strconv_ParseUint.l36 n m) 10 false s09 c mv false v d l (l.length : Int) (i : Int)) := by
    intro d
    unfold internal_strconv_ParseUint.j46
    split
    ·exact okE_two
    ·split
     ·exact okE_one
     ·split
      ·split
       ·exact okE_one
       ·unfold internal_strconv_ParseUint.j55
        rw [w1]
        exact ih (i + 1) (by omega) (by omega) _
      ·exact okE_one
   simp only [lower_some, Option.bind_some, Bool.false_eq_true, if_false]
   generalize hb : l.getD (i : Int).toNat 0 = b
   by_cases e1 : b = 95
   ·rw [if_pos (by simp [e1])]
    split
    ·split
     ·exact h46 _
     ·split
      ·split
       ·exact h46 _
       ·exact okE_two
      ·exact okE_two
    ·split
     ·split
      ·exact h46 _
      ·exact okE_two
     ·exact okE_two
   ·rw [if_neg (by simp [e1])]
    split
    ·split
     ·exact h46 _
     ·split
      ·split
       ·exact h46 _
       ·exact okE_two
      ·exact okE_two
    ·split
     ·split
      ·exact h46 _
      ·exact okE_two
     ·exact okE_two
  ·rw [if_neg (by simp; omega)]
   simp only [Bool.false_eq_true, if_false]
   exact okE_none
theorem pu_ok (s : Str) (hs : s.length ≤ 1000000) : okE (internal_strconv_ParseUint.g s 10 0) := by
 unfold internal_strconv_ParseUint.g internal_strconv_ParseUint.f
 by_cases h0 : s = []
 ·rw [if_pos (by simp [h0])]; exact okE_two
 ·rw [if_neg (by simp [h0]), if_pos (by decide), if_pos (by decide)]
  unfold internal_strconv_ParseUint.j21
  rw [if_pos (by decide)]
  unfold internal_strconv_ParseUint.j25
  rw [if_pos (by decide)]
  unfold internal_strconv_ParseUint.j32
  rw [if_neg (by decide)]
  have hd : decide ((10 : Int) = 0) = false := by decide
  rw [hd]
  have hz : (0 : Int) = ((0 : Nat) : Int) := rfl
  have := pa_loop s 1844674407370955162 (IntKind.u64.wrap ((IntKind.u64.wrap ((1 : Int) * 2 ^ (min (IntKind.u64.wrap 64).toNat IntKind.u64.bits))) - (1 : Int))) (s.map fun b => (b.toNat : Int)) (by simpa using hs) (1000 + s.length + (10 : Int).toNat + (0 : Int).toNat) (1000 + s.length + (10 : Int).toNat + (0 : Int).toNat) 0 (by simp) (by simp; omega) 0
  exact this
theorem pi21 (n : Nat) (g : Bool) (v : Int) : okE (internal_strconv_ParseInt.j21 n g v) := by
 unfold internal_strconv_ParseInt.j21
 split <;> exact okE_none
theorem pi19 (n : Nat) (g : Bool) (v c : Int) : okE (internal_strconv_ParseInt.j19 n g v c) := by
 unfold internal_strconv_ParseInt.j19
 split
 ·split
  ·exact okE_one
  ·exact pi21 _ _ _
 ·exact pi21 _ _ _
theorem pi16 (n : Nat) (g : Bool) (v : Int) : okE (internal_strconv_ParseInt.j16 n 64 g v) := by
 unfold internal_strconv_ParseInt.j16
 have h : ¬ IntKind.u64.wrap (IntKind.i64.wrap (64 - 1)) < 0 := by rw [w64 (by omega), w64u (by omega)]; omega
 rw [if_neg h]
 generalize IntKind.u64.wrap ((1 : Int) * 2 ^ (min (IntKind.u64.wrap (IntKind.i64.wrap (64 - 1))).toNat IntKind.u64.bits)) = c
 split
 ·split
  ·exact okE_one
  ·exact pi19 _ _ _ _
 ·exact pi19 _ _ _ _
theorem pi14 (n : Nat) (g : Bool) (v : Int) : okE (internal_strconv_ParseInt.j14 n 0 g v) := by
 unfold internal_strconv_ParseInt.j14
 rw [if_pos (by decide)]
 exact pi16 _ _ _
theorem pi_ok (s : Str) (hs : s.length ≤ 1000000) : okE (internal_strconv_ParseInt.g s 10 0) := by
 unfold internal_strconv_ParseInt.g internal_strconv_ParseInt.f
 generalize 1000 + s.length + (10 : Int).toNat + (0 : Int).toNat = n
 have h10 : ∀ (t : Str) g, t.length ≤ 1000000 → okE (internal_strconv_ParseInt.j10 n t 10 0 g) := fun t g ht => by
  unfold internal_strconv_ParseInt.j10
  obtain ⟨v, e, he, h⟩ := pu_ok t ht
  rw [he, Option.bind_some]
  dsimp only
  rcases h with rfl | rfl | rfl
  ·rw [if_neg (by decide)]; exact pi14 _ _ _
  ·rw [if_pos (by decide), if_neg (by simp)]; exact pi14 _ _ _
  ·rw [if_pos (by decide), if_pos (by simp)]; exact okE_two
 by_cases h0 : s = []
 ·rw [if_pos (by simp [h0])]; exact okE_two
 ·rw [if_neg (by simp [h0])]
  have hlen : 0 < s.length := List.length_pos_iff.2 h0
  have ht : ((s.take ((s.length : Int)).toNat).drop ((1 : Int)).toNat).length ≤ 1000000 := by simp; omega
  rw [if_pos (by omega)]
  split
  ·rw [if_pos (by omega)]; exact h10 _ _ ht
  ·split
   ·rw [if_pos (by omega)]; exact h10 _ _ ht
   ·exact h10 _ _ hs
theorem at_loop (s05 : Str) (h5 : s05 ≠ []) (l : List Int) (hl : l.length ≤ 1000000) (n : Nat) : ∀ (m i : Nat), i ≤ l.length → l.length - i < m → ∀ v, okE (internal_strconv_Atoi.l10 n m s05 v l (l.length : Int) (i : Int)) := by
 intro m
 induction m with
 | zero => intro i _ h; omega
 | succ m ih =>
  intro i hi hm v
  unfold internal_strconv_Atoi.l10
  by_cases hlt : i < l.length
  ·rw [if_pos (by simp; omega), if_pos (by omega)]
   have w1 : IntKind.i64.wrap ((i : Int) + 1) = ((i + 1 : Nat) : Int) := by rw [w64 (by omega)]; omega
   split
   ·exact okE_two
   ·rw [w1]
    exact ih (i + 1) (by omega) (by omega) _
  ·rw [if_neg (by simp; omega)]
   have hlen : 0 < s05.length := List.length_pos_iff.2 h5
   rw [if_pos (by omega)]
   split <;> exact okE_none
theorem ia_ok (s : Str) (hs : s.length ≤ 1000000) : okE (internal_strconv_Atoi.g s) := by
 unfold internal_strconv_Atoi.g internal_strconv_Atoi.f
 obtain ⟨n, hn⟩ : ∃ n, 1000 + s.length = n := ⟨_, rfl⟩
 rw [hn]
 have h8 : ∀ t : Str, t.length ≤ s.length → s ≠ [] → okE (internal_strconv_Atoi.j8 n t s) := fun t ht h0 => by
  unfold internal_strconv_Atoi.j8
  have := at_loop s h0 (t.map fun b => (b.toNat : Int)) (by simp; omega) n n 0 (by simp) (by simp; omega) 0
  exact this
 have h20 : okE (internal_strconv_Atoi.j20 n s) := by
  unfold internal_strconv_Atoi.j20
  obtain ⟨v, e, he, h⟩ := pi_ok s hs
  rw [he, Option.bind_some]
  exact ⟨v, e, rfl, h⟩
 by_cases h0 : s = []
 ·rw [if_neg (by simp [h0])]; exact h20
 ·have hlen : 0 < s.length := List.length_pos_iff.2 h0
  have ht : ((s.take ((s.length : Int)).toNat).drop ((1 : Int)).toNat).length ≤ s.length := by simp
  have h6 : okE (internal_strconv_Atoi.j6 n ((s.take ((s.length : Int)).toNat).drop ((1 : Int)).toNat) s) := by
   unfold internal_strconv_Atoi.j6
   split
   ·exact okE_two
   ·exact h8 _ ht h0
  rw [if_pos (by simp; omega)]
  split
  ·rw [if_pos (by omega)]
   split
   ·rw [if_pos (by omega)]
    split
    ·rw [if_pos (by omega)]; exact h6
    ·exact h8 _ (Nat.le_refl _) h0
   ·rw [if_pos (by omega)]; exact h6
  ·exact h20
theorem atoi_some (s : Str) (hs : s.length ≤ 1000000) : ∃ v b, strconv_Atoi.g s = some (v, b, ()) := by
 unfold strconv_Atoi.g strconv_Atoi.f
 obtain ⟨v, e, he, h⟩ := ia_ok s hs
 rw [he, Option.bind_some]
 dsimp only
 rcases h with rfl | rfl | rfl
 ·exact ⟨_, _, rfl⟩
 ·have : L.toErrorO ([65, 116, 111, 105] : Str) s 0 0 (some 1) = some (false, ()) := by unfold L.toErrorO; rw [if_pos ⟨by omega, Or.inl rfl⟩]
  rw [if_pos (by decide), this]
  exact ⟨_, _, rfl⟩
 ·have : L.toErrorO ([65, 116, 111, 105] : Str) s 0 0 (some 2) = some (false, ()) := by unfold L.toErrorO; rw [if_pos ⟨by omega, Or.inr rfl⟩]
  rw [if_pos (by decide), this]
  exact ⟨_, _, rfl⟩
end Rv
namespace Rv
open Go
def regN (k : Nat) : Str := if k < 10 then [82, UInt8.ofNat (48 + k)] else [82, 49, UInt8.ofNat (38 + k)]
def regOf (s : Str) : Int × Bool := match (List.range 16).find? (fun k => regN k == s) with | some k => ((k : Int), true) | none => (0, false)
theorem reg_facts : ((List.range 16).all fun k => decide (name_RegName.g (k : Int) = some (regN k, ())) && decide (name_Reg.g (regN k) = some ((k : Int), true, ()))) = true := by decide +kernel
theorem reg_fact (k : Nat) (hk : k < 16) : name_RegName.g (k : Int) = some (regN k, ()) ∧ name_Reg.g (regN k) = some ((k : Int), true, ()) := by
 have := List.all_eq_true.1 reg_facts k (List.mem_range.2 hk)
 simpa [and_assoc] using this
theorem regName_out {v : Int} (h : v < 0 ∨ 16 ≤ v) : name_RegName.g v = some ([], ()) := by
 unfold name_RegName.g name_RegName.f
 by_cases h0 : v < 0
 ·rw [if_neg (by simp; omega)]
 ·rw [if_pos (by simp; omega), if_pos (by simp; omega)]
theorem regName_cases (v : Int) : ∃ s, name_RegName.g v = some (s, ()) ∧ (s ≠ [] → ∃ k : Nat, k < 16 ∧ v = (k : Int) ∧ s = regN k) := by
 by_cases h : v < 0 ∨ 16 ≤ v
 ·exact ⟨[], regName_out h, fun e => absurd rfl e⟩
 ·obtain ⟨k, rfl⟩ : ∃ k : Nat, v = (k : Int) := ⟨v.toNat, by omega⟩
  have hk : k < 16 := by omega
  exact ⟨regN k, (reg_fact k hk).1, fun _ => ⟨k, hk, rfl, rfl⟩⟩
theorem cut_nil {s p : Str} (h : L.cutIs s p = true) (hp : p ≠ []) : s ≠ [] := by
 rintro rfl
 cases p with
 | nil => exact hp rfl
 | cons a l => simp [L.cutIs, Lib.hasPrefix] at h
theorem regOf_some {s : Str} {k : Nat} (h : (List.range 16).find? (fun k => regN k == s) = some k) : k < 16 ∧ regN k = s := by
 have h1 := List.mem_of_find?_eq_some h
 have h2 := List.find?_some h
 exact ⟨List.mem_range.1 h1, by simpa using h2⟩
theorem reg_eq (s : Str) (hs : s.length ≤ 1000000) : name_Reg.g s = some ((regOf s).1, (regOf s).2, ()) := by
 unfold regOf
 cases hf : (List.range 16).find? (fun k => regN k == s) with
 | some k =>
  obtain ⟨h1, h2⟩ := regOf_some hf
  have := (reg_fact k h1).2
  rw [h2] at this
  exact this
 | none =>
  have hno : ∀ k, k < 16 → regN k ≠ s := fun k hk e => by
   have := List.find?_eq_none.1 hf k (List.mem_range.2 hk)
   simp [e] at this
  unfold name_Reg.g name_Reg.f
  obtain ⟨v, b, hvb⟩ := atoi_some (L.cutRest s [82]) (by
   unfold L.cutRest Lib.trimPrefix
   split
   ·rw [List.length_drop]; omega
   ·omega)
  rw [hvb, Option.bind_some]
  dsimp only
  cases hc : L.cutIs s [82] with
  | false => rfl
  | true =>
   rw [if_pos (by decide)]
   cases b with
   | false => rfl
   | true =>
    rw [if_pos (by decide)]
    obtain ⟨t, ht, hk⟩ := regName_cases v
    rw [ht, Option.bind_some]
    dsimp only
    by_cases e : t = s
    ·have hne := cut_nil hc (by decide)
     obtain ⟨k, hk1, _, hk2⟩ := hk (by rw [e]; exact hne)
     exact absurd (hk2.symm.trans e) (hno k hk1)
    ·rw [if_pos (by simp [e])]
end Rv
namespace Rv
open Go
abbrev Item := Int × Int × Str × Unit
def needsR (x : Item) : Int × Bool :=
 if x.1 = 1 then (0, decide (x.2.2.1 = []))
 else if x.1 = 2 then (0, decide (x.2.1 = 0) && labelOk x.2.2.1)
 else if x.1 = 3 then (1, decide (x.2.1 = 0) && decide (x.2.2.1 = []))
 else if x.1 = 4 ∨ x.1 = 5 ∨ x.1 = 6 then (2, decide (x.2.1 = 0) && decide (x.2.2.1 = []))
 else (0, false)
theorem needs_eq (a b : Int) (c : Str) : expr_needs.g a b c = some ((needsR (a, b, c, ())).1, (needsR (a, b, c, ())).2, ()) := by
 unfold expr_needs.g expr_needs.f
 simp only [expr_needs.j2, dt, label_eq, Option.bind_some]
 unfold needsR
 dsimp only
 rcases propTF (b = 0) with hb | hb
 all_goals
  by_cases h1 : a = 1
  ·subst h1; simp only [hb, if_true, if_false, decide_true, decide_false]
  by_cases h2 : a = 2
  ·subst h2; simp only [hb, if_true, if_false, decide_true, decide_false, Bool.true_and, Bool.false_and, show ¬ ((2 : Int) = 1) by decide]
  by_cases h3 : a = 3
  ·subst h3; simp only [hb, if_true, if_false, decide_true, decide_false, Bool.true_and, Bool.false_and, show ¬ ((3 : Int) = 1) by decide, show ¬ ((3 : Int) = 2) by decide]
  by_cases h4 : a = 4
  ·subst h4; simp only [hb, if_true, if_false, decide_true, decide_false, Bool.true_and, Bool.false_and, true_or, show ¬ ((4 : Int) = 1) by decide, show ¬ ((4 : Int) = 2) by decide, show ¬ ((4 : Int) = 3) by decide]
  by_cases h5 : a = 5
  ·subst h5; simp only [hb, if_true, if_false, decide_true, decide_false, Bool.true_and, Bool.false_and, true_or, or_true, show ¬ ((5 : Int) = 1) by decide, show ¬ ((5 : Int) = 2) by decide, show ¬ ((5 : Int) = 3) by decide, show ¬ ((5 : Int) = 4) by decide]
  by_cases h6 : a = 6
  ·subst h6; simp only [hb, if_true, if_false, decide_true, decide_false, Bool.true_and, Bool.false_and, true_or, or_true, show ¬ ((6 : Int) = 1) by decide, show ¬ ((6 : Int) = 2) by decide, show ¬ ((6 : Int) = 3) by decide, show ¬ ((6 : Int) = 4) by decide, show ¬ ((6 : Int) = 5) by decide]
  simp only [hb, h1, h2, h3, h4, h5, h6, if_true, if_false, or_self]
def wellR : Int → List Item → Bool
 | t, [] => decide (t = 1)
 | t, x :: r => (needsR x).2 && (!decide (t < (needsR x).1) && wellR (t + (1 - (needsR x).1)) r)
def well (e : List Item) : Bool := wellR 0 e && decide (e.length ≤ 64)
theorem needs_range (x : Item) : 0 ≤ (needsR x).1 ∧ (needsR x).1 ≤ 2 := by
 unfold needsR
 split
 ·simp
 ·split
  ·simp
  ·split
   ·simp
   ·split <;> simp
theorem well_loop (e : List Item) (he : e.length ≤ 4611686018427387904) (n : Nat) : ∀ (m i : Nat) (t : Int), i ≤ e.length → e.length - i < m → 0 ≤ t → t ≤ i →
  expr_Well.l3 n m e t e (e.length : Int) (i : Int) = some (wellR t (e.drop i) && decide (e.length ≤ 64), ()) := by
 intro m
 induction m with
 | zero => intro i t _ h; omega
 | succ m ih =>
  intro i t hi hm h0 ht
  by_cases h1 : i < e.length
  ·have hx : e.drop i = e.getD i ((0 : Int), ((0 : Int), (([] : Str), ()))) :: e.drop (i + 1) := by
    rw [List.drop_eq_getElem_cons h1, List.getD_eq_getElem?_getD, List.getElem?_eq_getElem h1]; rfl
   rw [hx]
   simp only [expr_Well.l3, dt, df, needs_eq, Option.bind_some]
   rw [if_pos (by omega), if_pos (by omega), Int.toNat_natCast]
   generalize e.getD i ((0 : Int), ((0 : Int), (([] : Str), ()))) = x
   obtain ⟨a, b, c, u⟩ := x
   cases u
   have hr := needs_range (a, b, c, ())
   simp only [wellR]
   generalize needsR (a, b, c, ()) = y at *
   obtain ⟨k, ok⟩ := y
   simp only at hr ⊢
   cases ok
   ·rfl
   ·rw [if_pos (show (!true) = false from rfl)]
    by_cases h2 : t < k
    ·rw [if_pos h2]; simp [h2]
    ·rw [if_neg h2, w64 (x := 1 - k) (by omega), w64 (x := t + (1 - k)) (by omega), w64 (x := (i : Int) + 1) (by omega), show (i : Int) + 1 = ((i + 1 : Nat) : Int) by omega]
     rw [ih (i + 1) (t + (1 - k)) (by omega) (by omega) (by omega) (by omega)]
     simp [h2]
  ·have hi' : i = e.length := by omega
   subst hi'
   simp only [expr_Well.l3, dt]
   rw [if_neg (by omega), List.drop_length]
   simp only [wellR]
   by_cases h3 : t = 1
   ·rw [if_pos h3]
    simp [h3]
    omega
   ·rw [if_neg h3]; simp [h3]
theorem well_eq (e : List Item) (he : e.length ≤ 4611686018427387904) : expr_Well.g e = some (well e, ()) := by
 unfold expr_Well.g expr_Well.f
 exact well_loop e he _ _ 0 0 (by omega) (by omega) (by omega) (by omega)
end Rv
namespace Rv
open Go
def enough : Int → List Item → Option Int
 | t, [] => some t
 | t, x :: r => if (needsR x).2 = true ∧ ¬ t < (needsR x).1 then enough (t + (1 - (needsR x).1)) r else none
theorem wellR_enough : ∀ (e : List Item) (t : Int), (wellR t e = true) = (enough t e = some 1)
 | [], t => by simp [wellR, enough]
 | x :: r, t => by
  simp only [wellR, enough, Bool.and_eq_true, Bool.not_eq_true', decide_eq_false_iff_not]
  by_cases h : (needsR x).2 = true ∧ ¬ t < (needsR x).1
  ·rw [if_pos h, ← wellR_enough r]
   simp [h.1, h.2]
  ·rw [if_neg h]
   apply propext
   constructor
   ·intro h'; exact absurd ⟨h'.1, h'.2.1⟩ h
   ·intro h'; cases h'
theorem enough_app : ∀ (a b : List Item) (t : Int), enough t (a ++ b) = (enough t a).bind fun k => enough k b
 | [], b, t => rfl
 | x :: a, b, t => by
  simp only [List.cons_append, enough]
  split
  ·exact enough_app a b _
  ·rfl
def wellL (e : List Item) : Prop := enough 0 e = some 1
theorem enough_shift : ∀ (e : List Item) (t k j : Int), 0 ≤ j → enough t e = some k → enough (t + j) e = some (k + j)
 | [], t, k, j, _, h => by
  simp only [enough, Option.some.injEq] at h ⊢
  omega
 | x :: e, t, k, j, hj, h => by
  simp only [enough] at h ⊢
  split at h
  ·rename_i hc
   rw [if_pos ⟨hc.1, by omega⟩, show t + j + (1 - (needsR x).1) = (t + (1 - (needsR x).1)) + j by omega]
   exact enough_shift e _ k j hj h
  ·cases h
theorem well_of {e : List Item} (h : wellL e) (hl : e.length ≤ 64) : well e = true := by
 unfold well
 rw [Bool.and_eq_true, decide_eq_true_eq, wellR_enough]
 exact ⟨h, hl⟩
theorem well_two {a b : List Item} (ha : wellL a) (hb : wellL b) (x : Item) (hx : needsR x = (2, true)) : wellL (a ++ b ++ [x]) := by
 unfold wellL at *
 have h1 : enough 1 b = some 2 := enough_shift b 0 1 1 (by omega) hb
 rw [enough_app, enough_app, ha, Option.bind_some, h1, Option.bind_some]
 simp [enough, hx]
theorem well_one {a : List Item} (ha : wellL a) (x : Item) (hx : needsR x = (1, true)) : wellL (a ++ [x]) := by
 unfold wellL at *
 rw [enough_app, ha, Option.bind_some]
 simp [enough, hx]
end Rv
namespace Rv
open Go
def goodItem (x : Item) : Prop := 0 ≤ x.2.1 ∧ x.2.1 ≤ 4294967295 ∧ (needsR x).2 = true
theorem fit15_end (n : Nat) : ∀ (m : Nat) (out : List Item) (t : Int), enough 0 out = some t → 1 ≤ t → t ≤ 10 → out.length + t ≤ 20 → t.toNat < m → (∀ x ∈ out, goodItem x) →
  ∃ r, rivetref15_Fit.l21 n m out t = some (r, ()) ∧ wellL r ∧ r.length ≤ 19 ∧ ∀ x ∈ r, goodItem x := by
 intro m
 induction m with
 | zero => intro out t _ _ _ _ h; omega
 | succ m ih =>
  intro out t he h1 h10 hl hm hg
  simp only [rivetref15_Fit.l21, dt]
  by_cases h2 : 1 < t
  ·rw [if_pos h2, if_pos (by simp; omega), w64 (by omega)]
   refine ih _ (t - 1) ?_ (by omega) (by omega) (by simp; omega) (by omega) ?_
   ·rw [enough_app, he, Option.bind_some]
    have e0 : needsR ((4 : Int), 0, ([] : Str), ()) = (2, true) := rfl
    simp only [enough, e0]
    rw [if_pos ⟨trivial, by omega⟩]
    congr 1
   ·intro x hx
    rcases List.mem_append.1 hx with hx | hx
    ·exact hg x hx
    ·rw [List.mem_singleton] at hx
     subst hx
     exact ⟨by decide, by decide, rfl⟩
  ·rw [if_neg h2]
   have : t = 1 := by omega
   subst this
   exact ⟨out, rfl, he, by omega, hg⟩
theorem enough_snoc {out : List Item} {t k : Int} {x : Item} (he : enough 0 out = some t) (hx : needsR x = (k, true)) (hk : ¬ t < k) : enough 0 (out ++ [x]) = some (t + (1 - k)) := by
 rw [enough_app, he, Option.bind_some]
 simp only [enough, hx]
 rw [if_pos ⟨trivial, hk⟩]
theorem fit15_after (n : Nat) (hn : 100 ≤ n) (out : List Item) (t : Int) (he : enough 0 out = some t) (h0 : 0 ≤ t) (h10 : t ≤ out.length) (hl : out.length ≤ 10) (hg : ∀ x ∈ out, goodItem x) :
  ∃ r, rivetref15_Fit.j19 n out t = some (r, ()) ∧ wellL r ∧ r.length ≤ 19 ∧ ∀ x ∈ r, goodItem x := by
 unfold rivetref15_Fit.j19
 simp only [dt]
 by_cases h : t = 0
 ·rw [if_pos h]
  refine ⟨_, rfl, rfl, by simp, fun x hx => ?_⟩
  rw [List.mem_singleton] at hx
  subst hx
  exact ⟨by decide, by decide, rfl⟩
 ·rw [if_neg h]
  exact fit15_end n n out t he (by omega) (by omega) (by omega) (by omega) hg
end Rv
namespace Rv
open Go
theorem tmod6 (k : Int) : -6 < Int.tmod k 6 ∧ Int.tmod k 6 < 6 := by
 by_cases h : 0 ≤ k
 ·rw [Int.tmod_eq_emod_of_nonneg h]; omega
 ·have : k = -(-k) := by omega
  rw [this, Int.neg_tmod, Int.tmod_eq_emod_of_nonneg (by omega)]; omega
def kindOf (k : Int) : Int := IntKind.i64.wrap (1 + Int.tmod (IntKind.i64.wrap (Int.tmod k 6 + 6)) 6)
theorem kindOf_range (k : Int) : 1 ≤ kindOf k ∧ kindOf k ≤ 6 := by
 unfold kindOf
 have h1 := tmod6 k
 rw [w64 (x := Int.tmod k 6 + 6) (by omega), Int.tmod_eq_emod_of_nonneg (show 0 ≤ Int.tmod k 6 + 6 by omega), w64 (by omega)]
 omega
end Rv
namespace Rv
open Go
def wfItems (l : List Item) : Prop := ∀ x ∈ l, 0 ≤ x.2.1 ∧ x.2.1 ≤ 4294967295 ∧ x.2.2.1.length ≤ 9223372036854775807
theorem fit15_push (n : Nat) (rl) (l out : List Item) (t : Int) (i : Nat) (hi : i < 10) (hlen : out.length = i) (x : Item) :
  rivetref15_Fit.j18 n rl l out t (i : Int) x.1 x.2.1 x.2.2.1 = rl l (out ++ [x]) t ((i + 1 : Nat) : Int) := by
 unfold rivetref15_Fit.j18
 rw [if_pos (by simp; omega), w64 (by omega)]
 rfl
theorem getD_mem {l : List Item} {i : Nat} (h : i < l.length) (d : Item) : l.getD i d ∈ l := by
 rw [List.getD_eq_getElem?_getD, List.getElem?_eq_getElem h]; exact List.getElem_mem h
theorem fit15_j9 (n : Nat) (rl) (l out : List Item) (t : Int) (i : Nat) (hi : i < 10) (hil : i < l.length) (hlen : out.length = i) (ht : 0 ≤ t ∧ t ≤ i) (hw : wfItems l) (K : Int) (hK : 1 ≤ K ∧ K ≤ 6) (h3 : K = 3 → 1 ≤ t) (h4 : 4 ≤ K → 2 ≤ t) :
  ∃ x k, needsR x = (k, true) ∧ ¬ t < k ∧ goodItem x ∧ rivetref15_Fit.j9 n rl l out t (i : Int) K 0 ([] : Str) = rl l (out ++ [x]) (t + (1 - k)) ((i + 1 : Nat) : Int) := by
 have hx := hw _ (getD_mem hil ((0 : Int), ((0 : Int), (([] : Str), ()))))
 unfold rivetref15_Fit.j9
 simp only [dt, Int.toNat_natCast]
 generalize l.getD i ((0 : Int), ((0 : Int), (([] : Str), ()))) = y at hx ⊢
 obtain ⟨hy0, hy1, hy2⟩ := hx
 by_cases k1 : K = 1
 ·subst k1
  rw [if_pos rfl, if_pos (by omega), w64 (by omega)]
  refine ⟨((1 : Int), y.2.1, ([] : Str), ()), 0, rfl, by omega, ⟨hy0, hy1, rfl⟩, ?_⟩
  exact fit15_push n rl l out _ i hi hlen ((1 : Int), y.2.1, ([] : Str), ())
 ·rw [if_neg k1]
  by_cases k2 : K = 2
  ·subst k2
   have e1 : (mn (y.2.2.1.length : Int) 6) = ((min y.2.2.1.length 6 : Nat) : Int) := by unfold mn; split <;> omega
   obtain ⟨r, hr, hlab, _⟩ := fit13_label (y.2.2.1.take (min y.2.2.1.length 6)) (by simp; omega)
   have e2 : (y.2.2.1.take (mn (y.2.2.1.length : Int) 6).toNat).drop 0 = y.2.2.1.take (min y.2.2.1.length 6) := by rw [e1, Int.toNat_natCast, List.drop_zero]
   rw [if_pos rfl, if_pos (by omega), if_pos (by omega), if_pos (by rw [e1]; omega), e2, hr, Option.bind_some, w64 (by omega)]
   have hn : needsR ((2 : Int), 0, r, ()) = (0, true) := by
    unfold needsR
    simp [hlab]
   refine ⟨((2 : Int), 0, r, ()), 0, hn, by omega, ⟨Int.le_refl 0, (by decide : (0 : Int) ≤ 4294967295), by rw [hn]⟩, ?_⟩
   exact fit15_push n rl l out _ i hi hlen ((2 : Int), 0, r, ())
  ·rw [if_neg k2]
   by_cases k3 : K = 3
   ·subst k3
    rw [if_pos rfl]
    refine ⟨((3 : Int), 0, ([] : Str), ()), 1, rfl, by have := h3 rfl; omega, ⟨by decide, by decide, rfl⟩, ?_⟩
    rw [show t + (1 - 1) = t by omega]
    exact fit15_push n rl l out _ i hi hlen ((3 : Int), 0, ([] : Str), ())
   ·rw [if_neg k3, w64 (by omega)]
    have hn : needsR (K, 0, ([] : Str), ()) = (2, true) := by
     unfold needsR
     have : K = 4 ∨ K = 5 ∨ K = 6 := by omega
     simp [k1, k2, k3, this]
    refine ⟨(K, 0, ([] : Str), ()), 2, hn, by have := h4 (by omega); omega, ⟨Int.le_refl 0, (by decide : (0 : Int) ≤ 4294967295), by rw [hn]⟩, ?_⟩
    rw [show t + (1 - 2) = t - 1 by omega]
    exact fit15_push n rl l out _ i hi hlen (K, 0, ([] : Str), ())
theorem fit15_loop (l : List Item) (hl : l.length ≤ 9223372036854775807) (hw : wfItems l) (n : Nat) (hn : 100 ≤ n) : ∀ (m i : Nat) (out : List Item) (t : Int), i ≤ l.length → i ≤ 10 → 10 - i < m → out.length = i → enough 0 out = some t → 0 ≤ t → t ≤ i → (∀ x ∈ out, goodItem x) →
  ∃ r, rivetref15_Fit.l4 n m l out t (i : Int) = some (r, ()) ∧ wellL r ∧ r.length ≤ 19 ∧ ∀ x ∈ r, goodItem x := by
 intro m
 induction m with
 | zero => intro i out t _ _ h; omega
 | succ m ih =>
  intro i out t hi hi10 hm hlen he h0 ht hg
  have fin := fit15_after n hn out t he h0 (by omega) (by omega) hg
  simp only [rivetref15_Fit.l4, dt, df, Int.toNat_natCast]
  by_cases h1 : i < l.length
  ·rw [if_pos (show (i : Int) < l.length by omega)]
   by_cases h2 : i < 10
   ·rw [if_pos (show (i : Int) < 10 by omega), if_pos (by omega)]
    have hkk : IntKind.i64.wrap (1 + Int.tmod (IntKind.i64.wrap (Int.tmod (l.getD i ((0 : Int), ((0 : Int), (([] : Str), ())))).1 6 + 6)) 6) = kindOf (l.getD i ((0 : Int), ((0 : Int), (([] : Str), ())))).1 := rfl
    rw [hkk]
    have hK := kindOf_range (l.getD i ((0 : Int), ((0 : Int), (([] : Str), ())))).1
    generalize kindOf (l.getD i ((0 : Int), ((0 : Int), (([] : Str), ())))).1 = K at *
    have go : ∀ K : Int, 1 ≤ K ∧ K ≤ 6 → (K = 3 → 1 ≤ t) → (4 ≤ K → 2 ≤ t) → ∃ r, rivetref15_Fit.j9 n (rivetref15_Fit.l4 n m) l out t (i : Int) K 0 ([] : Str) = some (r, ()) ∧ wellL r ∧ r.length ≤ 19 ∧ ∀ x ∈ r, goodItem x := fun K hK h3 h4 => by
     obtain ⟨x, k, hx, hk, hgx, heq⟩ := fit15_j9 n (rivetref15_Fit.l4 n m) l out t i h2 h1 hlen ⟨h0, ht⟩ hw K hK h3 h4
     rw [heq]
     have hr := needs_range x
     rw [hx] at hr
     refine ih (i + 1) (out ++ [x]) (t + (1 - k)) (by omega) (by omega) (by omega) (by simp [hlen]) (enough_snoc he hx hk) (by simp at hr; omega) (by simp at hr; omega) fun y hy => ?_
     rcases List.mem_append.1 hy with hy | hy
     ·exact hg y hy
     ·rw [List.mem_singleton] at hy; subst hy; exact hgx
    by_cases k3 : K = 3
    ·rw [if_pos k3]
     by_cases t1 : t < 1
     ·rw [if_neg (by omega)]
      exact go 1 (by omega) (by omega) (by omega)
     ·rw [if_pos t1]
      by_cases k4 : 3 < K
      ·omega
      ·rw [if_neg k4]
       exact go K hK (by omega) (by omega)
    ·rw [if_neg k3]
     by_cases k4 : 3 < K
     ·rw [if_pos k4]
      by_cases t2 : t < 2
      ·rw [if_pos t2]
       exact go 1 (by omega) (by omega) (by omega)
      ·rw [if_neg t2]
       exact go K hK (by omega) (by omega)
     ·rw [if_neg k4]
      exact go K hK (by omega) (by omega)
   ·rw [if_neg (by omega)]
    exact fin
  ·rw [if_neg (by omega)]
   exact fin
theorem fit15_eq (l : List Item) (hl : l.length ≤ 9223372036854775807) (hw : wfItems l) : ∃ r, rivetref15_Fit.g l = some (r, ()) ∧ wellL r ∧ r.length ≤ 19 ∧ ∀ x ∈ r, goodItem x := by
 unfold rivetref15_Fit.g rivetref15_Fit.f
 exact fit15_loop l hl hw _ (by omega) _ 0 [] 0 (by omega) (by omega) (by omega) rfl rfl (by omega) (by omega) (fun x hx => by cases hx)
end Rv
namespace Rv
open Go
abbrev TokL := Int × Int × Str × Int × Unit
def preE (ts : List TokL) : Except Int (List TokL) → Except Int (List TokL)
 | .error e => .error e
 | .ok l => .ok (ts ++ l)
theorem preE_app (a b : List TokL) (x : Except Int (List TokL)) : preE (a ++ b) x = preE a (preE b x) := by cases x <;> simp [preE]
def okR (r : Str) : Prop := r = [] ∨ ∃ b y, r = b :: y ∧ isW b = false
theorem word_okR {s r : Str} (hs : s.all isW = true) (hr : okR r) : wordOf (s ++ r) = s := by
 rcases hr with rfl | ⟨b, y, rfl, hb⟩
 ·rw [List.append_nil]; exact wordOf_all hs
 ·unfold wordOf
  rw [takeW_app hb]
  exact wordOf_all hs
theorem line_word {s : Str} {c : UInt8} {t : Str} (hs : s = c :: t) (ha : s.all isW = true) {q v : Int} (hk : ∀ r, okR r → tokAt c (t ++ r) = .ok (0, q, s, v)) (k : Int) {r : Str} (hr : okR r) : lineR k (s ++ r) = preE [(q, k, s, v, ())] (lineR (k + s.length) r) := by
 subst hs
 have hW : isW c = true := by simp only [List.all_cons, Bool.and_eq_true] at ha; exact ha.1
 obtain ⟨h1, h2⟩ := blank_facts hW
 rw [List.cons_append, lineR_cons, if_neg h1, if_neg h2, hk r hr]
 dsimp only
 have hd : (t ++ r).drop (0 + (c :: t).length - 1) = r := by
  rw [List.length_cons, show 0 + (t.length + 1) - 1 = t.length by omega]
  exact List.drop_left' rfl
 rw [hd, show k + ((0 : Nat) : Int) + ((c :: t).length : Int) = k + ((c :: t).length : Int) by omega]
 cases lineR (k + ((c :: t).length : Int)) r <;> rfl
theorem line_sig (c : UInt8) (hc : c ∈ ([40, 41, 42, 43, 45] : Str)) (k : Int) (r : Str) : lineR k (c :: r) = preE [(3, k, [c], 0, ())] (lineR (k + 1) r) := by
 have step : isL c = false ∧ isD c = false ∧ c ≠ 46 ∧ isS c = true ∧ c ≠ 59 ∧ c ≠ 32 ∧ c ≠ 9 := by
  simp only [List.mem_cons, List.not_mem_nil, or_false] at hc
  rcases hc with rfl | rfl | rfl | rfl | rfl <;> decide
 obtain ⟨h1, h2, h3, h4, h5, h6, h7⟩ := step
 rw [lineR_cons, if_neg h5, if_neg (fun h => h.elim h6 h7)]
 unfold tokAt
 rw [if_neg (by simp [h1]), if_neg (by simp [h2]), if_neg (fun h => h3 h.1), if_pos h4]
 dsimp only
 rw [show k + ((0 : Nat) : Int) + (([c] : Str).length : Int) = k + 1 by simp, show 0 + ([c] : Str).length - 1 = 0 from rfl, List.drop_zero]
 cases lineR (k + 1) r <;> rfl
theorem line_blank (k : Int) (r : Str) : lineR k (32 :: r) = lineR (k + 1) r := by
 rw [lineR_cons, if_neg (by decide), if_pos (.inl rfl)]
end Rv
namespace Rv
open Go
inductive Opr
 | add | sub | mul
def Opr.kind : Opr → Int
 | .add => 4 | .sub => 5 | .mul => 6
def Opr.byte : Opr → UInt8
 | .add => 43 | .sub => 45 | .mul => 42
def Opr.tight : Opr → Nat
 | .mul => 1 | _ => 0
inductive Tr
 | num (n : Int) | nam (s : Str) | neg (x : Tr) | bin (o : Opr) (a b : Tr) | br (x : Tr)
namespace Tr
def post : Tr → List Item
 | .num n => [(1, n, [], ())]
 | .nam s => [(2, 0, s, ())]
 | .neg x => x.post ++ [(3, 0, [], ())]
 | .bin o a b => a.post ++ b.post ++ [(o.kind, 0, [], ())]
 | .br x => x.post
def ok : Tr → Prop
 | .num n => 0 ≤ n ∧ n ≤ 4294967295
 | .nam s => labelOk s = true
 | .neg x => x.ok
 | .bin _ a b => a.ok ∧ b.ok
 | .br x => x.ok
def plain : Tr → Prop
 | .neg x => x.plain
 | .bin _ a b => a.plain ∧ b.plain
 | .br _ => False
 | _ => True
def tight : Tr → Nat
 | .bin o _ _ => o.tight
 | _ => 2
end Tr
abbrev Bt := Int × Str × Int
def bare (t : TokL) : Bt := (t.1, t.2.2.1, t.2.2.2.1)
def tLp : Bt := (3, [40], 0)
def tRp : Bt := (3, [41], 0)
def tOp (o : Opr) : Bt := (3, [o.byte], 0)
def tNeg : Bt := (3, [45], 0)
def brk (b : Bool) (l : List Bt) : List Bt := if b then tLp :: (l ++ [tRp]) else l
namespace Tr
def toks : Tr → List Bt
 | .num n => [(2, Lib.itoa n, n)]
 | .nam s => [(1, s, 0)]
 | .neg x => tNeg :: brk (decide (x.tight < 2)) x.toks
 | .bin o a b => brk (decide (a.tight < o.tight)) a.toks ++ tOp o :: brk (decide (b.tight < o.tight + 1)) b.toks
 | .br x => tLp :: (x.toks ++ [tRp])
def toksA (lv : Nat) (x : Tr) : List Bt := brk (decide (x.tight < lv)) x.toks
def dep : Tr → Nat
 | .num _ => 0
 | .nam _ => 0
 | .neg x => 1 + (x.dep + if x.tight < 2 then 1 else 0)
 | .bin o a b => max (a.dep + if a.tight < o.tight then 1 else 0) (b.dep + if b.tight < o.tight + 1 then 1 else 0)
 | .br x => 1 + x.dep
def depA (lv : Nat) (x : Tr) : Nat := x.dep + if x.tight < lv then 1 else 0
theorem tight_le (x : Tr) : x.tight ≤ 2 := by cases x <;> simp [tight]; rename_i o _ _; cases o <;> simp [Opr.tight]
theorem post_pos : ∀ x : Tr, 1 ≤ x.post.length
 | .num _ => by simp [post]
 | .nam _ => by simp [post]
 | .neg _ => by simp [post]
 | .bin _ _ _ => by simp [post]; omega
 | .br x => post_pos x
def cnt (l : List Bt) : Nat := l.countP fun b => decide (b.2.1 = [45]) || decide (b.2.1 = [40])
theorem cnt_app (a b : List Bt) : cnt (a ++ b) = cnt a + cnt b := List.countP_append
theorem cnt_cons (b : Bt) (l : List Bt) : cnt (b :: l) = cnt l + if (decide (b.2.1 = [45]) || decide (b.2.1 = [40])) = true then 1 else 0 := by unfold cnt; rw [List.countP_cons]
theorem cnt_brk {b : Bool} {l : List Bt} {k : Nat} (h : k ≤ cnt l) : (k + if b = true then 1 else 0) ≤ cnt (brk b l) := by
 unfold brk
 cases b with
 | false => simpa using h
 | true =>
  simp only [if_true]
  rw [cnt_cons, cnt_app]
  simp [tLp]; omega
theorem dep_cnt : ∀ x : Tr, x.dep ≤ cnt x.toks
 | .num _ => Nat.zero_le _
 | .nam _ => Nat.zero_le _
 | .neg x => by
  have h := cnt_brk (b := decide (x.tight < 2)) (dep_cnt x)
  simp only [dep, toks, cnt_cons]
  simp only [decide_eq_true_eq] at h
  simp [tNeg]; omega
 | .bin o a b => by
  have h1 := cnt_brk (b := decide (a.tight < o.tight)) (dep_cnt a)
  have h2 := cnt_brk (b := decide (b.tight < o.tight + 1)) (dep_cnt b)
  simp only [decide_eq_true_eq] at h1 h2
  simp only [dep, toks, cnt_app, cnt_cons]
  omega
 | .br x => by
  have h := dep_cnt x
  simp only [dep, toks, cnt_cons, cnt_app]
  simp [tLp]; omega
theorem depA_cnt (lv : Nat) (x : Tr) : x.depA lv ≤ cnt (x.toksA lv) := by
 have h := cnt_brk (b := decide (x.tight < lv)) (dep_cnt x)
 simp only [decide_eq_true_eq] at h
 exact h
end Tr
theorem item_cases {x : Item} (h : (needsR x).2 = true) : (∃ n, x = (1, n, [], ())) ∨ (∃ s, x = (2, 0, s, ()) ∧ labelOk s = true) ∨ x = (3, 0, [], ()) ∨ ∃ o : Opr, x = (o.kind, 0, [], ()) := by
 obtain ⟨a, b, c, u⟩ := x
 cases u
 unfold needsR at h
 dsimp only at h
 split at h
 ·rename_i h1
  simp only [decide_eq_true_eq] at h
  exact .inl ⟨b, by rw [h1, h]⟩
 ·split at h
  ·rename_i h2
   simp only [Bool.and_eq_true, decide_eq_true_eq] at h
   exact .inr (.inl ⟨c, by rw [h2, h.1], h.2⟩)
  ·split at h
   ·rename_i h3
    simp only [Bool.and_eq_true, decide_eq_true_eq] at h
    exact .inr (.inr (.inl (by rw [h3, h.1, h.2])))
   ·split at h
    ·rename_i h4
     simp only [Bool.and_eq_true, decide_eq_true_eq] at h
     obtain ⟨rfl, rfl⟩ := h
     rcases h4 with rfl | rfl | rfl
     ·exact .inr (.inr (.inr ⟨.add, rfl⟩))
     ·exact .inr (.inr (.inr ⟨.sub, rfl⟩))
     ·exact .inr (.inr (.inr ⟨.mul, rfl⟩))
    ·cases h
theorem snocT (l : List Tr) : l = [] ∨ ∃ a x, l = a ++ [x] := by
 rcases List.eq_nil_or_concat l with h | ⟨a, x, h⟩
 ·exact .inl h
 ·exact .inr ⟨a, x, by simpa using h⟩
def posts (st : List Tr) : List Item := (st.map Tr.post).flatten
theorem posts_app (a b : List Tr) : posts (a ++ b) = posts a ++ posts b := by simp [posts]
theorem posts_one (x : Tr) : posts [x] = x.post := by simp [posts]
theorem trees_of : ∀ (e : List Item) (st : List Tr) (k : Int), enough (st.length : Int) e = some k → (∀ x ∈ e, goodItem x) → (∀ x ∈ st, x.ok ∧ x.plain) →
  ∃ st' : List Tr, (st'.length : Int) = k ∧ posts st ++ e = posts st' ∧ ∀ x ∈ st', x.ok ∧ x.plain
 | [], st, k, h, _, ho => by
  simp only [enough, Option.some.injEq] at h
  exact ⟨st, h, by simp, ho⟩
 | x :: e, st, k, h, hg, ho => by
  have hgx := hg x (by simp)
  unfold enough at h
  split at h
  case isFalse => cases h
  rename_i hc
  have push : ∀ (l : List Tr) (t : Tr), (∀ y ∈ l, y.ok ∧ y.plain) → t.ok ∧ t.plain → ((l.length : Int) + 1 = st.length + (1 - (needsR x).1)) → posts st ++ [x] = posts l ++ t.post → ∃ st' : List Tr, (st'.length : Int) = k ∧ posts st ++ x :: e = posts st' ∧ ∀ x ∈ st', x.ok ∧ x.plain := by
   intro l t hl ht hlen hp
   obtain ⟨st', h1, h2, h3⟩ := trees_of e (l ++ [t]) k (by rw [show ((l ++ [t]).length : Int) = st.length + (1 - (needsR x).1) by rw [← hlen]; simp]; exact h) (fun y hy => hg y (by simp [hy])) (fun y hy => by
    rcases List.mem_append.1 hy with hy | hy
    ·exact hl y hy
    ·rw [List.mem_singleton] at hy; subst hy; exact ht)
   refine ⟨st', h1, ?_, h3⟩
   rw [← h2, posts_app, posts_one, ← hp]; simp
  rcases item_cases hc.1 with ⟨n, rfl⟩ | ⟨s, rfl, hs⟩ | rfl | ⟨o, rfl⟩
  ·exact push st (.num n) ho ⟨⟨hgx.1, hgx.2.1⟩, trivial⟩ (by rw [show (needsR (1, n, [], ())).1 = 0 from rfl]; omega) rfl
  ·exact push st (.nam s) ho ⟨hs, trivial⟩ (by rw [show (needsR (2, 0, s, ())).1 = 0 from rfl]; omega) rfl
  ·have e1 : (needsR (3, 0, [], ())).1 = 1 := rfl
   rcases snocT st with rfl | ⟨l, v, rfl⟩
   ·exact absurd hc.2 (by rw [e1]; simp)
   ·have hv := ho v (by simp)
    exact push l (.neg v) (fun y hy => ho y (by simp [hy])) hv (by rw [e1]; simp <;> omega) (by rw [posts_app, posts_one]; simp [Tr.post])
  ·have e2 : (needsR (o.kind, 0, [], ())).1 = 2 := by cases o <;> rfl
   rcases snocT st with rfl | ⟨l0, v, rfl⟩
   ·exact absurd hc.2 (by rw [e2]; simp)
   ·rcases snocT l0 with rfl | ⟨l, w, rfl⟩
    ·exact absurd hc.2 (by rw [e2]; simp)
    ·exact push l (.bin o w v) (fun y hy => ho y (by simp [hy])) ⟨⟨(ho w (by simp)).1, (ho v (by simp)).1⟩, (ho w (by simp)).2, (ho v (by simp)).2⟩ (by rw [e2]; simp <;> omega) (by rw [posts_app, posts_app, posts_one, posts_one]; simp [Tr.post])
theorem tree_of {e : List Item} (h : wellL e) (hg : ∀ x ∈ e, goodItem x) : ∃ t : Tr, t.post = e ∧ t.ok ∧ t.plain := by
 obtain ⟨st, h1, h2, h3⟩ := trees_of e [] 1 h hg (fun x hx => by cases hx)
 match st, h1, h2, h3 with
 | [t], _, h2, h3 => exact ⟨t, by rw [posts_one] at h2; exact h2.symm, h3 t (by simp)⟩
 | [], h1, _, _ => simp at h1
 | _ :: _ :: _, h1, _, _ => simp at h1; omega
end Rv
namespace Rv
open Go
def dch (d : Nat) : UInt8 := if d < 10 then UInt8.ofNat (48 + d) else UInt8.ofNat (87 + d)
theorem dch_tab : ((List.range 16).all fun d => decide (digOf (dch d) = some d) && isW (dch d) && (decide (10 ≤ d) || isD (dch d)) && decide ((([48, 49, 50, 51, 52, 53, 54, 55, 56, 57, 97, 98, 99, 100, 101, 102] : Str).take (d + 1)).drop d = [dch d])) = true := by decide +kernel
theorem dch_facts {d : Nat} (h : d < 16) : digOf (dch d) = some d ∧ isW (dch d) = true ∧ (d < 10 → isD (dch d) = true) ∧ (([48, 49, 50, 51, 52, 53, 54, 55, 56, 57, 97, 98, 99, 100, 101, 102] : Str).take (d + 1)).drop d = [dch d] := by
 have := List.all_eq_true.1 dch_tab d (by simpa using h)
 simp only [Bool.and_eq_true, decide_eq_true_eq, Bool.or_eq_true] at this
 obtain ⟨⟨⟨h1, h2⟩, h3⟩, h4⟩ := this
 exact ⟨h1, h2, fun h => h3.resolve_left (by omega), h4⟩
def digs (b : Nat) : Nat → Nat → Str
 | 0, _ => []
 | k + 1, x => digs b k (x / b) ++ [dch (x % b)]
theorem digs_len (b : Nat) : ∀ (k x : Nat), (digs b k x).length = k
 | 0, _ => rfl
 | k + 1, x => by simp [digs, digs_len b k]
theorem numFrom_app (b : Nat) : ∀ (s t : Str) (v : Nat), numFrom b v (s ++ t) = (numFrom b v s).bind fun w => numFrom b w t
 | [], t, v => rfl
 | c :: s, t, v => by
  simp only [List.cons_append, numFrom]
  cases digOf c with
  | none => rfl
  | some d =>
   simp only
   split
   ·split
    ·exact numFrom_app b s t _
    ·rfl
   ·rfl
theorem numFrom_zeros (b : Nat) (hb : 0 < b) : ∀ z : Nat, numFrom b 0 (List.replicate z 48) = some 0
 | 0 => rfl
 | z + 1 => by
  rw [List.replicate_succ]
  have h : digOf 48 = some 0 := by decide
  simp only [numFrom, h]
  rw [if_pos hb, if_pos (by omega), Nat.zero_mul, Nat.add_zero]
  exact numFrom_zeros b hb z
theorem numFrom_digs (b : Nat) (hb : 2 ≤ b) (hb16 : b ≤ 16) (z : Nat) : ∀ (k x : Nat), x < b ^ k → x < 4294967296 → numFrom b 0 (List.replicate z 48 ++ digs b k x) = some x
 | 0, x, h, _ => by
  have : x = 0 := by simpa using h
  subst this
  rw [digs, List.append_nil]
  exact numFrom_zeros b (by omega) z
 | k + 1, x, h, hx => by
  rw [digs, ← List.append_assoc, numFrom_app]
  have h1 : x / b < b ^ k := by rw [Nat.div_lt_iff_lt_mul (by omega)]; rw [Nat.pow_succ] at h; exact h
  have h2 : x / b ≤ x := Nat.div_le_self _ _
  rw [numFrom_digs b hb hb16 z k (x / b) h1 (by omega)]
  have hd : x % b < b := Nat.mod_lt _ (by omega)
  simp only [Option.bind_some, numFrom, (dch_facts (show x % b < 16 by omega)).1]
  have e : x / b * b + x % b = x := by rw [Nat.mul_comm]; exact Nat.div_add_mod x b
  rw [if_pos hd, e, if_pos hx]
theorem digs_all (b : Nat) (hb : 2 ≤ b) (hb16 : b ≤ 16) (p : UInt8 → Bool) (hp : ∀ d, d < b → p (dch d) = true) : ∀ k x, (digs b k x).all p = true
 | 0, _ => rfl
 | k + 1, x => by
  rw [digs, List.all_append, digs_all b hb hb16 p hp k]
  have := hp (x % b) (Nat.mod_lt _ (by omega))
  simpa using this
theorem line_num (k : Int) {c : UInt8} {r : Str} (hD : isD c = true) (ha : (c :: r).all isW = true) : lineR k (c :: r) = match num (c :: r) with
  | some v => .ok [(2, k, c :: r, v, ())]
  | none => .error 21 := by
 have hW : isW c = true := by simp [isW, hD]
 obtain ⟨h1, h2⟩ := blank_facts hW
 have hL : ¬ isL c = true := by
  intro h
  unfold isL at h
  unfold isD at hD
  simp only [decide_eq_true_eq] at h hD
  omega
 rw [lineR_cons, if_neg h1, if_neg h2]
 unfold tokAt
 rw [if_neg hL, if_pos hD, wordOf_all ha]
 cases num (c :: r) with
 | none => rfl
 | some v =>
  simp only [List.length_cons]
  rw [List.drop_eq_nil_of_le (by omega), lineR_nil]
theorem tmod_nat (a b : Nat) : Int.tmod (a : Int) (b : Int) = ((a % b : Nat) : Int) := by
 rw [Int.tmod_eq_emod_of_nonneg (by omega)]; simp
theorem tdiv_nat (a b : Nat) : Int.tdiv (a : Int) (b : Int) = ((a / b : Nat) : Int) := by
 rw [Int.tdiv_eq_ediv_of_nonneg (by omega)]; simp
end Rv
namespace Rv
open Go
def brkT (b : Bool) (s : Str) : Str := if b then 40 :: (s ++ [41]) else s
namespace Tr
def txt : Tr → Str
 | .num n => Lib.itoa n
 | .nam s => s
 | .neg x => 45 :: brkT (decide (x.tight < 2)) x.txt
 | .bin o a b => brkT (decide (a.tight < o.tight)) a.txt ++ ([32, o.byte, 32] ++ brkT (decide (b.tight < o.tight + 1)) b.txt)
 | .br x => 40 :: (x.txt ++ [41])
end Tr
theorem dec_num : ∀ (n : Nat), n < 4294967296 → numFrom 10 0 (Lib.decDigits n) = some n := by
 intro n
 induction n using Nat.strongRecOn with
 | _ n ih =>
  intro hn
  rw [Lib.decDigits]
  have hd : ∀ d, d < 10 → digOf (UInt8.ofNat (48 + d)) = some d := fun d h => by
   have := (dch_facts (show d < 16 by omega)).1
   unfold dch at this
   rwa [if_pos h] at this
  split
  ·rename_i h
   simp only [numFrom, hd n h]
   rw [if_pos h, if_pos (by omega)]
   simp
  ·rename_i h
   rw [numFrom_app, ih (n / 10) (by omega) (by omega), Option.bind_some]
   simp only [numFrom, hd (n % 10) (by omega)]
   have e : n / 10 * 10 + n % 10 = n := by omega
   rw [if_pos (by omega), e, if_pos hn]
theorem dec_all : ∀ (n : Nat), (Lib.decDigits n).all isD = true ∧ Lib.decDigits n ≠ [] := by
 intro n
 induction n using Nat.strongRecOn with
 | _ n ih =>
  rw [Lib.decDigits]
  have hd : ∀ d, d < 10 → isD (UInt8.ofNat (48 + d)) = true := fun d h => by
   have := (dch_facts (show d < 16 by omega)).2.2.1 h
   unfold dch at this
   rwa [if_pos h] at this
  split
  ·rename_i h
   exact ⟨by rw [List.all_cons, hd n h]; rfl, by simp⟩
  ·rename_i h
   exact ⟨by rw [List.all_append, (ih (n / 10) (by omega)).1, List.all_cons, hd (n % 10) (by omega)]; rfl, by simp⟩
theorem dec_len : ∀ (k n : Nat), n < 10 ^ (k + 1) → (Lib.decDigits n).length ≤ k + 1
 | 0, n, h => by
  rw [Lib.decDigits, dif_pos (by simpa using h)]; simp
 | k + 1, n, h => by
  rw [Lib.decDigits]
  split
  ·simp
  ·have := dec_len k (n / 10) (by rw [Nat.div_lt_iff_lt_mul (by omega), ← Nat.pow_succ]; exact h)
   simp; omega
theorem line_dec (n : Int) (h : 0 ≤ n ∧ n ≤ 4294967295) (k : Int) {r : Str} (hr : okR r) : lineR k (Lib.itoa n ++ r) = preE [(2, k, Lib.itoa n, n, ())] (lineR (k + (Lib.itoa n).length) r) := by
 obtain ⟨m, rfl⟩ : ∃ m : Nat, n = m := ⟨n.toNat, by omega⟩
 have hi : Lib.itoa (m : Int) = Lib.decDigits m := by unfold Lib.itoa; rw [if_neg (by omega)]; rfl
 obtain ⟨hD, hne⟩ := dec_all m
 rw [hi]
 obtain ⟨c, t, hs⟩ : ∃ c t, Lib.decDigits m = c :: t := by
  cases hd : Lib.decDigits m with
  | nil => exact absurd hd hne
  | cons c t => exact ⟨c, t, rfl⟩
 have hW : (Lib.decDigits m).all isW = true := by
  rw [List.all_eq_true] at hD ⊢
  intro x hx
  have := hD x hx
  simp [isW, this]
 have hc : isD c = true := List.all_eq_true.1 hD c (by rw [hs]; simp)
 refine line_word hs hW (fun r hr => ?_) k hr
 have hL : ¬ isL c = true := by
  intro h
  unfold isL at h
  unfold isD at hc
  simp only [decide_eq_true_eq] at h hc
  omega
 have hword : wordOf (c :: (t ++ r)) = Lib.decDigits m := by
  rw [← List.cons_append, ← hs]; exact word_okR hW hr
 have hnum : num (Lib.decDigits m) = some m := by
  unfold num
  have : ¬ ([48, 120] : Str).isPrefixOf (Lib.decDigits m) = true := by
   intro hp
   rw [hs] at hp hD
   cases t with
   | nil => simp [List.isPrefixOf] at hp
   | cons b t =>
    have hb : isD b = true := List.all_eq_true.1 hD b (by simp)
    simp only [List.isPrefixOf, Bool.and_true, Bool.and_eq_true, beq_iff_eq] at hp
    rw [← hp.2] at hb
    exact absurd hb (by decide)
  rw [if_neg this, if_neg hne]
  exact dec_num m (by omega)
 unfold tokAt
 rw [if_neg hL, if_pos hc, hword, hnum]
theorem line_name' {s : Str} (h : labelOk s = true) (k : Int) {r : Str} (hr : okR r) : lineR k (s ++ r) = preE [(1, k, s, 0, ())] (lineR (k + s.length) r) := by
 unfold labelOk at h
 simp only [Bool.and_eq_true, decide_eq_true_eq, Bool.not_eq_true'] at h
 obtain ⟨⟨⟨⟨hne, _⟩, hD⟩, hW⟩, _⟩ := h
 obtain ⟨c, t, hs⟩ : ∃ c t, s = c :: t := by
  cases s with
  | nil => exact absurd rfl hne
  | cons c t => exact ⟨c, t, rfl⟩
 have hc : isL c = true := by
  have h1 : isW c = true := List.all_eq_true.1 hW c (by rw [hs]; simp)
  rw [hs] at hD
  have h2 : isD c = false := hD
  simpa [isW, h2] using h1
 refine line_word hs hW (fun r hr => ?_) k hr
 have hword : wordOf (c :: (t ++ r)) = s := by
  rw [← List.cons_append, ← hs]; exact word_okR hW hr
 unfold tokAt
 rw [if_pos hc, hword]
def Scans (s : Str) (b : List Bt) : Prop := ∀ k : Int, ∃ ts : List TokL, ts.map bare = b ∧ ∀ r, okR r → lineR k (s ++ r) = preE ts (lineR (k + s.length) r)
theorem Scans.sig (c : UInt8) (hc : c ∈ ([40, 41, 42, 43, 45] : Str)) : ∀ k : Int, ∃ ts : List TokL, ts.map bare = [(3, [c], 0)] ∧ ∀ r, lineR k ([c] ++ r) = preE ts (lineR (k + ([c] : Str).length) r) := fun k =>
 ⟨[(3, k, [c], 0, ())], rfl, fun r => line_sig c hc k r⟩
theorem Scans.brk {s : Str} {b : List Bt} (h : Scans s b) : Scans (40 :: (s ++ [41])) (tLp :: (b ++ [tRp])) := fun k => by
 obtain ⟨ts, h1, h2⟩ := h (k + 1)
 refine ⟨[(3, k, [40], 0, ())] ++ ts ++ [(3, k + 1 + s.length, [41], 0, ())], ?_, fun r hr => ?_⟩
 ·rw [List.map_append, List.map_append, h1]; rfl
 ·have e : (40 :: (s ++ [41])) ++ r = 40 :: (s ++ (41 :: r)) := by simp
  rw [e, line_sig 40 (by simp), h2 _ (.inr ⟨41, r, rfl, by decide⟩), line_sig 41 (by simp), ← preE_app, ← preE_app]
  congr 2
  simp; omega
theorem Scans.brkT {s : Str} {b : List Bt} (h : Scans s b) (x : Bool) : Scans (Rv.brkT x s) (Rv.brk x b) := by
 unfold Rv.brkT Rv.brk
 cases x with
 | false => exact h
 | true => exact h.brk
theorem scans_tree : ∀ t : Tr, t.ok → Scans t.txt t.toks
 | .num n, h => fun k => ⟨_, rfl, fun r hr => line_dec n h k hr⟩
 | .nam s, h => fun k => ⟨_, rfl, fun r hr => line_name' h k hr⟩
 | .neg x, h => fun k => by
  obtain ⟨ts, h1, h2⟩ := (scans_tree x h).brkT (decide (x.tight < 2)) (k + 1)
  refine ⟨[(3, k, [45], 0, ())] ++ ts, ?_, fun r hr => ?_⟩
  ·rw [List.map_append, h1]; rfl
  ·show lineR k (45 :: (Rv.brkT (decide (x.tight < 2)) x.txt ++ r)) = _
   rw [line_sig 45 (by simp), h2 r hr, ← preE_app]
   congr 2
   simp [Tr.txt]; omega
 | .br x, h => (scans_tree x h).brk
 | .bin o a b, h => fun k => by
  obtain ⟨t1, h1, h2⟩ := (scans_tree a h.1).brkT (decide (a.tight < o.tight)) k
  obtain ⟨t2, h3, h4⟩ := (scans_tree b h.2).brkT (decide (b.tight < o.tight + 1)) (k + (Rv.brkT (decide (a.tight < o.tight)) a.txt).length + 3)
  refine ⟨t1 ++ [(3, k + (Rv.brkT (decide (a.tight < o.tight)) a.txt).length + 1, [o.byte], 0, ())] ++ t2, ?_, fun r hr => ?_⟩
  ·rw [List.map_append, List.map_append, h1, h3, List.append_assoc]; rfl
  ·have e : (Tr.bin o a b).txt ++ r = Rv.brkT (decide (a.tight < o.tight)) a.txt ++ (32 :: o.byte :: 32 :: (Rv.brkT (decide (b.tight < o.tight + 1)) b.txt ++ r)) := by simp [Tr.txt]
   rw [e, h2 _ (.inr ⟨32, _, rfl, by decide⟩), line_blank, line_sig o.byte (by cases o <;> simp [Opr.byte]), line_blank]
   rw [show k + ((Rv.brkT (decide (a.tight < o.tight)) a.txt).length : Int) + 1 + 1 + 1 = k + (Rv.brkT (decide (a.tight < o.tight)) a.txt).length + 3 by omega, h4 r hr, ← preE_app, ← preE_app]
   congr 2
   simp [Tr.txt]; omega
theorem brkT_len (b : Bool) (s : Str) : (brkT b s).length ≤ s.length + 2 := by unfold brkT; split <;> simp
theorem txt_len : ∀ t : Tr, t.ok → t.plain → t.txt.length ≤ 20 * t.post.length
 | .num n, h, _ => by
  obtain ⟨m, rfl⟩ : ∃ m : Nat, n = m := ⟨n.toNat, by have := h.1; omega⟩
  have hi : Lib.itoa (m : Int) = Lib.decDigits m := by unfold Lib.itoa; rw [if_neg (by omega)]; rfl
  have := dec_len 9 m (by have h2 := h.2; omega)
  show (Lib.itoa (m : Int)).length ≤ 20 * 1
  rw [hi]; omega
 | .nam s, h, _ => by
  have h : labelOk s = true := h
  unfold labelOk at h
  simp only [Bool.and_eq_true, decide_eq_true_eq] at h
  have := h.1.1.1.2
  show s.length ≤ 20 * 1
  omega
 | .neg x, h, hp => by
  have h1 := txt_len x h hp
  have h2 := brkT_len (decide (x.tight < 2)) x.txt
  simp [Tr.txt, Tr.post]; omega
 | .br x, _, hp => hp.elim
 | .bin o a b, h, hp => by
  have h1 := txt_len a h.1 hp.1
  have h2 := txt_len b h.2 hp.2
  have h3 := brkT_len (decide (a.tight < o.tight)) a.txt
  have h4 := brkT_len (decide (b.tight < o.tight + 1)) b.txt
  simp [Tr.txt, Tr.post]; omega
end Rv
namespace Rv
open Go
abbrev dIt : Item := ((0 : Int), ((0 : Int), (([] : Str), ())))
theorem pat_eq (s : Str) (hs : s.length ≤ 1000000) (k lv : Nat) : expr_part_at.g s (k : Int) (lv : Int) = some (brkT (decide (k < lv)) s, ()) := by
 unfold expr_part_at.g expr_part_at.f brkT
 by_cases h : k < lv
 ·rw [if_pos (by simp; omega), if_pos (by simp; omega), if_pos (by simp; omega), if_pos (by simpa using h)]
  simp
 ·rw [if_neg (by simp; omega), if_neg (by simpa using h)]
theorem fu_eq (n : Int) (h : 0 ≤ n ∧ n ≤ 4294967295) : strconv_FormatUint.g (IntKind.u64.wrap n) 10 = some (Lib.itoa n, ()) := by
 rw [w64u (by omega)]
 unfold strconv_FormatUint.g strconv_FormatUint.f L.formatUintO
 rw [if_pos ⟨rfl, h.1, by omega⟩]
 rfl
def parts (st : List Tr) : List (Str × Int × Unit) := st.map fun t => (t.txt, (t.tight : Int), ())
theorem parts_len (st : List Tr) : (parts st).length = st.length := by simp [parts]
theorem parts_app (a b : List Tr) : parts (a ++ b) = parts a ++ parts b := by simp [parts]
theorem it_at {e : List Item} {i : Nat} {x : Item} {r : List Item} (h : e.drop i = x :: r) : i < e.length ∧ e.getD i dIt = x ∧ e.drop (i + 1) = r := by
 have hi : i < e.length := by
  apply Classical.byContradiction
  intro hn
  rw [List.drop_eq_nil_of_le (by omega)] at h
  cases h
 have hd : e.drop i = e.getD i dIt :: e.drop (i + 1) := by
  rw [List.drop_eq_getElem_cons hi, List.getD_eq_getElem?_getD, List.getElem?_eq_getElem hi]; rfl
 rw [hd, List.cons.injEq] at h
 exact ⟨hi, h.1, h.2⟩
theorem j23_eq (n : Nat) (rl) (st on : List Tr) (e : List Item) (i : Nat) (he : e.length ≤ 1000) (hi : i < e.length) (s : Str) (k : Int) (hst : st.length + on.length ≤ 1000) :
  expr_Print.j23 n rl (parts (st ++ on)) (on.length : Int) e (e.length : Int) (i : Int) s k = rl (parts st ++ [(s, k, ())]) e (e.length : Int) ((i + 1 : Nat) : Int) := by
 unfold expr_Print.j23
 have hl : (parts (st ++ on)).length = st.length + on.length := by rw [parts_len]; simp
 have hw : IntKind.i64.wrap (((parts (st ++ on)).length : Int) - (on.length : Int)) = (st.length : Int) := by rw [hl, w64 (by omega)]; omega
 have ht : (parts (st ++ on)).take st.length = parts st := by
  rw [parts_app]
  exact List.take_left' (parts_len st)
 rw [hw, hl, if_pos (by omega), Int.toNat_natCast, ht, if_pos (by rw [parts_len]; simp; omega), w64 (by omega)]
 rfl
theorem print_run (e : List Item) (he : e.length ≤ 1000) (n : Nat) : ∀ t : Tr, t.ok → t.plain → ∀ (st : List Tr) (m i : Nat) (rest : List Item), st.length + t.post.length ≤ 1000 → e.drop i = t.post ++ rest →
  expr_Print.l5 n (m + t.post.length) (parts st) e (e.length : Int) (i : Int) = expr_Print.l5 n m (parts (st ++ [t])) e (e.length : Int) ((i + t.post.length : Nat) : Int)
 | .num v, ho, hp, st, m, i, rest, hst, hd => by
  obtain ⟨h1, h2, _⟩ := it_at (x := (1, v, [], ())) (r := rest) hd
  show expr_Print.l5 n (m + 1) (parts st) e (e.length : Int) (i : Int) = _
  rw [expr_Print.l5]
  simp only [dt, Int.toNat_natCast]
  rw [if_pos (by omega), if_pos (by omega), h2]
  dsimp only
  rw [needs_eq, Option.bind_some]
  have e0 : (needsR (1, v, [], ())).1 = 0 := rfl
  dsimp only
  rw [e0, if_pos (by rw [parts_len, w64 (by simp [Tr.post] at hst; omega)]; omega), if_pos rfl, fu_eq v ho, Option.bind_some]
  have := j23_eq n (expr_Print.l5 n m) st [] e i he h1 (Lib.itoa v) 2 (by simp [Tr.post] at hst ⊢; omega)
  rw [List.append_nil] at this
  rw [show ((0 : Int)) = (([] : List Tr).length : Int) from rfl, this, parts_app]
  rfl
 | .nam s, ho, hp, st, m, i, rest, hst, hd => by
  obtain ⟨h1, h2, _⟩ := it_at (x := (2, 0, s, ())) (r := rest) hd
  show expr_Print.l5 n (m + 1) (parts st) e (e.length : Int) (i : Int) = _
  rw [expr_Print.l5]
  simp only [dt, Int.toNat_natCast]
  rw [if_pos (by omega), if_pos (by omega), h2]
  dsimp only
  rw [needs_eq, Option.bind_some]
  have e0 : (needsR (2, 0, s, ())).1 = 0 := rfl
  dsimp only
  rw [e0, if_pos (by rw [parts_len, w64 (by simp [Tr.post] at hst; omega)]; omega), if_neg (show ¬ (2 : Int) = 1 by decide), if_pos rfl]
  have := j23_eq n (expr_Print.l5 n m) st [] e i he h1 s 2 (by simp [Tr.post] at hst ⊢; omega)
  rw [List.append_nil] at this
  rw [show ((0 : Int)) = (([] : List Tr).length : Int) from rfl, this, parts_app]
  rfl
 | .neg x, ho, hp, st, m, i, rest, hst, hd => by
  have hP : (Tr.neg x).post = x.post ++ [(3, 0, [], ())] := rfl
  rw [hP, List.append_assoc] at hd
  rw [hP] at hst ⊢
  simp only [List.length_append, List.length_cons, List.length_nil] at hst ⊢
  have hx := print_run e he n x ho hp st (m + 1) i ((3, 0, [], ()) :: rest) (by omega) hd
  rw [show m + (x.post.length + (0 + 1)) = m + 1 + x.post.length by omega, hx]
  have hd2 : e.drop (i + x.post.length) = (3, 0, [], ()) :: rest := by
   rw [← List.drop_drop, hd]
   exact List.drop_left' rfl
  obtain ⟨h1, h2, _⟩ := it_at hd2
  have hl := txt_len x ho hp
  rw [expr_Print.l5]
  simp only [dt, Int.toNat_natCast]
  rw [if_pos (by omega), if_pos (by omega), h2]
  dsimp only
  rw [needs_eq, Option.bind_some]
  have e0 : (needsR (3, 0, [], ())).1 = 1 := rfl
  have hpl : (parts (st ++ [x])).length = st.length + 1 := by rw [parts_len]; simp
  have hw : IntKind.i64.wrap (((parts (st ++ [x])).length : Int) - 1) = (st.length : Int) := by rw [hpl, w64 (by omega)]; omega
  have hon : ((parts (st ++ [x])).take (parts (st ++ [x])).length).drop st.length = [(x.txt, (x.tight : Int), ())] := by
   rw [List.take_length, parts_app]
   exact List.drop_left' (parts_len st)
  dsimp only
  rw [e0, hw, if_pos (by rw [hpl]; omega), if_neg (show ¬ (3 : Int) = 1 by decide), if_neg (show ¬ (3 : Int) = 2 by decide), if_pos rfl]
  simp only [Int.toNat_natCast, hon]
  rw [if_pos (by simp), show ([(x.txt, (x.tight : Int), ())] : List (Str × Int × Unit)).getD (0 : Int).toNat (([] : Str), ((0 : Int), ())) = (x.txt, (x.tight : Int), ()) from rfl]
  dsimp only
  rw [show (2 : Int) = ((2 : Nat) : Int) from rfl, pat_eq x.txt (by omega), Option.bind_some]
  dsimp only
  have hb := brkT_len (decide (x.tight < 2)) x.txt
  rw [if_pos (by simp; omega)]
  have := j23_eq n (expr_Print.l5 n m) st [x] e (i + x.post.length) he h1 ([45] ++ brkT (decide (x.tight < 2)) x.txt) 2 (by simp; omega)
  rw [show (1 : Int) = (([x] : List Tr).length : Int) from rfl, show ((2 : Nat) : Int) = 2 from rfl, this, parts_app]
  rfl
 | .br x, _, hp, _, _, _, _, _, _ => hp.elim
 | .bin o a b, ho, hp, st, m, i, rest, hst, hd => by
  have hP : (Tr.bin o a b).post = a.post ++ b.post ++ [(o.kind, 0, [], ())] := rfl
  rw [hP, List.append_assoc, List.append_assoc] at hd
  rw [hP] at hst ⊢
  simp only [List.length_append, List.length_cons, List.length_nil] at hst ⊢
  have hxa := print_run e he n a ho.1 hp.1 st (m + 1 + b.post.length) i (b.post ++ ((o.kind, 0, [], ()) :: rest)) (by omega) hd
  have hd2 : e.drop (i + a.post.length) = b.post ++ ((o.kind, 0, [], ()) :: rest) := by
   rw [← List.drop_drop, hd]
   exact List.drop_left' rfl
  have hxb := print_run e he n b ho.2 hp.2 (st ++ [a]) (m + 1) (i + a.post.length) ((o.kind, 0, [], ()) :: rest) (by simp; omega) hd2
  rw [show m + (a.post.length + b.post.length + (0 + 1)) = m + 1 + b.post.length + a.post.length by omega, hxa, hxb]
  have hd3 : e.drop (i + a.post.length + b.post.length) = (o.kind, 0, [], ()) :: rest := by
   rw [← List.drop_drop, hd2]
   exact List.drop_left' rfl
  obtain ⟨h1, h2, _⟩ := it_at hd3
  have hla := txt_len a ho.1 hp.1
  have hlb := txt_len b ho.2 hp.2
  rw [expr_Print.l5]
  simp only [dt, Int.toNat_natCast]
  rw [if_pos (by omega), if_pos (by omega), h2]
  dsimp only
  rw [needs_eq, Option.bind_some]
  have e0 : (needsR (o.kind, 0, [], ())).1 = 2 := by cases o <;> rfl
  have hpl : (parts (st ++ [a] ++ [b])).length = st.length + 2 := by rw [parts_len]; simp
  have hw : IntKind.i64.wrap (((parts (st ++ [a] ++ [b])).length : Int) - 2) = (st.length : Int) := by rw [hpl, w64 (by omega)]; omega
  have hon : ((parts (st ++ [a] ++ [b])).take (parts (st ++ [a] ++ [b])).length).drop st.length = [(a.txt, (a.tight : Int), ()), (b.txt, (b.tight : Int), ())] := by
   rw [List.take_length, List.append_assoc, parts_app]
   exact List.drop_left' (parts_len st)
  dsimp only
  rw [e0, hw, if_pos (by rw [hpl]; omega), if_neg (show ¬ o.kind = 1 by cases o <;> decide), if_neg (show ¬ o.kind = 2 by cases o <;> decide), if_neg (show ¬ o.kind = 3 by cases o <;> decide)]
  simp only [Int.toNat_natCast, hon]
  have g0 : ([(a.txt, (a.tight : Int), ()), (b.txt, (b.tight : Int), ())] : List (Str × Int × Unit)).getD (0 : Int).toNat (([] : Str), ((0 : Int), ())) = (a.txt, (a.tight : Int), ()) := rfl
  have g1 : ([(a.txt, (a.tight : Int), ()), (b.txt, (b.tight : Int), ())] : List (Str × Int × Unit)).getD (1 : Int).toNat (([] : Str), ((0 : Int), ())) = (b.txt, (b.tight : Int), ()) := rfl
  simp only [g0, g1]
  have hb0 := brkT_len (decide (a.tight < 0)) a.txt
  have hb1 := brkT_len (decide (a.tight < 1)) a.txt
  have hc1 := brkT_len (decide (b.tight < 1)) b.txt
  have hc2 := brkT_len (decide (b.tight < 2)) b.txt
  have t0 : expr_part_at.g a.txt (a.tight : Int) (0 : Int) = some (brkT (decide (a.tight < 0)) a.txt, ()) := pat_eq a.txt (by omega) a.tight 0
  have t1 : expr_part_at.g a.txt (a.tight : Int) (1 : Int) = some (brkT (decide (a.tight < 1)) a.txt, ()) := pat_eq a.txt (by omega) a.tight 1
  have u1 : expr_part_at.g b.txt (b.tight : Int) (1 : Int) = some (brkT (decide (b.tight < 1)) b.txt, ()) := pat_eq b.txt (by omega) b.tight 1
  have u2 : expr_part_at.g b.txt (b.tight : Int) (2 : Int) = some (brkT (decide (b.tight < 2)) b.txt, ()) := pat_eq b.txt (by omega) b.tight 2
  have fin := fun s k => j23_eq n (expr_Print.l5 n m) st [a, b] e (i + a.post.length + b.post.length) he h1 s k (by have := Tr.post_pos a; have := Tr.post_pos b; simp only [List.length_cons, List.length_nil]; omega)
  have hab : st ++ [a] ++ [b] = st ++ [a, b] := by simp
  rw [hab]
  cases o with
  | add =>
   rw [if_pos (show Opr.add.kind = 4 from rfl), if_pos (by simp), t0, Option.bind_some]
   dsimp only [Opr.tight]
   rw [if_pos (by simp only [List.length_append, List.length_cons, List.length_nil]; omega), if_pos (by simp), u1, Option.bind_some]
   dsimp only
   rw [if_pos (by simp only [List.length_append, List.length_cons, List.length_nil]; omega), show (2 : Int) = (([a, b] : List Tr).length : Int) from rfl, fin, parts_app, List.append_assoc, show i + a.post.length + b.post.length + 1 = i + (a.post.length + b.post.length + (0 + 1)) by omega]
   rfl
  | sub =>
   rw [if_neg (show ¬ Opr.sub.kind = 4 by decide), if_pos (show Opr.sub.kind = 5 from rfl), if_pos (by simp), t0, Option.bind_some]
   dsimp only [Opr.tight]
   rw [if_pos (by simp only [List.length_append, List.length_cons, List.length_nil]; omega), if_pos (by simp), u1, Option.bind_some]
   dsimp only
   rw [if_pos (by simp only [List.length_append, List.length_cons, List.length_nil]; omega), show (2 : Int) = (([a, b] : List Tr).length : Int) from rfl, fin, parts_app, List.append_assoc, show i + a.post.length + b.post.length + 1 = i + (a.post.length + b.post.length + (0 + 1)) by omega]
   rfl
  | mul =>
   rw [if_neg (show ¬ Opr.mul.kind = 4 by decide), if_neg (show ¬ Opr.mul.kind = 5 by decide), if_pos (show Opr.mul.kind = 6 from rfl), if_pos (by simp), t1, Option.bind_some]
   dsimp only [Opr.tight]
   rw [if_pos (by simp only [List.length_append, List.length_cons, List.length_nil]; omega), if_pos (by simp), u2, Option.bind_some]
   dsimp only
   rw [if_pos (by simp only [List.length_append, List.length_cons, List.length_nil]; omega), show (2 : Int) = (([a, b] : List Tr).length : Int) from rfl, fin, parts_app, List.append_assoc, show i + a.post.length + b.post.length + 1 = i + (a.post.length + b.post.length + (0 + 1)) by omega]
   rfl
theorem eprint_eq {t : Tr} (ho : t.ok) (hp : t.plain) (hw : wellL t.post) (hl : t.post.length ≤ 64) : expr_Print.g t.post = some (t.txt, 0, ()) := by
 unfold expr_Print.g expr_Print.f
 rw [well_eq t.post (by omega), well_of hw hl, Option.bind_some]
 dsimp only
 rw [if_neg (show ¬ (!true) = true by decide)]
 obtain ⟨N, hN⟩ : ∃ N, 1000 + t.post.length = N + 1 + t.post.length := ⟨999, by omega⟩
 rw [hN]
 have := print_run t.post (by omega) (N + 1 + t.post.length) t ho hp [] (N + 1) 0 [] (by simp; omega) (by simp)
 rw [show parts [] = [] from rfl, show ((0 : Nat) : Int) = 0 from rfl] at this
 rw [this, expr_Print.l5]
 simp only [dt]
 rw [if_neg (by omega), if_pos (by rw [parts_len]; simp)]
 rfl
end Rv
namespace Rv
open Go
abbrev R := rec_expr_parser_sum
abbrev dTok : TokL := ((0 : Int), ((0 : Int), (([] : Str), ((0 : Int), ()))))
theorem next_at (l : List TokL) (p : Nat) (out : List Item) (hp : p < l.length) : expr_parser_next.g l p out 0 = some ((l.getD p dTok).1, (l.getD p dTok).2.1, (l.getD p dTok).2.2.1, (l.getD p dTok).2.2.2.1, true, l, (p : Int), out, 0, ()) := by
 unfold expr_parser_next.g expr_parser_next.f
 simp only [df, dt]
 rw [if_pos (by simp), if_pos (by omega), if_neg (by omega), if_pos (by omega), Int.toNat_natCast]
theorem next_end (l : List TokL) (p : Nat) (out : List Item) (hp : l.length ≤ p) : expr_parser_next.g l p out 0 = some (0, 0, [], 0, false, l, (p : Int), out, 0, ()) := by
 unfold expr_parser_next.g expr_parser_next.f
 simp only [df, dt]
 rw [if_pos (by simp), if_pos (by omega), if_pos (by omega)]
theorem next_err (l : List TokL) (p : Int) (out : List Item) (e : Int) (he : e ≠ 0) : expr_parser_next.g l p out e = some (0, 0, [], 0, false, l, p, out, e, ()) := by
 unfold expr_parser_next.g expr_parser_next.f
 simp only [df]
 rw [if_neg (by simpa using he)]
theorem sign_loop (n : Nat) (all : List Str) (hall : all.length ≤ 100) (ok : Bool) (l : List TokL) (p : Int) (out : List Item) (e k a : Int) (tx : Str) (nn : Int) : ∀ (m i : Nat), i ≤ all.length → all.length - i < m →
  expr_parser_sign.l3 n m ok all (all.length : Int) (i : Int) l p out e k a tx nn = if ok = true ∧ k = 3 ∧ tx ∈ all.drop i then some (tx, true, l, IntKind.i64.wrap (p + 1), out, e, ()) else some ([], false, l, p, out, e, ()) := by
 intro m
 induction m with
 | zero => intro i _ h; omega
 | succ m ih =>
  intro i hi hm
  rw [expr_parser_sign.l3]
  simp only [dt, expr_parser_sign.j8, Int.toNat_natCast]
  by_cases h : i < all.length
  ·have hd : all.drop i = all.getD i [] :: all.drop (i + 1) := by
    rw [List.drop_eq_getElem_cons h, List.getD_eq_getElem?_getD, List.getElem?_eq_getElem h]; rfl
   have hih := ih (i + 1) (by omega) (by omega)
   rw [if_pos (by omega), if_pos (by omega), w64 (x := (i : Int) + 1) (by omega), show (i : Int) + 1 = ((i + 1 : Nat) : Int) by omega, hih, hd]
   generalize all.getD i [] = s
   by_cases h1 : ok = true
   ·rw [if_pos h1]
    by_cases h2 : k = 3
    ·rw [if_pos h2]
     by_cases h3 : tx = s
     ·rw [if_pos h3, if_pos ⟨h1, h2, by simp [h3]⟩, h3]
     ·rw [if_neg h3]
      by_cases h4 : tx ∈ all.drop (i + 1)
      ·rw [if_pos ⟨h1, h2, h4⟩, if_pos ⟨h1, h2, by simp [h4]⟩]
      ·rw [if_neg (fun h => h4 h.2.2), if_neg (fun h => by simp [h3, h4] at h)]
    ·rw [if_neg h2, if_neg (fun h => h2 h.2.1), if_neg (fun h => h2 h.2.1)]
   ·rw [if_neg h1, if_neg (fun h => h1 h.1), if_neg (fun h => h1 h.1)]
  ·have : i = all.length := by omega
   subst this
   rw [if_neg (by omega), if_neg (fun h => by simp at h)]
theorem sign_err (all : List Str) (hall : all.length ≤ 100) (l : List TokL) (p : Int) (out : List Item) (e : Int) (he : e ≠ 0) : expr_parser_sign.g all l p out e = some ([], false, l, p, out, e, ()) := by
 unfold expr_parser_sign.g expr_parser_sign.f
 rw [next_err l p out e he, Option.bind_some]
 have := sign_loop (1000 + all.length + l.length + p.toNat + out.length + e.toNat) all hall false l p out e 0 0 [] 0 (1000 + all.length + l.length + p.toNat + out.length + e.toNat) 0 (by omega) (by omega)
 rw [if_neg (fun h => by cases h.1)] at this
 exact this
def At (l : List TokL) (p : Nat) (k : List Bt) : Prop := (l.drop p).map bare = k
theorem At.cons {l : List TokL} {p : Nat} {b : Bt} {k : List Bt} (h : At l p (b :: k)) : p < l.length ∧ bare (l.getD p dTok) = b ∧ At l (p + 1) k := by
 unfold At at h
 have hp : p < l.length := by
  apply Classical.byContradiction
  intro hn
  rw [List.drop_eq_nil_of_le (by omega)] at h
  cases h
 have hd : l.drop p = l.getD p dTok :: l.drop (p + 1) := by
  rw [List.drop_eq_getElem_cons hp, List.getD_eq_getElem?_getD, List.getElem?_eq_getElem hp]; rfl
 rw [hd, List.map_cons, List.cons.injEq] at h
 exact ⟨hp, h.1, h.2⟩
theorem At.app {l : List TokL} {k' : List Bt} : ∀ {k : List Bt} {p : Nat}, At l p (k ++ k') → At l (p + k.length) k' ∧ p + k.length ≤ l.length ∨ k = []
 | [], _, _ => .inr rfl
 | b :: k, p, h => by
  obtain ⟨h1, _, h3⟩ := At.cons h
  rcases At.app h3 with ⟨h4, h5⟩ | rfl
  ·left
   rw [List.length_cons, show p + (k.length + 1) = p + 1 + k.length by omega]
   exact ⟨h4, h5⟩
  ·left; exact ⟨h3, by simp; omega⟩
theorem At.app' {l : List TokL} {k k' : List Bt} {p : Nat} (h : At l p (k ++ k')) : At l (p + k.length) k' := by
 rcases At.app h with ⟨h, _⟩ | rfl
 ·exact h
 ·exact h
theorem At.len {l : List TokL} {k k' : List Bt} {p : Nat} (h : At l p (k ++ k')) (hk : k ≠ []) : p + k.length ≤ l.length := by
 rcases At.app h with ⟨_, h⟩ | rfl
 ·exact h
 ·exact absurd rfl hk
def noS (all : List Str) (k : List Bt) : Prop := ∀ b r, k = b :: r → ¬ (b.1 = 3 ∧ b.2.1 ∈ all)
theorem sign_yes (all : List Str) (hall : all.length ≤ 100) {l : List TokL} {p : Nat} {s : Str} {v : Int} {k : List Bt} (h : At l p ((3, s, v) :: k)) (hl : l.length ≤ 1000000) (hs : s ∈ all) (out : List Item) : expr_parser_sign.g all l p out 0 = some (s, true, l, ((p + 1 : Nat) : Int), out, 0, ()) := by
 obtain ⟨h1, h2, _⟩ := At.cons h
 unfold expr_parser_sign.g expr_parser_sign.f
 rw [next_at l p out h1, Option.bind_some]
 simp only [bare, Prod.mk.injEq] at h2
 have := sign_loop (1000 + all.length + l.length + (p : Int).toNat + out.length + (0 : Int).toNat) all hall true l p out 0 (l.getD p dTok).1 (l.getD p dTok).2.1 (l.getD p dTok).2.2.1 (l.getD p dTok).2.2.2.1 (1000 + all.length + l.length + (p : Int).toNat + out.length + (0 : Int).toNat) 0 (by omega) (by omega)
 rw [if_pos ⟨rfl, h2.1, by rw [h2.2.1]; simpa using hs⟩, h2.2.1, w64 (by omega)] at this
 dsimp only
 rw [h2.2.1]
 exact this
theorem sign_no (all : List Str) (hall : all.length ≤ 100) {l : List TokL} {p : Nat} {k : List Bt} (h : At l p k) (hs : noS all k) (out : List Item) : expr_parser_sign.g all l p out 0 = some ([], false, l, (p : Int), out, 0, ()) := by
 unfold expr_parser_sign.g expr_parser_sign.f
 cases k with
 | nil =>
  have hp : l.length ≤ p := by
   unfold At at h
   have := congrArg List.length h
   simp at this; omega
  rw [next_end l p out hp, Option.bind_some]
  have := sign_loop (1000 + all.length + l.length + (p : Int).toNat + out.length + (0 : Int).toNat) all hall false l p out 0 0 0 [] 0 (1000 + all.length + l.length + (p : Int).toNat + out.length + (0 : Int).toNat) 0 (by omega) (by omega)
  rw [if_neg (fun h => by cases h.1)] at this
  exact this
 | cons b r =>
  obtain ⟨h1, h2, _⟩ := At.cons h
  rw [next_at l p out h1, Option.bind_some]
  have hb := hs b r rfl
  have := sign_loop (1000 + all.length + l.length + (p : Int).toNat + out.length + (0 : Int).toNat) all hall true l p out 0 (l.getD p dTok).1 (l.getD p dTok).2.1 (l.getD p dTok).2.2.1 (l.getD p dTok).2.2.2.1 (1000 + all.length + l.length + (p : Int).toNat + out.length + (0 : Int).toNat) 0 (by omega) (by omega)
  rw [if_neg (fun h => hb (by rw [← h2]; exact ⟨h.2.1, h.2.2⟩))] at this
  exact this
theorem put_eq (a b : Int) (c : Str) (l : List TokL) (p : Int) (out : List Item) (e : Int) (ho : out.length ≤ 1000000) : expr_parser_put.g a b c l p out e = some (l, p, out ++ [(a, b, c, ())], e, ()) := by
 unfold expr_parser_put.g expr_parser_put.f
 rw [if_pos (by simp; omega)]
theorem fail_eq (x : Int) (l : List TokL) (p : Int) (out : List Item) : expr_parser_fail.g x l p out 0 = some (l, p, out, x, ()) := by
 unfold expr_parser_fail.g expr_parser_fail.f
 rw [if_pos (by decide)]
abbrev sMul : List Str := [[42]]
abbrev sAdd : List Str := [[43], [45]]
def okF (t : Tr) : Prop := ∀ (l : List TokL) (p : Nat) (out : List Item) (rest : List Bt) (d q : Nat), l.length ≤ 1000000 → out.length + t.post.length ≤ 1000000 → At l p (t.toksA 2 ++ rest) → d ≤ 9 → 6 * (9 - d) + 1 ≤ q →
 (d + t.depA 2 ≤ 8 → (R q).expr_parser_factor (d : Int) l p out 0 = some (l, ((p + (t.toksA 2).length : Nat) : Int), out ++ t.post, 0, ())) ∧
 (¬ d + t.depA 2 ≤ 8 → ∃ (p' : Int) (out' : List Item), (R q).expr_parser_factor (d : Int) l p out 0 = some (l, p', out', 24, ()) ∧ out'.length ≤ out.length + t.post.length)
def mc : Tr → Nat
 | .bin .mul a _ => mc a + 1
 | _ => 0
def okT (t : Tr) : Prop := ∀ (l : List TokL) (p : Nat) (out : List Item) (rest : List Bt) (d q m n : Nat), l.length ≤ 1000000 → out.length + t.post.length ≤ 1000000 → At l p (t.toksA 1 ++ rest) → d ≤ 9 → 6 * (9 - d) + 2 ≤ q → mc t < m →
 (d + t.depA 1 ≤ 8 → ((R q).expr_parser_sum_1_1 (d : Int) l p out 0).bind (fun y1 => expr_parser_row_c201.l1 n (R q) m sMul y1.2.2.1 y1.2.2.2.1 y1.2.2.2.2.1 y1.2.2.2.2.2.1 y1.2.1) = expr_parser_row_c201.l1 n (R q) (m - mc t) sMul l ((p + (t.toksA 1).length : Nat) : Int) (out ++ t.post) 0 (d : Int)) ∧
 (¬ d + t.depA 1 ≤ 8 → ∃ (p' : Int) (out' : List Item), ((R q).expr_parser_sum_1_1 (d : Int) l p out 0).bind (fun y1 => expr_parser_row_c201.l1 n (R q) m sMul y1.2.2.1 y1.2.2.2.1 y1.2.2.2.2.1 y1.2.2.2.2.2.1 y1.2.1) = some (l, p', out', 24, (), (d : Int), ()) ∧ out'.length ≤ out.length + t.post.length)
def ac : Tr → Nat
 | .bin .add a _ => ac a + 1
 | .bin .sub a _ => ac a + 1
 | _ => 0
def okS (t : Tr) : Prop := ∀ (l : List TokL) (p : Nat) (out : List Item) (rest : List Bt) (d q m n : Nat), l.length ≤ 1000000 → out.length + t.post.length ≤ 1000000 → At l p (t.toks ++ rest) → noS sMul rest → d ≤ 9 → 6 * (9 - d) + 4 ≤ q → ac t < m →
 (d + t.dep ≤ 8 → ((R q).expr_parser_sum_1 (d : Int) l p out 0).bind (fun y1 => expr_parser_row_c200.l1 n (R q) m sAdd y1.2.2.1 y1.2.2.2.1 y1.2.2.2.2.1 y1.2.2.2.2.2.1 y1.2.1) = expr_parser_row_c200.l1 n (R q) (m - ac t) sAdd l ((p + t.toks.length : Nat) : Int) (out ++ t.post) 0 (d : Int)) ∧
 (¬ d + t.dep ≤ 8 → ∃ (p' : Int) (out' : List Item), ((R q).expr_parser_sum_1 (d : Int) l p out 0).bind (fun y1 => expr_parser_row_c200.l1 n (R q) m sAdd y1.2.2.1 y1.2.2.2.1 y1.2.2.2.2.1 y1.2.2.2.2.2.1 y1.2.1) = some (l, p', out', 24, (), (d : Int), ()) ∧ out'.length ≤ out.length + t.post.length)
theorem mc_le : ∀ t : Tr, mc t ≤ t.post.length
 | .num _ => Nat.zero_le _
 | .nam _ => Nat.zero_le _
 | .neg _ => Nat.zero_le _
 | .bin .mul a b => by have := mc_le a; simp [mc, Tr.post]; omega
 | .bin .add _ _ => Nat.zero_le _
 | .bin .sub _ _ => Nat.zero_le _
 | .br _ => Nat.zero_le _
theorem ac_le : ∀ t : Tr, ac t ≤ t.post.length
 | .num _ => Nat.zero_le _
 | .nam _ => Nat.zero_le _
 | .neg _ => Nat.zero_le _
 | .bin .mul _ _ => Nat.zero_le _
 | .bin .add a b => by have := ac_le a; simp [ac, Tr.post]; omega
 | .bin .sub a b => by have := ac_le a; simp [ac, Tr.post]; omega
 | .br _ => Nat.zero_le _
end Rv
namespace Rv
open Go
theorem fail_err (x : Int) (l : List TokL) (p : Int) (out : List Item) (e : Int) (he : e ≠ 0) : expr_parser_fail.g x l p out e = some (l, p, out, e, ()) := by
 unfold expr_parser_fail.g expr_parser_fail.f
 rw [if_neg (by simpa using he)]
theorem l52_err (n : Nat) (r : Rec_expr_parser_sum) (m : Nat) (l : List TokL) (p : Int) (out : List Item) (e d : Int) (he : e ≠ 0) : expr_parser_row_c201.l1 n r (m + 1) sMul l p out e d = some (l, p, out, e, (), d, ()) := by
 rw [expr_parser_row_c201.l1, sign_err sMul (by simp) l p out e he, Option.bind_some]
 rfl
theorem l51_err (n : Nat) (r : Rec_expr_parser_sum) (m : Nat) (l : List TokL) (p : Int) (out : List Item) (e d : Int) (he : e ≠ 0) : expr_parser_row_c200.l1 n r (m + 1) sAdd l p out e d = some (l, p, out, e, (), d, ()) := by
 rw [expr_parser_row_c200.l1, sign_err sAdd (by simp) l p out e he, Option.bind_some]
 rfl
theorem l52_exit (n : Nat) (r : Rec_expr_parser_sum) (m : Nat) {l : List TokL} {p : Nat} {k : List Bt} (h : At l p k) (hs : noS sMul k) (out : List Item) (d : Int) : expr_parser_row_c201.l1 n r (m + 1) sMul l p out 0 d = some (l, (p : Int), out, 0, (), d, ()) := by
 rw [expr_parser_row_c201.l1, sign_no sMul (by simp) h hs out, Option.bind_some]
 rfl
theorem l51_exit (n : Nat) (r : Rec_expr_parser_sum) (m : Nat) {l : List TokL} {p : Nat} {k : List Bt} (h : At l p k) (hs : noS sAdd k) (out : List Item) (d : Int) : expr_parser_row_c200.l1 n r (m + 1) sAdd l p out 0 d = some (l, (p : Int), out, 0, (), d, ()) := by
 rw [expr_parser_row_c200.l1, sign_no sAdd (by simp) h hs out, Option.bind_some]
 rfl
theorem F_deep (q : Nat) (l : List TokL) (p : Int) (out : List Item) : (R (q + 1)).expr_parser_factor 9 l p out 0 = some (l, p, out, 24, ()) := by
 show expr_parser_factor.h (R q) 9 l p out 0 = _
 unfold expr_parser_factor.h expr_parser_factor.f
 rw [if_neg (by decide), if_pos (by decide), fail_eq, Option.bind_some]
theorem F_intro {t : Tr} (H : ∀ (l : List TokL) (p : Nat) (out : List Item) (rest : List Bt) (d q : Nat), l.length ≤ 1000000 → out.length + t.post.length ≤ 1000000 → At l p (t.toksA 2 ++ rest) → d ≤ 8 → 6 * (9 - d) ≤ q →
  (d + t.depA 2 ≤ 8 → expr_parser_factor.h (R q) (d : Int) l p out 0 = some (l, ((p + (t.toksA 2).length : Nat) : Int), out ++ t.post, 0, ())) ∧
  (¬ d + t.depA 2 ≤ 8 → ∃ (p' : Int) (out' : List Item), expr_parser_factor.h (R q) (d : Int) l p out 0 = some (l, p', out', 24, ()) ∧ out'.length ≤ out.length + t.post.length)) : okF t := by
 intro l p out rest d q hl ho hat hd hq
 obtain ⟨q, rfl⟩ : ∃ q', q = q' + 1 := ⟨q - 1, by omega⟩
 by_cases h9 : d = 9
 ·subst h9
  refine ⟨fun h => absurd h (by omega), fun _ => ⟨(p : Int), out, F_deep q l p out, by omega⟩⟩
 ·exact H l p out rest d q hl ho hat (by omega) (by omega)
theorem noS_kind {all : List Str} {b : Bt} {r : List Bt} (h : b.1 ≠ 3) : noS all (b :: r) := fun b' r' e h' => by cases e; exact h h'.1
theorem noS_text {all : List Str} {b : Bt} {r : List Bt} (h : b.2.1 ∉ all) : noS all (b :: r) := fun b' r' e h' => by cases e; exact h h'.2
theorem F_num (n : Int) : okF (.num n) := F_intro fun l p out rest d q hl ho hat hd hq => by
 have hat : At l p ((2, Lib.itoa n, n) :: rest) := hat
 obtain ⟨h1, h2, _⟩ := At.cons hat
 simp only [bare, Prod.mk.injEq] at h2
 refine ⟨fun _ => ?_, fun h => absurd (show d + (Tr.num n).depA 2 ≤ 8 from hd) h⟩
 unfold expr_parser_factor.h expr_parser_factor.f
 rw [if_neg (by decide), if_neg (by simp; omega), sign_no [[45], [40]] (by simp) hat (noS_kind (show (2 : Int) ≠ 3 by decide)) out, Option.bind_some]
 dsimp only
 rw [if_neg (show ¬ decide (([] : Str) = [45]) = true by decide), if_neg (show ¬ decide (([] : Str) = [40]) = true by decide), next_at l p out h1, Option.bind_some]
 dsimp only
 rw [if_pos rfl, if_pos (by rw [h2.1]; decide), h2.2.2, put_eq _ _ _ _ _ _ _ (by omega), Option.bind_some]
 unfold expr_parser_factor.j19
 dsimp only
 rw [w64 (by omega)]
 rfl
theorem F_nam {s : Str} (hs : labelOk s = true) : okF (.nam s) := F_intro fun l p out rest d q hl ho hat hd hq => by
 have hat : At l p ((1, s, 0) :: rest) := hat
 obtain ⟨h1, h2, _⟩ := At.cons hat
 simp only [bare, Prod.mk.injEq] at h2
 refine ⟨fun _ => ?_, fun h => absurd (show d + (Tr.nam s).depA 2 ≤ 8 from hd) h⟩
 unfold expr_parser_factor.h expr_parser_factor.f
 rw [if_neg (by decide), if_neg (by simp; omega), sign_no [[45], [40]] (by simp) hat (noS_kind (show (1 : Int) ≠ 3 by decide)) out, Option.bind_some]
 dsimp only
 rw [if_neg (show ¬ decide (([] : Str) = [45]) = true by decide), if_neg (show ¬ decide (([] : Str) = [40]) = true by decide), next_at l p out h1, Option.bind_some]
 dsimp only
 rw [if_pos rfl, if_neg (by rw [h2.1]; decide), if_pos rfl, if_pos (by rw [h2.1]; decide), h2.2.1, label_eq, hs, Option.bind_some]
 dsimp only
 rw [if_pos rfl, put_eq _ _ _ _ _ _ _ (by omega), Option.bind_some]
 unfold expr_parser_factor.j19
 dsimp only
 rw [w64 (by omega)]
 rfl
theorem F_neg {x : Tr} (hx : okF x) : okF (.neg x) := F_intro fun l p out rest d q hl ho hat hd hq => by
 have hat : At l p (tNeg :: (x.toksA 2 ++ rest)) := by
  have e : (Tr.neg x).toksA 2 ++ rest = tNeg :: (x.toksA 2 ++ rest) := rfl
  rw [e] at hat; exact hat
 obtain ⟨h1, _, hat2⟩ := At.cons hat
 have hpost : (Tr.neg x).post = x.post ++ [(3, 0, [], ())] := rfl
 have hdep : (Tr.neg x).depA 2 = 1 + x.depA 2 := rfl
 have htl : ((Tr.neg x).toksA 2).length = 1 + (x.toksA 2).length := by
  show (tNeg :: x.toksA 2).length = _
  rw [List.length_cons, Nat.add_comm]
 rw [hpost] at ho
 simp only [List.length_append, List.length_cons, List.length_nil] at ho
 obtain ⟨g1, g2⟩ := hx l (p + 1) out rest (d + 1) q hl (by omega) hat2 (by omega) (by omega)
 rw [hdep, htl, hpost]
 unfold expr_parser_factor.h expr_parser_factor.f
 rw [if_neg (by decide), if_neg (by simp; omega), sign_yes [[45], [40]] (by simp) hat hl (by simp) out, Option.bind_some]
 dsimp only
 rw [if_pos (show decide (([45] : Str) = [45]) = true by decide), w64 (by omega), show (d : Int) + 1 = ((d + 1 : Nat) : Int) by omega]
 constructor
 ·intro h
  rw [g1 (by omega), Option.bind_some]
  dsimp only
  rw [put_eq _ _ _ _ _ _ _ (by simp; omega), Option.bind_some]
  dsimp only
  rw [List.append_assoc, Nat.add_assoc]
 ·intro h
  obtain ⟨p', out', g3, g4⟩ := g2 (by omega)
  rw [g3, Option.bind_some]
  dsimp only
  rw [put_eq _ _ _ _ _ _ _ (by omega), Option.bind_some]
  exact ⟨p', _, rfl, by simp; omega⟩
theorem brk_len (b : Bool) (l : List Bt) : l.length ≤ (brk b l).length := by unfold brk; split <;> simp <;> omega
theorem mc_toks : ∀ t : Tr, mc t ≤ t.toks.length
 | .num _ => Nat.zero_le _
 | .nam _ => Nat.zero_le _
 | .neg _ => Nat.zero_le _
 | .bin .mul a b => by
  have h1 := mc_toks a
  have h2 := brk_len (decide (a.tight < Opr.mul.tight)) a.toks
  simp only [mc, Tr.toks, List.length_append, List.length_cons]; omega
 | .bin .add _ _ => Nat.zero_le _
 | .bin .sub _ _ => Nat.zero_le _
 | .br _ => Nat.zero_le _
theorem ac_toks : ∀ t : Tr, ac t ≤ t.toks.length
 | .num _ => Nat.zero_le _
 | .nam _ => Nat.zero_le _
 | .neg _ => Nat.zero_le _
 | .bin .mul _ _ => Nat.zero_le _
 | .bin .add a b => by
  have h1 := ac_toks a
  have h2 := brk_len (decide (a.tight < Opr.add.tight)) a.toks
  simp only [ac, Tr.toks, List.length_append, List.length_cons]; omega
 | .bin .sub a b => by
  have h1 := ac_toks a
  have h2 := brk_len (decide (a.tight < Opr.sub.tight)) a.toks
  simp only [ac, Tr.toks, List.length_append, List.length_cons]; omega
 | .br _ => Nat.zero_le _
theorem toks_ne (t : Tr) : t.toks ≠ [] := by cases t <;> simp [Tr.toks]
theorem toksA_ne (lv : Nat) (t : Tr) : t.toksA lv ≠ [] := by
 intro h
 have h1 := brk_len (decide (t.tight < lv)) t.toks
 have h2 : (t.toksA lv).length = 0 := by rw [h]; rfl
 have h3 : t.toks.length ≠ 0 := fun h => toks_ne t (List.length_eq_zero_iff.1 h)
 unfold Tr.toksA at h2
 omega
theorem W_of_T {t : Tr} (hT : okT t) (l : List TokL) (p : Nat) (out : List Item) (rest : List Bt) (d q : Nat) (hl : l.length ≤ 1000000) (ho : out.length + t.post.length ≤ 1000000) (hat : At l p (t.toksA 1 ++ rest)) (hr : noS sMul rest) (hd : d ≤ 9) (hq : 6 * (9 - d) + 4 ≤ q) :
  (d + t.depA 1 ≤ 8 → (R q).expr_parser_sum_1 (d : Int) l p out 0 = some ((), (d : Int), l, ((p + (t.toksA 1).length : Nat) : Int), out ++ t.post, 0, ())) ∧
  (¬ d + t.depA 1 ≤ 8 → ∃ (p' : Int) (out' : List Item), (R q).expr_parser_sum_1 (d : Int) l p out 0 = some ((), (d : Int), l, p', out', 24, ()) ∧ out'.length ≤ out.length + t.post.length) := by
 obtain ⟨q, rfl⟩ : ∃ q', q = q' + 2 := ⟨q - 2, by omega⟩
 have hmc := mc_le t
 show (_ → expr_parser_sum_1.h (R (q + 1)) d l p out 0 = _) ∧ (_ → ∃ p' out', expr_parser_sum_1.h (R (q + 1)) d l p out 0 = _ ∧ _)
 unfold expr_parser_sum_1.h expr_parser_sum_1.f
 have e : (R (q + 1)).expr_parser_row_c201 sMul l (p : Int) out 0 (d : Int) = expr_parser_row_c201.h (R q) sMul l (p : Int) out 0 (d : Int) := rfl
 rw [e]
 unfold expr_parser_row_c201.h expr_parser_row_c201.f
 have hN : ∃ N, 1000 + sMul.length + l.length + (p : Int).toNat + out.length + (0 : Int).toNat + (d : Int).toNat = N := ⟨_, rfl⟩
 obtain ⟨N, hN⟩ := hN
 rw [hN]
 have hlen := At.len hat (toksA_ne 1 t)
 have h1 := mc_toks t
 have h2 := brk_len (decide (t.tight < 1)) t.toks
 have hbig : mc t < N := by unfold Tr.toksA at hlen; omega
 obtain ⟨g1, g2⟩ := hT l p out rest d q N N hl ho hat hd (by omega) hbig
 constructor
 ·intro h
  rw [g1 h]
  obtain ⟨m, hm⟩ : ∃ m, N - mc t = m + 1 := ⟨N - mc t - 1, by omega⟩
  rw [hm, l52_exit N (R q) m (At.app' hat) hr, Option.bind_some]
 ·intro h
  obtain ⟨p', out', g3, g4⟩ := g2 h
  rw [g3, Option.bind_some]
  exact ⟨p', out', rfl, g4⟩
theorem T_of_F {t : Tr} (hF : okF t) (hA : t.toksA 1 = t.toksA 2) (hD : t.depA 1 = t.depA 2) (hm0 : mc t = 0) : okT t := by
 intro l p out rest d q m n hl ho hat hd hq hm
 obtain ⟨q, rfl⟩ : ∃ q', q = q' + 1 := ⟨q - 1, by omega⟩
 rw [hA] at hat
 obtain ⟨g1, g2⟩ := hF l p out rest d q hl ho hat hd (by omega)
 have e : (R (q + 1)).expr_parser_sum_1_1 (d : Int) l (p : Int) out 0 = expr_parser_sum_1_1.h (R q) (d : Int) l (p : Int) out 0 := rfl
 rw [e, hA, hD, hm0]
 unfold expr_parser_sum_1_1.h expr_parser_sum_1_1.f
 constructor
 ·intro h
  rw [g1 h, Option.bind_some, Option.bind_some]
  rfl
 ·intro h
  obtain ⟨p', out', g3, g4⟩ := g2 h
  rw [g3, Option.bind_some, Option.bind_some]
  obtain ⟨m, rfl⟩ : ∃ m', m = m' + 1 := ⟨m - 1, by omega⟩
  exact ⟨p', out', l52_err n (R (q + 1)) m l p' out' 24 d (by decide), g4⟩
theorem mx1 {d x y : Nat} (h : d + max x y ≤ 8) : d + x ≤ 8 := by omega
theorem mx2 {d x y : Nat} (h : d + max x y ≤ 8) : d + y ≤ 8 := by omega
theorem mx3 {d x y : Nat} (h : ¬ d + max x y ≤ 8) (h1 : d + x ≤ 8) : ¬ d + y ≤ 8 := by omega
theorem T_mul {a b : Tr} (ha : okT a) (hb : okF b) : okT (.bin .mul a b) := by
 intro l p out rest d q m n hl ho hat hd hq hm
 have hA : (Tr.bin .mul a b).toksA 1 = a.toksA 1 ++ tOp .mul :: b.toksA 2 := rfl
 have hP : (Tr.bin .mul a b).post = a.post ++ b.post ++ [(6, 0, [], ())] := rfl
 have hD : (Tr.bin .mul a b).depA 1 = max (a.depA 1) (b.depA 2) := rfl
 have hM : mc (Tr.bin .mul a b) = mc a + 1 := rfl
 rw [hA, List.append_assoc, List.cons_append] at hat
 rw [hM] at hm
 rw [hP] at ho
 simp only [List.length_append, List.length_cons, List.length_nil] at ho
 obtain ⟨g1, g2⟩ := ha l p out (tOp .mul :: (b.toksA 2 ++ rest)) d q m n hl (by omega) hat hd hq (by omega)
 rw [hA, hP, hD, hM]
 clear hD
 have hat1 := At.app' hat
 obtain ⟨_, _, hat2⟩ := At.cons hat1
 by_cases h1 : d + a.depA 1 ≤ 8
 ·rw [g1 h1]
  obtain ⟨m', hm'⟩ : ∃ m', m - mc a = m' + 1 := ⟨m - mc a - 1, by omega⟩
  rw [hm', expr_parser_row_c201.l1, sign_yes sMul (by simp) hat1 hl (by simp [tOp, Opr.byte]) _, Option.bind_some]
  dsimp only
  rw [if_neg (show ¬ (!true) = true by decide)]
  obtain ⟨q, rfl⟩ : ∃ q', q = q' + 1 := ⟨q - 1, by omega⟩
  obtain ⟨k1, k2⟩ := hb l (p + (a.toksA 1).length + 1) (out ++ a.post) rest d q hl (by simp; omega) hat2 hd (by omega)
  have e : (R (q + 1)).expr_parser_sum_1_1 (d : Int) l ((p + (a.toksA 1).length + 1 : Nat) : Int) (out ++ a.post) 0 = expr_parser_sum_1_1.h (R q) (d : Int) l ((p + (a.toksA 1).length + 1 : Nat) : Int) (out ++ a.post) 0 := rfl
  rw [e]
  unfold expr_parser_sum_1_1.h expr_parser_sum_1_1.f
  constructor
  ·intro h
   rw [k1 (mx2 h), Option.bind_some, Option.bind_some]
   dsimp only
   rw [put_eq _ _ _ _ _ _ _ (by simp; omega), Option.bind_some]
   dsimp only
   have e1 : m - (mc a + 1) = m' := by clear g1 g2 k1 k2; omega
   have e2 : p + (a.toksA 1).length + 1 + (b.toksA 2).length = p + (a.toksA 1 ++ tOp Opr.mul :: b.toksA 2).length := by simp; omega
   rw [e1, e2, List.append_assoc (out ++ a.post), List.append_assoc out, ← List.append_assoc a.post]
   rfl
  ·intro h
   obtain ⟨p', out', k3, k4⟩ := k2 (mx3 h h1)
   rw [k3, Option.bind_some, Option.bind_some]
   dsimp only
   simp only [List.length_append] at k4
   rw [put_eq _ _ _ _ _ _ _ (by omega), Option.bind_some]
   dsimp only
   obtain ⟨m'', rfl⟩ : ∃ k, m' = k + 1 := ⟨m' - 1, by clear g1 g2 k1 k2; omega⟩
   exact ⟨p', _, l52_err n (R (q + 1)) m'' l p' _ 24 d (by decide), by clear g1 g2 k1 k2; simp; omega⟩
 ·constructor
  ·intro h
   exact absurd (mx1 h) h1
  ·intro h
   obtain ⟨p', out', g3, g4⟩ := g2 h1
   exact ⟨p', out', g3, by simp; omega⟩
theorem S_of_T {t : Tr} (hT : okT t) (hA : t.toks = t.toksA 1) (hD : t.dep = t.depA 1) (hm0 : ac t = 0) : okS t := by
 intro l p out rest d q m n hl ho hat hr hd hq hm
 rw [hA] at hat
 obtain ⟨g1, g2⟩ := W_of_T hT l p out rest d q hl ho hat hr hd hq
 rw [hA, hD, hm0]
 constructor
 ·intro h
  rw [g1 h, Option.bind_some]
  rfl
 ·intro h
  obtain ⟨p', out', g3, g4⟩ := g2 h
  rw [g3, Option.bind_some]
  obtain ⟨m, rfl⟩ : ∃ m', m = m' + 1 := ⟨m - 1, by clear g1 g2; omega⟩
  exact ⟨p', out', l51_err n (R q) m l p' out' 24 d (by decide), g4⟩
theorem S_add {o : Opr} (ho' : o = .add ∨ o = .sub) {a b : Tr} (ha : okS a) (hb : okT b) (haA : a.toksA 0 = a.toks) : okS (.bin o a b) := by
 intro l p out rest d q m n hl ho hat hr hd hq hm
 have hA : (Tr.bin o a b).toks = a.toks ++ tOp o :: b.toksA 1 := by
  rcases ho' with rfl | rfl <;> (rw [← haA]; rfl)
 have hP : (Tr.bin o a b).post = a.post ++ b.post ++ [(o.kind, 0, [], ())] := rfl
 have hD : (Tr.bin o a b).dep = max a.dep (b.depA 1) := by
  rcases ho' with rfl | rfl
  ·show max (a.dep + if a.tight < 0 then 1 else 0) (b.dep + if b.tight < 0 + 1 then 1 else 0) = _
   rw [if_neg (Nat.not_lt_zero _)]; rfl
  ·show max (a.dep + if a.tight < 0 then 1 else 0) (b.dep + if b.tight < 0 + 1 then 1 else 0) = _
   rw [if_neg (Nat.not_lt_zero _)]; rfl
 have hM : ac (Tr.bin o a b) = ac a + 1 := by rcases ho' with rfl | rfl <;> rfl
 have hin : [o.byte] ∈ sAdd := by rcases ho' with rfl | rfl <;> decide
 have hno : noS sMul (tOp o :: (b.toksA 1 ++ rest)) := noS_text (by rcases ho' with rfl | rfl <;> decide)
 have hk : (L.kinds [o.byte]).1 = o.kind := by rcases ho' with rfl | rfl <;> rfl
 rw [hA, List.append_assoc, List.cons_append] at hat
 rw [hM] at hm
 rw [hP] at ho
 simp only [List.length_append, List.length_cons, List.length_nil] at ho
 obtain ⟨g1, g2⟩ := ha l p out (tOp o :: (b.toksA 1 ++ rest)) d q m n hl (by omega) hat hno hd hq (by omega)
 rw [hA, hP, hD, hM]
 clear hD
 have hat1 := At.app' hat
 obtain ⟨_, _, hat2⟩ := At.cons hat1
 by_cases h1 : d + a.dep ≤ 8
 ·rw [g1 h1]
  obtain ⟨m', hm'⟩ : ∃ m', m - ac a = m' + 1 := ⟨m - ac a - 1, by clear g1 g2; omega⟩
  rw [hm', expr_parser_row_c200.l1, sign_yes sAdd (by simp) hat1 hl hin _, Option.bind_some]
  dsimp only
  rw [if_neg (show ¬ (!true) = true by decide), hk]
  obtain ⟨k1, k2⟩ := W_of_T hb l (p + a.toks.length + 1) (out ++ a.post) rest d q hl (by simp; clear g1 g2; omega) hat2 hr hd hq
  constructor
  ·intro h
   rw [k1 (mx2 h), Option.bind_some]
   dsimp only
   rw [put_eq _ _ _ _ _ _ _ (by clear g1 g2 k1 k2; simp; omega), Option.bind_some]
   dsimp only
   have e1 : m - (ac a + 1) = m' := by clear g1 g2 k1 k2; omega
   have e2 : p + a.toks.length + 1 + (b.toksA 1).length = p + (a.toks ++ tOp o :: b.toksA 1).length := by clear g1 g2 k1 k2; simp; omega
   rw [e1, e2, List.append_assoc (out ++ a.post), List.append_assoc out, ← List.append_assoc a.post]
  ·intro h
   obtain ⟨p', out', k3, k4⟩ := k2 (mx3 h h1)
   rw [k3, Option.bind_some]
   dsimp only
   simp only [List.length_append] at k4
   rw [put_eq _ _ _ _ _ _ _ (by clear g1 g2 k1 k2; omega), Option.bind_some]
   dsimp only
   obtain ⟨m'', rfl⟩ : ∃ k, m' = k + 1 := ⟨m' - 1, by clear g1 g2 k1 k2; omega⟩
   exact ⟨p', _, l51_err n (R q) m'' l p' _ 24 d (by decide), by clear g1 g2 k1 k2; simp; omega⟩
 ·constructor
  ·intro h
   exact absurd (mx1 h) h1
  ·intro h
   obtain ⟨p', out', g3, g4⟩ := g2 h1
   exact ⟨p', out', g3, by clear g1 g2; simp; omega⟩
theorem sum_of_S {t : Tr} (hS : okS t) (l : List TokL) (p : Nat) (out : List Item) (rest : List Bt) (d q : Nat) (hl : l.length ≤ 1000000) (ho : out.length + t.post.length ≤ 1000000) (hat : At l p (t.toks ++ rest)) (hr : noS sMul rest) (hr2 : noS sAdd rest) (hd : d ≤ 9) (hq : 6 * (9 - d) + 6 ≤ q) :
  (d + t.dep ≤ 8 → (R q).expr_parser_sum (d : Int) l p out 0 = some (l, ((p + t.toks.length : Nat) : Int), out ++ t.post, 0, ())) ∧
  (¬ d + t.dep ≤ 8 → ∃ (p' : Int) (out' : List Item), (R q).expr_parser_sum (d : Int) l p out 0 = some (l, p', out', 24, ()) ∧ out'.length ≤ out.length + t.post.length) := by
 obtain ⟨q, rfl⟩ : ∃ q', q = q' + 2 := ⟨q - 2, by omega⟩
 show (_ → expr_parser_sum.h (R (q + 1)) d l p out 0 = _) ∧ (_ → ∃ p' out', expr_parser_sum.h (R (q + 1)) d l p out 0 = _ ∧ _)
 unfold expr_parser_sum.h expr_parser_sum.f
 have e : (R (q + 1)).expr_parser_row_c200 sAdd l (p : Int) out 0 (d : Int) = expr_parser_row_c200.h (R q) sAdd l (p : Int) out 0 (d : Int) := rfl
 rw [e]
 unfold expr_parser_row_c200.h expr_parser_row_c200.f
 obtain ⟨N, hN⟩ : ∃ N, 1000 + sAdd.length + l.length + (p : Int).toNat + out.length + (0 : Int).toNat + (d : Int).toNat = N := ⟨_, rfl⟩
 rw [hN]
 have hlen := At.len hat (toks_ne t)
 have h1 := ac_toks t
 have hbig : ac t < N := by omega
 obtain ⟨g1, g2⟩ := hS l p out rest d q N N hl ho hat hr hd (by omega) hbig
 constructor
 ·intro h
  rw [g1 h]
  obtain ⟨m, hm⟩ : ∃ m, N - ac t = m + 1 := ⟨N - ac t - 1, by clear g1 g2; omega⟩
  rw [hm, l51_exit N (R q) m (At.app' hat) hr2, Option.bind_some]
 ·intro h
  obtain ⟨p', out', g3, g4⟩ := g2 h
  rw [g3, Option.bind_some]
  exact ⟨p', out', rfl, g4⟩
theorem F_paren {x : Tr} (hS : okS x) (l : List TokL) (p : Nat) (out : List Item) (rest : List Bt) (d q : Nat) (hl : l.length ≤ 1000000) (ho : out.length + x.post.length ≤ 1000000) (hat : At l p (tLp :: (x.toks ++ tRp :: rest))) (hd : d ≤ 8) (hq : 6 * (9 - d) ≤ q) :
  (d + (x.dep + 1) ≤ 8 → expr_parser_factor.h (R q) (d : Int) l p out 0 = some (l, ((p + (x.toks.length + 2) : Nat) : Int), out ++ x.post, 0, ())) ∧
  (¬ d + (x.dep + 1) ≤ 8 → ∃ (p' : Int) (out' : List Item), expr_parser_factor.h (R q) (d : Int) l p out 0 = some (l, p', out', 24, ()) ∧ out'.length ≤ out.length + x.post.length) := by
 obtain ⟨_, _, hat2⟩ := At.cons hat
 have hn1 : noS sMul (tRp :: rest) := noS_text (by decide)
 have hn2 : noS sAdd (tRp :: rest) := noS_text (by decide)
 obtain ⟨g1, g2⟩ := sum_of_S hS l (p + 1) out (tRp :: rest) (d + 1) q hl ho hat2 hn1 hn2 (by omega) (by omega)
 unfold expr_parser_factor.h expr_parser_factor.f
 rw [if_neg (by decide), if_neg (by simp; omega), sign_yes [[45], [40]] (by simp) hat hl (by simp) out, Option.bind_some]
 dsimp only
 rw [if_neg (show ¬ decide (([40] : Str) = [45]) = true by decide), if_pos (show decide (([40] : Str) = [40]) = true by decide), w64 (by omega), show (d : Int) + 1 = ((d + 1 : Nat) : Int) by omega]
 constructor
 ·intro h
  rw [g1 (by clear g1 g2; omega), Option.bind_some]
  dsimp only
  rw [sign_yes [[41]] (by simp) (At.app' hat2) hl (by simp) _, Option.bind_some]
  dsimp only
  rw [if_neg (show ¬ (!true) = true by decide), show p + 1 + x.toks.length + 1 = p + (x.toks.length + 2) by clear g1 g2; omega]
 ·intro h
  obtain ⟨p', out', g3, g4⟩ := g2 (by clear g1 g2; omega)
  rw [g3, Option.bind_some]
  dsimp only
  rw [sign_err [[41]] (by simp) l p' out' 24 (by decide), Option.bind_some]
  dsimp only
  rw [if_pos (show (!false) = true by decide), fail_err 23 l p' out' 24 (by decide), Option.bind_some]
  exact ⟨p', out', rfl, g4⟩
theorem F_low {x : Tr} (hS : okS x) (ht : x.tight < 2) : okF x := F_intro fun l p out rest d q hl ho hat hd hq => by
 have hA : x.toksA 2 = tLp :: (x.toks ++ [tRp]) := by unfold Tr.toksA brk; rw [if_pos (by simpa using ht)]
 have hD : x.depA 2 = x.dep + 1 := by unfold Tr.depA; rw [if_pos ht]
 rw [hA] at hat ⊢
 rw [hD]
 have hat' : At l p (tLp :: (x.toks ++ tRp :: rest)) := by
  have e : tLp :: (x.toks ++ [tRp]) ++ rest = tLp :: (x.toks ++ tRp :: rest) := by simp
  rw [e] at hat; exact hat
 have := F_paren hS l p out rest d q hl ho hat' hd hq
 have e : (tLp :: (x.toks ++ [tRp])).length = x.toks.length + 2 := by simp
 rw [e]
 exact this
theorem F_br {x : Tr} (hS : okS x) : okF (.br x) := F_intro fun l p out rest d q hl ho hat hd hq => by
 have hA : (Tr.br x).toksA 2 = tLp :: (x.toks ++ [tRp]) := rfl
 have hD : (Tr.br x).depA 2 = x.dep + 1 := by show 1 + x.dep + (if (2 : Nat) < 2 then 1 else 0) = _; rw [if_neg (by omega)]; omega
 have hP : (Tr.br x).post = x.post := rfl
 rw [hP] at ho ⊢
 rw [hA] at hat ⊢
 rw [hD]
 have hat' : At l p (tLp :: (x.toks ++ tRp :: rest)) := by
  have e : tLp :: (x.toks ++ [tRp]) ++ rest = tLp :: (x.toks ++ tRp :: rest) := by simp
  rw [e] at hat; exact hat
 have := F_paren hS l p out rest d q hl ho hat' hd hq
 have e : (tLp :: (x.toks ++ [tRp])).length = x.toks.length + 2 := by simp
 rw [e]
 exact this
theorem T_of_F2 {t : Tr} (hF : okF t) (ht : t.tight = 2) (hm0 : mc t = 0) : okT t :=
 T_of_F hF (by unfold Tr.toksA; rw [ht]; rfl) (by unfold Tr.depA; rw [ht]; rfl) hm0
theorem S_of_T1 {t : Tr} (hT : okT t) (ht : 1 ≤ t.tight) (ha0 : ac t = 0) : okS t :=
 S_of_T hT (by unfold Tr.toksA brk; rw [if_neg (by simp; omega)]) (by unfold Tr.depA; rw [if_neg (by omega), Nat.add_zero]) ha0
theorem parse_ok : ∀ t : Tr, t.ok → okF t ∧ okT t ∧ okS t
 | .num n, _ => by
  have hF := F_num n
  have hT := T_of_F2 hF rfl rfl
  exact ⟨hF, hT, S_of_T1 hT (show 1 ≤ 2 by decide) rfl⟩
 | .nam s, h => by
  have hF := F_nam h
  have hT := T_of_F2 hF rfl rfl
  exact ⟨hF, hT, S_of_T1 hT (show 1 ≤ 2 by decide) rfl⟩
 | .neg x, h => by
  have hF := F_neg (parse_ok x h).1
  have hT := T_of_F2 hF rfl rfl
  exact ⟨hF, hT, S_of_T1 hT (show 1 ≤ 2 by decide) rfl⟩
 | .br x, h => by
  have hF := F_br (parse_ok x h).2.2
  have hT := T_of_F2 hF rfl rfl
  exact ⟨hF, hT, S_of_T1 hT (show 1 ≤ 2 by decide) rfl⟩
 | .bin .mul a b, h => by
  have hT := T_mul (parse_ok a h.1).2.1 (parse_ok b h.2).1
  have hS := S_of_T1 hT (show 1 ≤ 1 by decide) rfl
  exact ⟨F_low hS (show 1 < 2 by decide), hT, hS⟩
 | .bin .add a b, h => by
  have hS := S_add (.inl rfl) (parse_ok a h.1).2.2 (parse_ok b h.2).2.1 (by unfold Tr.toksA brk; rw [if_neg (by simp)])
  have hF := F_low hS (show 0 < 2 by decide)
  exact ⟨hF, T_of_F hF rfl rfl rfl, hS⟩
 | .bin .sub a b, h => by
  have hS := S_add (.inr rfl) (parse_ok a h.1).2.2 (parse_ok b h.2).2.1 (by unfold Tr.toksA brk; rw [if_neg (by simp)])
  have hF := F_low hS (show 0 < 2 by decide)
  exact ⟨hF, T_of_F hF rfl rfl rfl, hS⟩
theorem eparse_eq {t : Tr} (ht : t.ok) (l : List TokL) (p : Nat) (rest : List Bt) (hl : l.length ≤ 1000000) (hpost : t.post.length ≤ 64) (hat : At l p (t.toks ++ rest)) (hr : noS sMul rest) (hr2 : noS sAdd rest) :
  (t.dep ≤ 8 → expr_Parse.g l p = some (t.post, ((p + t.toks.length : Nat) : Int), 0, ())) ∧ (¬ t.dep ≤ 8 → expr_Parse.g l p = some ([], 0, 24, ())) := by
 unfold expr_Parse.g expr_Parse.f expr_parser_sum.g
 obtain ⟨g1, g2⟩ := sum_of_S (parse_ok t ht).2.2 l p [] rest 0 (1000 + (0 : Int).toNat + l.length + (p : Int).toNat + ([] : List Item).length + (0 : Int).toNat) hl (by simp; omega) hat hr hr2 (by omega) (by omega)
 constructor
 ·intro h
  have := g1 (by clear g1 g2; omega)
  rw [show ((0 : Nat) : Int) = 0 from rfl] at this
  rw [this, Option.bind_some]
  dsimp only
  rw [if_pos (show decide ((0 : Int) = 0) = true by decide), if_neg (by clear g1 g2 this; simp; omega), List.nil_append]
  unfold expr_Parse.j5
  rw [if_neg (show ¬ decide ((0 : Int) ≠ 0) = true by decide)]
 ·intro h
  obtain ⟨p', out', g3, g4⟩ := g2 (by clear g1 g2; omega)
  rw [show ((0 : Nat) : Int) = 0 from rfl] at g3
  rw [g3, Option.bind_some]
  dsimp only
  rw [if_neg (show ¬ decide ((24 : Int) = 0) = true by decide)]
  unfold expr_Parse.j5
  rw [if_pos (show decide ((24 : Int) ≠ 0) = true by decide)]
end Rv
namespace Rv
open Go
theorem sameE_refl (a : List Item) (ha : a.length ≤ 1000) : rivetref15_Same.g a a = some (true, ()) := by
 have loop : ∀ (n m i : Nat), i ≤ a.length → a.length - i < m → rivetref15_Same.l4 n m a a (i : Int) = some (true, ()) := by
  intro n m
  induction m with
  | zero => intro i _ h; omega
  | succ m ih =>
   intro i hi hm
   rw [rivetref15_Same.l4]
   simp only [dt]
   by_cases h : i < a.length
   ·rw [if_pos (by omega), if_pos (by omega), if_pos (by omega), if_neg (by simp), w64 (by omega)]
    exact ih (i + 1) (by omega) (by omega)
   ·rw [if_neg (by omega)]
 unfold rivetref15_Same.g rivetref15_Same.f
 rw [if_neg (by simp)]
 exact loop _ _ 0 (by omega) (by omega)
theorem scans_line {s : Str} {b : List Bt} (h : Scans s b) (hs : s.length ≤ 1000000) : ∃ ts : List TokL, ts.map bare = b ∧ scan_Line.g s = some (ts, 0, ()) := by
 obtain ⟨ts, h1, h2⟩ := h 0
 refine ⟨ts, h1, ?_⟩
 have := h2 [] (.inl rfl)
 rw [List.append_nil, lineR_nil] at this
 rw [line_eq s hs, this]
 simp [preE, lineOut]
theorem At.whole {ts : List TokL} {b : List Bt} (h : ts.map bare = b) : At ts 0 (b ++ []) := by
 unfold At
 rw [List.drop_zero, h, List.append_nil]
theorem noS_nil (all : List Str) : noS all [] := fun b r h => by cases h
theorem fit_tree (l : List Item) (hl : l.length ≤ 9223372036854775807) (hw : wfItems l) : ∃ t : Tr, rivetref15_Fit.g l = some (t.post, ()) ∧ t.ok ∧ t.plain ∧ wellL t.post ∧ t.post.length ≤ 19 := by
 obtain ⟨r, h1, h2, h3, h4⟩ := fit15_eq l hl hw
 obtain ⟨t, rfl, ho, hp⟩ := tree_of h2 h4
 exact ⟨t, h1, ho, hp, h2, h3⟩
end Rv
namespace Rv
open Go
structure Sm where
 k : Int
 o : Int
 a : Int
 b : Int
 c : Int
 u : Bool
 e : List Item
 nm : Str
def okT' (t : Tr) : Prop := t.ok ∧ t.plain ∧ wellL t.post ∧ t.post.length ≤ 64
def postO : Option Tr → List Item
 | none => []
 | some t => t.post
inductive GoodS : Sm → Option Tr → Prop
 | none : GoodS ⟨0, 0, 0, 0, 0, false, [], []⟩ none
 | ins0 {k o a b c : Int} {u : Bool} : GoodI0 k o a b c u → (k = 1 ∨ k = 3 ∨ k = 4 ∨ k = 6) → GoodS ⟨k, o, a, b, c, u, [], []⟩ none
 | ins1 {k o a b c : Int} {u : Bool} {t : Tr} : GoodI0 k o a b c u → (k = 2 ∨ k = 5 ∨ k = 7) → okT' t → GoodS ⟨k, o, a, b, c, u, t.post, []⟩ (some t)
 | load {a : Int} {t : Tr} : rg a → okT' t → GoodS ⟨8, 0, a, 0, 0, false, t.post, []⟩ (some t)
 | word {t : Tr} : okT' t → GoodS ⟨9, 0, 0, 0, 0, false, t.post, []⟩ (some t)
 | exp {nm : Str} : nameOk nm = true → GoodS ⟨10, 0, 0, 0, 0, false, [], nm⟩ none
def rn (a : Int) : Str := regN a.toNat
theorem rn_eq {a : Int} (h : rg a) : name_RegName.g a = some (rn a, ()) := by
 obtain ⟨k, rfl⟩ : ∃ k : Nat, a = (k : Int) := ⟨a.toNat, by have := h.1; omega⟩
 have := (reg_fact k (by have := h.2; omega)).1
 rw [this]; unfold rn; rw [Int.toNat_natCast]
theorem rn_ne (k : Nat) : regN k ≠ [] := by unfold regN; split <;> simp
theorem rn_total (a : Int) : ∃ s, name_RegName.g a = some (s, ()) ∧ (s ≠ [] → rg a) := by
 obtain ⟨s, h, hs⟩ := regName_cases a
 exact ⟨s, h, fun e => by obtain ⟨k, hk, rfl, _⟩ := hs e; exact ⟨by omega, by omega⟩⟩
theorem numbered_eq (k : Int) : stmt_numbered.g k = some (decide (k = 2 ∨ k = 5 ∨ k = 7 ∨ k = 8 ∨ k = 9), ()) := by
 unfold stmt_numbered.g stmt_numbered.f
 simp only [dt]
 by_cases h1 : k = 2
 ·simp [h1]
 ·by_cases h2 : k = 5
  ·simp [h2]
  ·by_cases h3 : k = 7
   ·simp [h3]
   ·by_cases h4 : k = 8
    ·simp [h4]
    ·by_cases h5 : k = 9
     ·simp [h5]
     ·simp [h1, h2, h3, h4, h5]
theorem post_ne (t : Tr) : t.post ≠ [] := by
 have := t.post_pos
 intro h; rw [h] at this; simp at this
abbrev mayG (s : Sm) : Option (Bool × Unit) := stmt_May.g s.k s.o s.a s.b s.c s.u s.e s.nm
theorem may_good {s : Sm} {t : Option Tr} (h : GoodS s t) : mayG s = some (true, ()) := by
 have hw : ∀ t : Tr, okT' t → expr_Well.g t.post = some (true, ()) := fun t h => by
  rw [well_eq t.post (by have := h.2.2.2; omega), well_of h.2.2.1 h.2.2.2]
 have hp : ∀ t : Tr, decide ((0 : Int) < (t.post.length : Int)) = true := fun t => by have := t.post_pos; simp; omega
 cases h with
 | none => rfl
 | @ins0 k o a b c u h hk =>
  unfold mayG stmt_May.g
  generalize 1000 + _ + _ + _ + _ + _ + _ + _ = n
  unfold stmt_May.f
  have hn : decide (k = 2 ∨ k = 5 ∨ k = 7 ∨ k = 8 ∨ k = 9) = false := by simp; omega
  have h10 : decide (k = 10) = false := by simp; omega
  simp only [numbered_eq, hn, Option.bind_some]
  rw [if_pos (by simp), if_neg (by decide), h10, if_neg (by simp)]
  unfold stmt_May.j4 stmt_May.j12
  simp only [dt]
  rw [isa_good h, Option.bind_some, if_neg (by omega), if_neg (by omega), if_neg (by omega), if_neg (by omega)]
 | @ins1 k o a b c u t h hk ht =>
  unfold mayG stmt_May.g
  generalize 1000 + _ + _ + _ + _ + _ + _ + _ = n
  unfold stmt_May.f
  have hn : decide (k = 2 ∨ k = 5 ∨ k = 7 ∨ k = 8 ∨ k = 9) = true := by simp; omega
  have h10 : decide (k = 10) = false := by simp; omega
  simp only [numbered_eq, hn, Option.bind_some, hp, hw t ht]
  rw [if_pos (by simp), if_pos (by decide), if_pos (by decide), h10, if_neg (by simp)]
  unfold stmt_May.j4 stmt_May.j12
  simp only [dt]
  rw [isa_good h, Option.bind_some, if_neg (by omega), if_neg (by omega), if_neg (by omega), if_neg (by omega)]
 | @load a t ha ht =>
  unfold mayG stmt_May.g
  generalize 1000 + _ + _ + _ + _ + _ + _ + _ = n
  unfold stmt_May.f
  simp only [numbered_eq, Option.bind_some, hp, hw t ht]
  rw [if_pos (by simp), if_pos (by decide), if_pos (by decide), if_neg (by simp)]
  unfold stmt_May.j4
  simp only [rn_eq ha, Option.bind_some]
  have := rn_ne a.toNat
  simp [rn, this]
 | @word t ht =>
  unfold mayG stmt_May.g
  generalize 1000 + _ + _ + _ + _ + _ + _ + _ = n
  unfold stmt_May.f
  simp only [numbered_eq, Option.bind_some, hp, hw t ht]
  rw [if_pos (by simp), if_pos (by decide), if_pos (by decide), if_neg (by simp)]
  rfl
 | @exp nm hn =>
  have hne : nm ≠ [] := by rintro rfl; exact absurd hn (by decide)
  unfold mayG stmt_May.g
  generalize 1000 + _ + _ + _ + _ + _ + _ + _ = n
  unfold stmt_May.f
  simp only [numbered_eq, Option.bind_some]
  rw [if_pos (by simp), if_neg (by decide), if_neg (by simp [hne])]
  unfold stmt_May.j4
  simp only [lename_eq, hn, Option.bind_some]
  rfl
theorem may_only (s : Sm) (he : s.e.length ≤ 4611686018427387904) : ∃ r, mayG s = some (r, ()) ∧ (r = true → (0 ≤ s.k ∧ s.k ≤ 10) ∧ rg s.a ∧ rg s.c ∧ (s.nm = [] ∨ nameOk s.nm = true) ∧ (s.e = [] ∨ well s.e = true)) := by
 have z : rg 0 := ⟨by decide, by decide⟩
 obtain ⟨k, o, a, b, c, u, e, nm⟩ := s
 dsimp only at he ⊢
 unfold mayG stmt_May.g
 generalize 1000 + _ + _ + _ + _ + _ + _ + _ = n
 unfold stmt_May.f
 simp only [numbered_eq, Option.bind_some, well_eq e he]
 have J : (e = [] ∨ well e = true) → ¬ (!(decide (k = 10) == !decide (nm = []))) = true → ∃ r, stmt_May.j4 n k o a b c u e nm k o a b c 0 u = some (r, ()) ∧ (r = true → (0 ≤ k ∧ k ≤ 10) ∧ rg a ∧ rg c ∧ (nm = [] ∨ nameOk nm = true) ∧ (e = [] ∨ well e = true)) := by
  intro hwe hnm
  have hnm' : k ≠ 10 → nm = [] := fun h => by rw [decide_eq_false h] at hnm; simpa using hnm
  unfold stmt_May.j4 stmt_May.j12
  simp only [dt, lename_eq, Option.bind_some]
  have zero : ∀ q : Prop, ((decide (k = k) && (decide (o = 0) && (decide (a = 0) && (decide (b = 0) && (decide (c = 0) && (decide ((0 : Int) = 0) && ((u == false) && true))))))) = true) → a = 0 ∧ c = 0 := fun q h => by
   simp only [Bool.and_eq_true, decide_eq_true_eq] at h
   exact ⟨h.2.2.1, h.2.2.2.2.1⟩
  by_cases h0 : k = 0
  ·subst h0
   rw [if_pos rfl, if_pos rfl]
   refine ⟨_, rfl, fun h => ?_⟩
   obtain ⟨rfl, rfl⟩ := zero True h
   exact ⟨⟨by decide, by decide⟩, z, z, .inl (hnm' (by decide)), hwe⟩
  ·rw [if_neg h0]
   by_cases h9 : k = 9
   ·subst h9
    rw [if_pos rfl]
    refine ⟨_, rfl, fun h => ?_⟩
    obtain ⟨rfl, rfl⟩ := zero True h
    exact ⟨⟨by decide, by decide⟩, z, z, .inl (hnm' (by decide)), hwe⟩
   ·rw [if_neg h9]
    by_cases h10 : k = 10
    ·subst h10
     rw [if_pos rfl]
     split
     ·rename_i h
      obtain ⟨rfl, rfl⟩ := zero True h
      exact ⟨_, rfl, fun h => ⟨⟨by decide, by decide⟩, z, z, .inr h, hwe⟩⟩
     ·exact ⟨_, rfl, fun h => by cases h⟩
    ·rw [if_neg h10]
     by_cases h8 : k = 8
     ·subst h8
      rw [if_pos rfl]
      split
      ·rename_i h
       simp only [Bool.and_eq_true, decide_eq_true_eq] at h
       obtain ⟨x, hx, hr⟩ := rn_total a
       rw [hx, Option.bind_some]
       refine ⟨_, rfl, fun h' => ⟨⟨by decide, by decide⟩, hr (by simpa using h'), ?_, .inl (hnm' (by decide)), hwe⟩⟩
       rw [h.2.2.2.2.1]; exact z
      ·exact ⟨_, rfl, fun h => by cases h⟩
     ·rw [if_neg h8]
      obtain ⟨r, hr, hg⟩ := isa_total k o a b c 0 u
      rw [hr, Option.bind_some]
      refine ⟨_, rfl, fun h => ?_⟩
      obtain ⟨h1, h2, _, h4⟩ := hg h
      exact ⟨⟨by omega, by omega⟩, h2, h4, .inl (hnm' h10), hwe⟩
 by_cases hn : k = 2 ∨ k = 5 ∨ k = 7 ∨ k = 8 ∨ k = 9
 ·rw [decide_eq_true hn]
  by_cases hl : e = []
  ·subst hl
   rw [if_neg (by simp)]; exact ⟨_, rfl, fun h => by cases h⟩
  ·have : decide ((0 : Int) < e.length) = true := by have := List.length_pos_iff.2 hl; simp; omega
   rw [this, if_pos (show (!true == true) = false from rfl), if_pos (show true = true from rfl)]
   cases hw : well e with
   | false => rw [if_neg (show ¬ (!false) = false by decide)]; exact ⟨_, rfl, fun h => by cases h⟩
   | true =>
    rw [if_pos (show (!true) = false from rfl)]
    split
    ·exact ⟨_, rfl, fun h => by cases h⟩
    ·rename_i h
     obtain ⟨r, h1, h2⟩ := J (.inr hw) h
     refine ⟨r, h1, fun hr => ?_⟩
     obtain ⟨g1, g2, g3, g4, _⟩ := h2 hr
     exact ⟨g1, g2, g3, g4, .inr rfl⟩
 ·rw [decide_eq_false hn]
  by_cases hl : e = []
  ·subst hl
   rw [if_pos (by simp), if_neg (by simp)]
   split
   ·exact ⟨_, rfl, fun h => by cases h⟩
   ·rename_i h
    exact J (.inl rfl) h
  ·have : decide ((0 : Int) < e.length) = true := by have := List.length_pos_iff.2 hl; simp; omega
   rw [this, if_neg (by decide)]; exact ⟨_, rfl, fun h => by cases h⟩
end Rv
namespace Rv
open Go
inductive Od
 | A | B | C | E | Q | N
def Od.rd : Od → Fn
 | .A => K.rdA | .B => K.rdB | .C => K.rdC | .E => K.rdE | .Q => K.rdQ | .N => K.rdN
def Od.wr : Od → Fn
 | .A => K.wrA | .B => K.wrB | .C => K.wrC | .E => K.wrE | .Q => K.wrQ | .N => K.wrN
def odL (k o : Int) : List Od :=
 if k = 1 then (if o = 0 then [.A, .C] else [.A, .B, .C]) else
 if k = 2 then (if o = 0 then [.A, .E] else [.A, .B, .E]) else
 if k = 3 ∨ k = 4 then [.A] else
 if k = 5 then [.A, .B, .E] else
 if k = 6 then [.C] else
 if k = 7 ∨ k = 9 then [.E] else
 if k = 8 then [.A, .Q] else
 if k = 10 then [.N] else []
abbrev odF (d : Od) : Fn × Fn × Unit := (d.rd, d.wr, ())
theorem opsR_eq (k o : Int) : L.opsR k o = (odL k o).map odF := by
 unfold L.opsR odL
 split
 ·split <;> rfl
 ·split
  ·split <;> rfl
  ·repeat' split
   all_goals rfl
theorem odL_len (k o : Int) : (odL k o).length ≤ 3 := by
 unfold odL
 repeat' split
 all_goals simp
theorem odL_reg {o : Int} (h : 0 < o) : odL 1 o = [.A, .B, .C] := by unfold odL; rw [if_pos rfl, if_neg (by omega)]
theorem odL_imm {o : Int} (h : 0 < o) : odL 2 o = [.A, .B, .E] := by unfold odL; rw [if_neg (by decide), if_pos rfl, if_neg (by omega)]
theorem trimB_loop (n : Nat) : ∀ (m : Nat) (s : Str), s.length < m → s.length ≤ 1000000 → strings_trimLeftByte.l1 n m s 32 = some (s.dropWhile (· == 32), ())
 | 0, _, h, _ => by omega
 | m + 1, [], _, _ => by rw [strings_trimLeftByte.l1]; rfl
 | m + 1, b :: s, h, hs => by
  rw [strings_trimLeftByte.l1]
  simp only [dt]
  have hb : bt (b :: s) 0 = (b.toNat : Int) := rfl
  have h32 : ((b.toNat : Int) = 32) = (b = 32) := byte_is b 32 (by omega)
  rw [if_pos (by simp), if_pos (by simp), hb, List.dropWhile_cons]
  by_cases e : b = 32
  ·rw [if_pos (h32.mpr e), if_pos (by simp; omega), if_pos (by simp [e])]
   have : ((b :: s).take ((((b :: s).length : Nat) : Int)).toNat).drop ((1 : Int)).toNat = s := by
    rw [Int.toNat_natCast, List.take_length]; rfl
   rw [this]
   exact trimB_loop n m s (by simp at h; omega) (by simp at hs; omega)
  ·rw [if_neg (fun h => e (h32.mp h)), if_neg (by simp [e])]
theorem trimB_eq (s : Str) (hs : s.length ≤ 1000000) : strings_TrimLeft.g s [32] = some (s.dropWhile (· == 32), ()) := by
 unfold strings_TrimLeft.g strings_TrimLeft.f
 simp only [dt, df]
 by_cases h : s = []
 ·subst h; rfl
 ·rw [if_pos h, if_neg (by decide), if_pos (by decide), if_pos (by decide), if_pos (by decide), if_pos (by decide)]
  have hb : bt [32] 0 = 32 := rfl
  unfold strings_trimLeftByte.g strings_trimLeftByte.f
  rw [hb, trimB_loop _ _ s (by omega) hs, Option.bind_some]
theorem itoa_head (n : Int) (h : 0 ≤ n) : ∃ c r, Lib.itoa n = c :: r ∧ c ≠ 32 := by
 obtain ⟨m, rfl⟩ : ∃ m : Nat, n = m := ⟨n.toNat, by omega⟩
 have hi : Lib.itoa (m : Int) = Lib.decDigits m := by unfold Lib.itoa; rw [if_neg (by omega)]; rfl
 obtain ⟨h1, h2⟩ := dec_all m
 rw [hi]
 cases hd : Lib.decDigits m with
 | nil => exact absurd hd h2
 | cons c r =>
  refine ⟨c, r, rfl, ?_⟩
  rintro rfl
  rw [hd] at h1
  simp [isD] at h1
theorem brkT_head (b : Bool) {s : Str} (h : ∃ c r, s = c :: r ∧ c ≠ 32) : ∃ c r, brkT b s = c :: r ∧ c ≠ 32 := by
 unfold brkT
 split
 ·exact ⟨_, _, rfl, by decide⟩
 ·exact h
theorem txt_head : ∀ t : Tr, t.ok → ∃ c r, t.txt = c :: r ∧ c ≠ 32
 | .num n, h => itoa_head n h.1
 | .nam s, h => by
  have h : labelOk s = true := h
  cases s with
  | nil => exact absurd h (by decide)
  | cons c r =>
   refine ⟨c, r, rfl, ?_⟩
   rintro rfl
   unfold labelOk at h
   simp only [Bool.and_eq_true, List.all_cons] at h
   exact absurd h.1.2.1 (by decide)
 | .neg x, _ => ⟨_, _, rfl, by decide⟩
 | .br x, _ => ⟨_, _, rfl, by decide⟩
 | .bin o a b, h => by
  obtain ⟨c, r, h1, h2⟩ := brkT_head (decide (a.tight < o.tight)) (txt_head a h.1)
  exact ⟨c, _, by show brkT _ _ ++ _ = _; rw [h1]; rfl, h2⟩
def et : Option Tr → Str
 | none => []
 | some t => t.txt
def wtx (s : Sm) (t : Option Tr) : Od → Str
 | .A => rn s.a | .B => rn s.b | .C => rn s.c | .E => et t | .Q => 61 :: 32 :: et t | .N => s.nm
def okOd (s : Sm) (t : Option Tr) : Od → Prop
 | .A => rg s.a | .B => rg s.b | .C => rg s.c | .E => ∃ x, t = some x ∧ okT' x ∧ s.e = x.post | .Q => ∃ x, t = some x ∧ okT' x ∧ s.e = x.post | .N => nameOk s.nm = true
theorem good_od {s : Sm} {t : Option Tr} (h : GoodS s t) : ∀ d ∈ odL s.k s.o, okOd s t d := by
 cases h with
 | none => intro d hd; simp [odL] at hd
 | ins0 h hk =>
  cases h with
  | reg h1 h2 ha hb hc hu =>
   intro d hd
   dsimp only at hd
   rw [odL_reg h1] at hd
   simp only [List.mem_cons, List.not_mem_nil, or_false] at hd
   rcases hd with rfl | rfl | rfl
   ·exact ha
   ·exact hb
   ·exact hc
  | mov ha hc =>
   intro d hd
   simp only [odL, if_true, List.mem_cons, List.not_mem_nil, or_false] at hd
   rcases hd with rfl | rfl
   ·exact ha
   ·exact hc
  | hi ha => intro d hd; simp [odL] at hd; subst hd; exact ha
  | fl ha => intro d hd; simp [odL] at hd; subst hd; exact ha
  | br ho hc => intro d hd; simp [odL] at hd; subst hd; exact hc
  | imm => simp at hk
  | movi => simp at hk
  | mem => simp at hk
  | jmp => simp at hk
 | ins1 h hk ht =>
  cases h with
  | imm h1 h2 ha hb hu =>
   intro d hd
   dsimp only at hd
   rw [odL_imm h1] at hd
   simp only [List.mem_cons, List.not_mem_nil, or_false] at hd
   rcases hd with rfl | rfl | rfl
   ·exact ha
   ·exact hb
   ·exact ⟨_, rfl, ht, rfl⟩
  | movi ha =>
   intro d hd
   simp [odL] at hd
   rcases hd with rfl | rfl
   ·exact ha
   ·exact ⟨_, rfl, ht, rfl⟩
  | mem h1 h2 ha hb =>
   intro d hd
   simp [odL] at hd
   rcases hd with rfl | rfl | rfl
   ·exact ha
   ·exact hb
   ·exact ⟨_, rfl, ht, rfl⟩
  | jmp ho => intro d hd; simp [odL] at hd; subst hd; exact ⟨_, rfl, ht, rfl⟩
  | reg => simp at hk
  | mov => simp at hk
  | hi => simp at hk
  | fl => simp at hk
  | br => simp at hk
 | load ha ht =>
  intro d hd
  simp [odL] at hd
  rcases hd with rfl | rfl
  ·exact ha
  ·exact ⟨_, rfl, ht, rfl⟩
 | word ht => intro d hd; simp [odL] at hd; subst hd; exact ⟨_, rfl, ht, rfl⟩
 | exp hn => intro d hd; simp [odL] at hd; subst hd; exact hn
theorem regN_len (k : Nat) : (regN k).length ≤ 3 := by unfold regN; split <;> simp
theorem wtx_len {s : Sm} {t : Option Tr} {d : Od} (h : okOd s t d) : (wtx s t d).length ≤ 1300 := by
 have r : ∀ a : Int, (rn a).length ≤ 1300 := fun a => Nat.le_trans (regN_len _) (by decide)
 have e : (∃ x, t = some x ∧ okT' x ∧ s.e = x.post) → (et t).length ≤ 1280 := by
  rintro ⟨x, rfl, hx, _⟩
  have := txt_len x hx.1 hx.2.1
  have := hx.2.2.2
  show x.txt.length ≤ 1280
  omega
 cases d with
 | A => exact r _
 | B => exact r _
 | C => exact r _
 | E => exact Nat.le_trans (e h) (by decide)
 | Q => have := e h; show (61 :: 32 :: et t).length ≤ 1300; simp; omega
 | N =>
  have h : nameOk s.nm = true := h
  unfold nameOk at h
  simp only [Bool.and_eq_true, decide_eq_true_eq] at h
  show s.nm.length ≤ 1300
  have := h.1.1.1.2
  omega
theorem num2_eq {s : Sm} {t : Option Tr} (h : ∃ x, t = some x ∧ okT' x ∧ s.e = x.post) (q : Str) (hq : q = [] ∨ q = [61]) :
  stmt_number_2.g s.k s.o s.a s.b s.c s.u s.e s.nm q = some (if q = [] then et t else 61 :: 32 :: et t, ()) := by
 obtain ⟨x, rfl, hx, he⟩ := h
 have hl := txt_len x hx.1 hx.2.1
 have hl2 := hx.2.2.2
 unfold stmt_number_2.g stmt_number_2.f
 rw [he, eprint_eq hx.1 hx.2.1 hx.2.2.1 hx.2.2.2, Option.bind_some]
 dsimp only
 obtain ⟨c, r, h1, h2⟩ := txt_head x hx.1
 rcases hq with rfl | rfl
 ·rw [if_pos (by decide), if_pos (by simp; omega), trimB_eq _ (by simp; omega), Option.bind_some, if_pos rfl]
  show some ((([] ++ [32]) ++ x.txt).dropWhile (· == 32), ()) = some (x.txt, ())
  rw [h1]
  have : (c == 32) = false := by simpa using h2
  simp [List.dropWhile_cons, this]
 ·rw [if_pos (by decide), if_pos (by simp; omega), trimB_eq _ (by simp; omega), Option.bind_some, if_neg (by decide)]
  rfl
theorem write_loop (s : Sm) (t : Option Tr) (out : List Str) (mn : Str) (n : Nat) (ods : List Od) (ho : ∀ d ∈ ods, okOd s t d) (hl : ods.length ≤ 3) : ∀ (m i : Nat) (l : List Str), i ≤ ods.length → ods.length - i < m → l.length = i →
  stmt_Print.l12 n m out mn l (ods.map odF) (ods.length : Int) (i : Int) s.k s.o s.a s.b s.c s.u s.e s.nm = stmt_Print.l12 n 1 out mn (l ++ (ods.drop i).map (wtx s t)) (ods.map odF) (ods.length : Int) (ods.length : Int) s.k s.o s.a s.b s.c s.u s.e s.nm := by
 intro m
 induction m with
 | zero => intro i _ _ h; omega
 | succ m ih =>
  intro i l hi hm hli
  by_cases h : i < ods.length
  ·have hd : ods.drop i = ods[i] :: ods.drop (i + 1) := List.drop_eq_getElem_cons h
   have hg : (ods.map odF).getD ((i : Int)).toNat (((0, []) : Fn), (((0, []) : Fn), ())) = odF ods[i] := by
    rw [Int.toNat_natCast, List.getD_eq_getElem?_getD, List.getElem?_eq_getElem (by simpa using h)]; simp
   have hok := ho ods[i] (List.getElem_mem h)
   have next := fun x : Str => ih (i + 1) (l ++ [x]) (by omega) (by omega) (by simp [hli])
   rw [stmt_Print.l12, if_pos (by simp; omega), if_pos (by simp; omega), hg, hd, List.map_cons]
   have W1 : IntKind.i64.wrap ((i : Int) + 1) = ((i + 1 : Nat) : Int) := by rw [w64 (by omega)]; omega
   have fin : ∀ x : Str, (if (l.length + ([x] : List Str).length) * 16 ≤ 140737488355328 ∧ 0 < 16 ∧ 0 < 1 then (stmt_Print.j15 n (stmt_Print.l12 n m) out mn (l ++ ([x] : List Str)) (ods.map odF) (ods.length : Int) (i : Int) s.k s.o s.a s.b s.c s.u s.e s.nm) else none) =
     stmt_Print.l12 n 1 out mn (l ++ x :: (ods.drop (i + 1)).map (wtx s t)) (ods.map odF) (ods.length : Int) (ods.length : Int) s.k s.o s.a s.b s.c s.u s.e s.nm := fun x => by
    rw [if_pos (by simp; omega)]
    unfold stmt_Print.j15
    rw [W1, next x, List.append_assoc]
    rfl
   generalize hx : ods[i] = d at hok ⊢
   cases d with
   | A =>
    show (if K.wrA = K.wrA then _ else _) = _
    rw [if_pos rfl]
    unfold stmt_register_2.g stmt_register_2.f stmt_operands_1.g stmt_operands_1.f
    rw [if_pos rfl, Option.bind_some]
    dsimp only
    rw [rn_eq hok, Option.bind_some, Option.bind_some]
    exact fin _
   | B =>
    show (if K.wrB = K.wrA then _ else if K.wrB = K.wrB then _ else _) = _
    rw [if_neg (by decide), if_pos rfl]
    unfold stmt_register_2.g stmt_register_2.f stmt_operands_2.g stmt_operands_2.f
    rw [if_neg (by decide), if_pos rfl, Option.bind_some]
    dsimp only
    rw [rn_eq hok, Option.bind_some, Option.bind_some]
    exact fin _
   | C =>
    show (if K.wrC = K.wrA then _ else if K.wrC = K.wrB then _ else if K.wrC = K.wrC then _ else _) = _
    rw [if_neg (by decide), if_neg (by decide), if_pos rfl]
    unfold stmt_register_2.g stmt_register_2.f stmt_operands_3.g stmt_operands_3.f
    rw [if_neg (by decide), if_neg (by decide), if_pos rfl, Option.bind_some]
    dsimp only
    rw [rn_eq hok, Option.bind_some, Option.bind_some]
    exact fin _
   | E =>
    show (if K.wrE = K.wrA then _ else if K.wrE = K.wrB then _ else if K.wrE = K.wrC then _ else if K.wrE = K.wrE then _ else _) = _
    rw [if_neg (by decide), if_neg (by decide), if_neg (by decide), if_pos rfl, num2_eq hok [] (.inl rfl), Option.bind_some]
    exact fin _
   | Q =>
    show (if K.wrQ = K.wrA then _ else if K.wrQ = K.wrB then _ else if K.wrQ = K.wrC then _ else if K.wrQ = K.wrE then _ else if K.wrQ = K.wrQ then _ else _) = _
    rw [if_neg (by decide), if_neg (by decide), if_neg (by decide), if_neg (by decide), if_pos rfl, num2_eq hok [61] (.inr rfl), Option.bind_some]
    exact fin _
   | N =>
    show (if K.wrN = K.wrA then _ else if K.wrN = K.wrB then _ else if K.wrN = K.wrC then _ else if K.wrN = K.wrE then _ else if K.wrN = K.wrQ then _ else if K.wrN = K.wrN then _ else _) = _
    rw [if_neg (by decide), if_neg (by decide), if_neg (by decide), if_neg (by decide), if_neg (by decide), if_pos rfl]
    unfold stmt_operands_5.g stmt_operands_5.f
    rw [Option.bind_some]
    exact fin _
  ·have hi' : i = ods.length := by omega
   subst hi'
   rw [List.drop_length, List.map_nil, List.append_nil, stmt_Print.l12, stmt_Print.l12]
   simp only [dt]
   rw [if_neg (by omega), if_neg (by omega)]
def hk (k : Int) : Int := if k = 2 then 1 else if k = 6 then 7 else k
def mtx (s : Sm) : Str := (if s.k = 9 ∨ s.k = 10 then [46] else []) ++ L.mnemR (hk s.k) s.o s.u
def stx (s : Sm) (t : Option Tr) : Str := if s.k = 0 then [] else mtx s ++ 32 :: L.sjoinR [44, 32] ((odL s.k s.o).map (wtx s t))
def ltx (lb : Str) (s : Sm) (t : Option Tr) : Str := if lb = [] then stx s t else lb ++ 58 :: (if s.k = 0 then [] else 32 :: stx s t)
theorem nt_len : ∀ e ∈ L.nameTbl, e.2.2.length ≤ 6 := by decide +kernel
theorem mnem_len (k o : Int) (u : Bool) : (L.mnemR k o u).length ≤ 6 := by
 by_cases h : L.mnemR k o u = []
 ·rw [h]; simp
 ·obtain ⟨e, he, _, h2⟩ := mnem_mem h
  rw [← h2]; exact nt_len e he
theorem flat_len (sep : Str) (b : Nat) : ∀ (l : List Str), (∀ x ∈ l, x.length ≤ b) → ((l.map (sep ++ ·)).flatten).length ≤ (b + sep.length) * l.length
 | [], _ => by simp
 | y :: r, h => by
  have h1 := h y (by simp)
  have h2 := flat_len sep b r fun z hz => h z (by simp [hz])
  rw [List.map_cons, List.flatten_cons, List.length_append, List.length_append, List.length_cons, Nat.mul_add, Nat.mul_one]
  omega
theorem sjoin_len (sep : Str) (b : Nat) (l : List Str) (h : ∀ x ∈ l, x.length ≤ b) : (L.sjoinR sep l).length ≤ (b + sep.length) * l.length := by
 cases l with
 | nil => simp [L.sjoinR]
 | cons x r =>
  have h1 := h x (by simp)
  have h2 := flat_len sep b r fun z hz => h z (by simp [hz])
  rw [show L.sjoinR sep (x :: r) = x ++ (r.map (sep ++ ·)).flatten from rfl, List.length_append, List.length_cons, Nat.mul_add, Nat.mul_one]
  omega
theorem hk_range {k : Int} (h : 0 ≤ k) (h2 : k ≤ 10) : -9223372036854775808 ≤ hk k ∧ hk k ≤ 9223372036854775807 := by unfold hk; split <;> (try split) <;> omega
theorem head_eq' (k : Int) : stmt_head.g k = some (hk k, ()) := by
 unfold stmt_head.g stmt_head.f hk
 simp only [dt]
 split
 ·rfl
 ·split <;> rfl
theorem dotted_eq (k : Int) : stmt_dotted.g k = some (decide (k = 9 ∨ k = 10), ()) := by
 unfold stmt_dotted.g stmt_dotted.f
 simp only [df]
 by_cases h : k = 9
 ·rw [if_neg (by simp [h])]; simp [h]
 ·rw [if_pos h]; simp [h]
abbrev printG (lb : Str) (s : Sm) : Option (Str × Int × Unit) := stmt_Print.g lb s.k s.o s.a s.b s.c s.u s.e s.nm
theorem good_kr {s : Sm} {t : Option Tr} (h : GoodS s t) : 0 ≤ s.k ∧ s.k ≤ 10 ∧ 0 ≤ s.o ∧ s.o ≤ 15 := by
 cases h with
 | none => decide
 | ins0 h hk => obtain ⟨h1, h2, h3, h4⟩ := i0_range h; exact ⟨by dsimp only; omega, by dsimp only; omega, h3, h4⟩
 | ins1 h hk ht => obtain ⟨h1, h2, h3, h4⟩ := i0_range h; exact ⟨by dsimp only; omega, by dsimp only; omega, h3, h4⟩
 | load ha ht => refine ⟨?_, ?_, ?_, ?_⟩ <;> dsimp only <;> decide
 | word ht => refine ⟨?_, ?_, ?_, ?_⟩ <;> dsimp only <;> decide
 | exp hn => refine ⟨?_, ?_, ?_, ?_⟩ <;> dsimp only <;> decide
theorem print_good {s : Sm} {t : Option Tr} (h : GoodS s t) {lb : Str} (hlb : lb = [] ∨ labelOk lb = true) : printG lb s = some (ltx lb s t, 0, ()) := by
 have hod := good_od h
 have hkr := good_kr h
 have hl3 := odL_len s.k s.o
 have hll : lb.length ≤ 12 := by
  rcases hlb with rfl | hlb
  ·simp
  ·unfold labelOk at hlb
   simp only [Bool.and_eq_true, decide_eq_true_eq] at hlb
   exact hlb.1.1.1.2
 have hbody : (L.sjoinR [44, 32] ((odL s.k s.o).map (wtx s t))).length ≤ 4000 := by
  have := sjoin_len [44, 32] 1300 ((odL s.k s.o).map (wtx s t)) (fun x hx => by
   obtain ⟨d, hd, rfl⟩ := List.mem_map.1 hx
   exact wtx_len (hod d hd))
  rw [List.length_map] at this
  have h2 : (1300 + ([44, 32] : Str).length) * (odL s.k s.o).length ≤ 1302 * 3 := Nat.mul_le_mul (by decide) hl3
  omega
 have hmt : (mtx s).length ≤ 7 := by
  unfold mtx
  have := mnem_len (hk s.k) s.o s.u
  rw [List.length_append]
  split <;> simp <;> omega
 have hm : L.mnemO (hk s.k) s.o s.u = some (L.mnemR (hk s.k) s.o s.u, ()) := mnemO_eq s.u (hk_range hkr.1 hkr.2.1) (by omega)
 have J17 : ∀ (n : Nat) (out : List Str), (L.sjoinR [32] out).length ≤ 10000 → out.length ≤ 10 → stmt_Print.j17 n out = some (L.sjoinR [32] out, 0, ()) := fun n out h1 h2 => by
  unfold stmt_Print.j17 L.sjoinO
  rw [if_pos ⟨by omega, by omega⟩, Option.bind_some]
 have J10 : ∀ (n : Nat) (out : List Str), 10 ≤ n → out.length ≤ 1 → (∀ x ∈ out, x.length ≤ 13) → stmt_Print.j10 n out (mtx s) s.k s.o s.a s.b s.c s.u s.e s.nm = some (L.sjoinR [32] (out ++ [mtx s, L.sjoinR [44, 32] ((odL s.k s.o).map (wtx s t))]), 0, ()) := fun n out hn ho hx => by
  unfold stmt_Print.j10
  have hlen : ((L.opsR s.k s.o).length : Int) = ((odL s.k s.o).length : Int) := by rw [opsR_eq, List.length_map]
  rw [hlen, opsR_eq]
  have := write_loop s t out (mtx s) n (odL s.k s.o) hod hl3 n 0 [] (by omega) (by omega) rfl
  rw [show ((0 : Nat) : Int) = 0 from rfl] at this
  rw [this, List.drop_zero, List.nil_append, stmt_Print.l12]
  simp only [dt]
  rw [if_neg (by omega)]
  unfold L.sjoinO
  rw [if_pos ⟨by omega, by rw [List.length_map]; omega⟩, Option.bind_some]
  dsimp only
  rw [if_pos (by simp; omega)]
  refine J17 n _ ?_ (by simp; omega)
  generalize L.sjoinR [44, 32] ((odL s.k s.o).map (wtx s t)) = B at hbody
  generalize mtx s = M at hmt
  match out, ho with
  | [], _ => simp [L.sjoinR]; omega
  | [x], _ => have := hx x (by simp); simp [L.sjoinR]; omega
 have J6 : ∀ (n : Nat) (out : List Str), 10 ≤ n → out.length ≤ 1 → (∀ x ∈ out, x.length ≤ 13) → stmt_Print.j6 n out s.k s.o s.a s.b s.c s.u s.e s.nm = some (L.sjoinR [32] (out ++ (if s.k = 0 then [] else [mtx s, L.sjoinR [44, 32] ((odL s.k s.o).map (wtx s t))])), 0, ()) := fun n out hn ho hx => by
  unfold stmt_Print.j6
  simp only [dt, head_eq', Option.bind_some, hm, dotted_eq]
  by_cases h0 : s.k = 0
  ·rw [if_neg (by simp [h0]), if_pos h0, List.append_nil]
   refine J17 n out ?_ (by omega)
   match out, ho with
   | [], _ => simp [L.sjoinR]
   | [x], _ => have := hx x (by simp); simp [L.sjoinR]; omega
  ·rw [if_pos h0, if_neg h0, ← J10 n out hn ho hx]
   unfold mtx
   by_cases hd : s.k = 9 ∨ s.k = 10
   ·rw [if_pos hd, if_pos (by have := mnem_len (hk s.k) s.o s.u; simp; omega), if_pos hd]
   ·rw [if_neg hd, if_neg hd]; rfl
 have J3 : ∀ n, 10 ≤ n → stmt_Print.j3 n lb s.k s.o s.a s.b s.c s.u s.e s.nm = some (ltx lb s t, 0, ()) := fun n hn => by
  unfold stmt_Print.j3 ltx stx
  by_cases hl : lb = []
  ·subst hl
   rw [if_neg (by decide), J6 n [] hn (by simp) (by simp), if_pos rfl]
   by_cases h0 : s.k = 0
   ·rw [if_pos h0, if_pos h0]; rfl
   ·rw [if_neg h0, if_neg h0]; simp [L.sjoinR]
  ·rw [if_pos (by simp [hl]), if_pos (by simp; omega), if_pos (by simp), J6 n _ hn (by simp) (by simp; omega), if_neg hl]
   by_cases h0 : s.k = 0
   ·rw [if_pos h0, if_pos h0]; simp [L.sjoinR]
   ·rw [if_neg h0, if_neg h0, if_neg h0]; simp [L.sjoinR]
 unfold printG stmt_Print.g
 have hN : 10 ≤ 1000 + lb.length + s.k.toNat + s.o.toNat + s.a.toNat + s.b.toNat + s.c.toNat + s.e.length + s.nm.length := by omega
 generalize 1000 + lb.length + s.k.toNat + s.o.toNat + s.a.toNat + s.b.toNat + s.c.toNat + s.e.length + s.nm.length = n at hN
 unfold stmt_Print.f
 have hmay : stmt_May.g s.k s.o s.a s.b s.c s.u s.e s.nm = some (true, ()) := may_good h
 rw [hmay, J3 n hN, label_eq]
 simp only [Option.bind_some]
 rcases hlb with rfl | hlb
 ·rfl
 ·rw [hlb]
  have : lb ≠ [] := by rintro rfl; exact absurd hlb (by decide)
  rw [if_pos (by simp [this]), if_pos (by decide), if_neg (by decide)]
theorem print_bad {s : Sm} {lb : Str} (h : (lb ≠ [] ∧ labelOk lb = false) ∨ mayG s = some (false, ())) (hm : ∃ r, mayG s = some (r, ())) : printG lb s = some ([], 22, ()) := by
 unfold printG stmt_Print.g
 generalize 1000 + lb.length + s.k.toNat + s.o.toNat + s.a.toNat + s.b.toNat + s.c.toNat + s.e.length + s.nm.length = n
 unfold stmt_Print.f
 obtain ⟨r, hr⟩ := hm
 have hr' : stmt_May.g s.k s.o s.a s.b s.c s.u s.e s.nm = some (r, ()) := hr
 rw [hr', label_eq]
 simp only [Option.bind_some]
 rcases h with ⟨h1, h2⟩ | h
 ·rw [if_pos (by simp [h1]), h2, if_neg (by decide)]
 ·have : r = false := by rw [h] at hr; simpa using hr.symm
  subst this
  split
  ·split <;> rfl
  ·rfl
end Rv
namespace Rv
open Go
theorem line_sig' (c : UInt8) (hc : c ∈ ([40, 41, 42, 43, 45, 44, 58, 61] : Str)) (k : Int) (r : Str) : lineR k (c :: r) = preE [(3, k, [c], 0, ())] (lineR (k + 1) r) := by
 have step : isL c = false ∧ isD c = false ∧ c ≠ 46 ∧ isS c = true ∧ c ≠ 59 ∧ c ≠ 32 ∧ c ≠ 9 := by
  simp only [List.mem_cons, List.not_mem_nil, or_false] at hc
  rcases hc with rfl | rfl | rfl | rfl | rfl | rfl | rfl | rfl <;> decide
 obtain ⟨h1, h2, h3, h4, h5, h6, h7⟩ := step
 rw [lineR_cons, if_neg h5, if_neg (fun h => h.elim h6 h7)]
 unfold tokAt
 rw [if_neg (by simp [h1]), if_neg (by simp [h2]), if_neg (fun h => h3 h.1), if_pos h4]
 dsimp only
 rw [show k + ((0 : Nat) : Int) + (([c] : Str).length : Int) = k + 1 by simp, show 0 + ([c] : Str).length - 1 = 0 from rfl, List.drop_zero]
 cases lineR (k + 1) r <;> rfl
def ScansA (s : Str) (b : List Bt) : Prop := ∀ k : Int, ∃ ts : List TokL, ts.map bare = b ∧ ∀ r, lineR k (s ++ r) = preE ts (lineR (k + s.length) r)
theorem ScansA.scans {s : Str} {b : List Bt} (h : ScansA s b) : Scans s b := fun k => by
 obtain ⟨ts, h1, h2⟩ := h k
 exact ⟨ts, h1, fun r _ => h2 r⟩
theorem ScansA.sig (c : UInt8) (hc : c ∈ ([40, 41, 42, 43, 45, 44, 58, 61] : Str)) : ScansA [c] [(3, [c], 0)] := fun k => ⟨[(3, k, [c], 0, ())], rfl, fun r => line_sig' c hc k r⟩
theorem ScansA.blank : ScansA [32] [] := fun k => ⟨[], rfl, fun r => by
 show lineR k (32 :: r) = _
 rw [line_blank]
 show _ = preE [] (lineR (k + 1) r)
 cases lineR (k + 1) r <;> rfl⟩
theorem scans_nil : Scans [] [] := fun k => ⟨[], rfl, fun r _ => by
 show lineR k r = preE [] (lineR (k + ((0 : Nat) : Int)) r)
 rw [show k + ((0 : Nat) : Int) = k by omega]
 cases lineR k r <;> rfl⟩
theorem ScansA.app {s s' : Str} {b b' : List Bt} (h : ScansA s b) (h' : Scans s' b') : Scans (s ++ s') (b ++ b') := fun k => by
 obtain ⟨ts, h1, h2⟩ := h k
 obtain ⟨ts', h3, h4⟩ := h' (k + s.length)
 refine ⟨ts ++ ts', by rw [List.map_append, h1, h3], fun r hr => ?_⟩
 rw [List.append_assoc, h2, h4 r hr, ← preE_app, List.length_append]
 congr 2
 omega
theorem ScansA.appA {s s' : Str} {b b' : List Bt} (h : ScansA s b) (h' : ScansA s' b') : ScansA (s ++ s') (b ++ b') := fun k => by
 obtain ⟨ts, h1, h2⟩ := h k
 obtain ⟨ts', h3, h4⟩ := h' (k + s.length)
 refine ⟨ts ++ ts', by rw [List.map_append, h1, h3], fun r => ?_⟩
 rw [List.append_assoc, h2, h4 r, ← preE_app, List.length_append]
 congr 2
 omega
theorem Scans.app {s s' : Str} {b b' : List Bt} (h : Scans s b) (h' : Scans s' b') (hs : s' = [] ∨ ∃ c y, s' = c :: y ∧ isW c = false) : Scans (s ++ s') (b ++ b') := fun k => by
 obtain ⟨ts, h1, h2⟩ := h k
 obtain ⟨ts', h3, h4⟩ := h' (k + s.length)
 refine ⟨ts ++ ts', by rw [List.map_append, h1, h3], fun r hr => ?_⟩
 have hok : okR (s' ++ r) := by
  rcases hs with rfl | ⟨c, y, rfl, hc⟩
  ·exact hr
  ·exact .inr ⟨c, y ++ r, rfl, hc⟩
 rw [List.append_assoc, h2 _ hok, h4 r hr, ← preE_app, List.length_append]
 congr 2
 omega
theorem Scans.appA {s s' : Str} {b b' : List Bt} (h : Scans s b) (h' : ScansA s' b') (hs : ∃ c y, s' = c :: y ∧ isW c = false) : ScansA (s ++ s') (b ++ b') := fun k => by
 obtain ⟨ts, h1, h2⟩ := h k
 obtain ⟨ts', h3, h4⟩ := h' (k + s.length)
 refine ⟨ts ++ ts', by rw [List.map_append, h1, h3], fun r => ?_⟩
 have hok : okR (s' ++ r) := by
  obtain ⟨c, y, rfl, hc⟩ := hs
  exact .inr ⟨c, y ++ r, rfl, hc⟩
 rw [List.append_assoc, h2 _ hok, h4 r, ← preE_app, List.length_append]
 congr 2
 omega
def wordy (s : Str) : Bool := s.all isW && (match s with | c :: _ => isL c | [] => false)
theorem scans_word {s : Str} (h : wordy s = true) : Scans s [(1, s, 0)] := fun k => by
 cases s with
 | nil => exact absurd h (by decide)
 | cons c t =>
  unfold wordy at h
  simp only [Bool.and_eq_true] at h
  refine ⟨[(1, k, c :: t, 0, ())], rfl, fun r hr => line_word rfl h.1 (fun r hr => ?_) k hr⟩
  have hword : wordOf (c :: (t ++ r)) = c :: t := by
   rw [← List.cons_append]; exact word_okR h.1 hr
  unfold tokAt
  rw [if_pos h.2, hword]
theorem scans_dot {s : Str} (h : wordy s = true) : Scans (46 :: s) [(4, s, 0)] := fun k => by
 cases s with
 | nil => exact absurd h (by decide)
 | cons c t =>
  unfold wordy at h
  simp only [Bool.and_eq_true] at h
  refine ⟨[(4, k, c :: t, 0, ())], rfl, fun r hr => ?_⟩
  have hword : wordOf (c :: t ++ r) = c :: t := word_okR h.1 hr
  rw [List.cons_append, lineR_cons, if_neg (by decide), if_neg (by decide)]
  unfold tokAt
  rw [if_neg (by decide), if_neg (by decide), if_pos ⟨rfl, c, rfl, h.2⟩, hword]
  dsimp only
  rw [show (c :: t ++ r).drop (1 + (c :: t).length - 1) = r by rw [Nat.add_sub_cancel_left]; exact List.drop_left' rfl, show k + ((1 : Nat) : Int) + ((c :: t).length : Int) = k + ((46 :: c :: t).length : Int) by simp; omega]
  cases lineR (k + ((46 :: c :: t).length : Int)) r <;> rfl
theorem scans_label {s : Str} (h : labelOk s = true) : Scans s [(1, s, 0)] := fun k => ⟨_, rfl, fun r hr => line_name' h k hr⟩
theorem name_label {s : Str} (h : nameOk s = true) : labelOk s = true := by
 unfold nameOk at h
 simp only [Bool.and_eq_true, decide_eq_true_eq, Bool.not_eq_true'] at h
 unfold labelOk
 simp only [Bool.and_eq_true, decide_eq_true_eq, Bool.not_eq_true']
 have hd : ∀ n : Nat, n < 256 → isA (UInt8.ofNat n) = true → isD (UInt8.ofNat n) = false := by decide +kernel
 have := hd (s.getD 0 0).toNat (UInt8.toNat_lt _)
 rw [UInt8.ofNat_toNat] at this
 exact ⟨⟨⟨⟨h.1.1.1.1, h.1.1.1.2⟩, this h.1.1.2⟩, h.2⟩, h.1.2⟩
theorem rn_word {a : Int} (h : rg a) : wordy (rn a) = true := by
 have : ∀ k : Nat, k < 16 → wordy (regN k) = true := by decide +kernel
 exact this a.toNat (by have := h.1; have := h.2; omega)
theorem nt_word : ∀ e ∈ L.nameTbl, wordy e.2.2 = true := by decide +kernel
theorem mnem_word {k o : Int} {u : Bool} (h : L.mnemR k o u ≠ []) : wordy (L.mnemR k o u) = true := by
 obtain ⟨e, he, _, h2⟩ := mnem_mem h
 rw [← h2]; exact nt_word e he
def i0B (k o : Nat) (u : Bool) : Bool := ((k == 1 || k == 2) && decide (o < 12) && (!u || (o == 0 && k == 2) || (decide (8 ≤ o) && decide (o ≤ 10)))) || ((k == 3 || k == 4) && o == 0 && !u) || (k == 5 && decide (o < 4) && !u) || k == 6 || k == 7
theorem i0_all : ∀ k : Nat, k < 8 → ∀ o : Nat, o < 16 → ∀ u : Bool, i0B k o u = true → L.mnemR (hk (k : Int)) (o : Int) u ≠ [] := by decide +kernel
theorem i0_mnem {k o a b c : Int} {u : Bool} (h : GoodI0 k o a b c u) : L.mnemR (hk k) o u ≠ [] := by
 obtain ⟨h1, h2, h3, h4⟩ := i0_range h
 obtain ⟨k', rfl⟩ : ∃ k' : Nat, k = (k' : Int) := ⟨k.toNat, by omega⟩
 obtain ⟨o', rfl⟩ : ∃ o' : Nat, o = (o' : Int) := ⟨o.toNat, by omega⟩
 refine i0_all k' (by omega) o' (by omega) u ?_
 generalize hk' : (k' : Int) = K at h
 generalize ho' : (o' : Int) = O at h
 have kk : ∀ n : Nat, K = (n : Int) → k' = n := fun n e => by omega
 have oo : ∀ n : Nat, O = (n : Int) → o' = n := fun n e => by omega
 unfold i0B
 cases h with
 | reg q1 q2 _ _ _ q3 =>
  rw [kk 1 rfl]
  have : o' < 12 := by omega
  cases u with
  | false => simp [this]
  | true =>
   have := q3 rfl
   have : 8 ≤ o' ∧ o' ≤ 10 := by omega
   simp [*]
 | mov _ _ => rw [kk 1 rfl, oo 0 rfl]; decide
 | imm q1 q2 _ _ q3 =>
  rw [kk 2 rfl]
  have : o' < 12 := by omega
  cases u with
  | false => simp [this]
  | true =>
   have := q3 rfl
   have : 8 ≤ o' ∧ o' ≤ 10 := by omega
   simp [*]
 | movi _ => rw [kk 2 rfl, oo 0 rfl]; cases u <;> decide
 | hi _ => rw [kk 3 rfl, oo 0 rfl]; decide
 | fl _ => rw [kk 4 rfl, oo 0 rfl]; decide
 | mem q1 q2 _ _ =>
  rw [kk 5 rfl]
  have : o' < 4 := by omega
  simp [this]
 | br _ _ => rw [kk 6 rfl]; simp
 | jmp _ => rw [kk 7 rfl]; simp
theorem good_mnem {s : Sm} {t : Option Tr} (h : GoodS s t) (h0 : s.k ≠ 0) : L.mnemR (hk s.k) s.o s.u ≠ [] := by
 cases h with
 | none => exact absurd rfl h0
 | ins0 h _ => exact i0_mnem h
 | ins1 h _ _ => exact i0_mnem h
 | load _ _ => exact (by decide +kernel : L.mnemR (hk 8) 0 false ≠ [])
 | word _ => exact (by decide +kernel : L.mnemR (hk 9) 0 false ≠ [])
 | exp _ => exact (by decide +kernel : L.mnemR (hk 10) 0 false ≠ [])
def joinB : List (List Bt) → List Bt
 | [] => []
 | x :: r => x ++ (r.map ((3, [44], 0) :: ·)).flatten
def mtk (s : Sm) : Bt := (if s.k = 9 ∨ s.k = 10 then 4 else 1, L.mnemR (hk s.k) s.o s.u, 0)
def ek : Option Tr → List Bt
 | none => []
 | some t => t.toks
def wtk (s : Sm) (t : Option Tr) : Od → List Bt
 | .A => [(1, rn s.a, 0)] | .B => [(1, rn s.b, 0)] | .C => [(1, rn s.c, 0)] | .E => ek t | .Q => (3, [61], 0) :: ek t | .N => [(1, s.nm, 0)]
def stk (s : Sm) (t : Option Tr) : List Bt := if s.k = 0 then [] else mtk s :: joinB ((odL s.k s.o).map (wtk s t))
def ltk (lb : Str) (s : Sm) (t : Option Tr) : List Bt := if lb = [] then stk s t else (1, lb, 0) :: (3, [58], 0) :: stk s t
theorem scans_od {s : Sm} {t : Option Tr} {d : Od} (h : okOd s t d) : Scans (wtx s t d) (wtk s t d) := by
 cases d with
 | A => exact scans_word (rn_word h)
 | B => exact scans_word (rn_word h)
 | C => exact scans_word (rn_word h)
 | E => obtain ⟨x, rfl, hx, _⟩ := h; exact scans_tree x hx.1
 | Q =>
  obtain ⟨x, rfl, hx, _⟩ := h
  exact ((ScansA.sig 61 (by decide)).appA ScansA.blank).app (scans_tree x hx.1)
 | N => exact scans_label (name_label h)
theorem scans_join {s : Sm} {t : Option Tr} : ∀ (l : List Od), (∀ d ∈ l, okOd s t d) → Scans (L.sjoinR [44, 32] (l.map (wtx s t))) (joinB (l.map (wtk s t)))
 | [], _ => scans_nil
 | d :: l, h => by
  have tail : ∀ l : List Od, (∀ d ∈ l, okOd s t d) → Scans (((l.map (wtx s t)).map (([44, 32] : Str) ++ ·)).flatten) (((l.map (wtk s t)).map ((3, [44], 0) :: ·)).flatten) ∧ ((((l.map (wtx s t)).map (([44, 32] : Str) ++ ·)).flatten) = [] ∨ ∃ c y, (((l.map (wtx s t)).map (([44, 32] : Str) ++ ·)).flatten) = c :: y ∧ isW c = false) := by
   intro l
   induction l with
   | nil => intro _; exact ⟨scans_nil, .inl rfl⟩
   | cons e l ih =>
    intro h
    obtain ⟨h1, h2⟩ := ih fun d hd => h d (List.mem_cons_of_mem _ hd)
    have h3 := scans_od (h e (List.mem_cons_self ..))
    refine ⟨?_, .inr ⟨44, _, rfl, by decide⟩⟩
    have := (((ScansA.sig 44 (by decide)).appA ScansA.blank).app h3).app h1 h2
    simpa using this
  obtain ⟨h1, h2⟩ := tail l fun d hd => h d (List.mem_cons_of_mem _ hd)
  exact (scans_od (h d (List.mem_cons_self ..))).app h1 h2
theorem scans_stx {s : Sm} {t : Option Tr} (h : GoodS s t) : Scans (stx s t) (stk s t) := by
 unfold stx stk
 by_cases h0 : s.k = 0
 ·rw [if_pos h0, if_pos h0]; exact scans_nil
 ·rw [if_neg h0, if_neg h0]
  have hw := mnem_word (good_mnem h h0)
  have hm : Scans (mtx s) [mtk s] := by
   unfold mtx mtk
   by_cases hd : s.k = 9 ∨ s.k = 10
   ·rw [if_pos hd, if_pos hd]; exact scans_dot hw
   ·rw [if_neg hd, if_neg hd]; exact scans_word hw
  exact hm.app (ScansA.blank.app (scans_join _ (good_od h))) (.inr ⟨32, _, rfl, by decide⟩)
theorem scans_ltx {s : Sm} {t : Option Tr} (h : GoodS s t) {lb : Str} (hlb : lb = [] ∨ labelOk lb = true) : Scans (ltx lb s t) (ltk lb s t) := by
 unfold ltx ltk
 by_cases hl : lb = []
 ·rw [if_pos hl, if_pos hl]; exact scans_stx h
 ·rw [if_neg hl, if_neg hl]
  have h1 := scans_label (hlb.resolve_left hl)
  have h2 : Scans (58 :: (if s.k = 0 then [] else 32 :: stx s t)) ((3, [58], 0) :: stk s t) := by
   by_cases h0 : s.k = 0
   ·rw [if_pos h0, show stk s t = [] by unfold stk; rw [if_pos h0]]; exact (ScansA.sig 58 (by decide)).scans
   ·rw [if_neg h0]; exact (ScansA.sig 58 (by decide)).app (ScansA.blank.app (scans_stx h))
  exact h1.app h2 (.inr ⟨58, _, rfl, by decide⟩)
theorem stx_len {s : Sm} {t : Option Tr} (h : GoodS s t) : (stx s t).length ≤ 4100 := by
 unfold stx
 split
 ·simp
 ·have := sjoin_len [44, 32] 1300 ((odL s.k s.o).map (wtx s t)) (fun x hx => by
   obtain ⟨d, hd, rfl⟩ := List.mem_map.1 hx
   exact wtx_len (good_od h d hd))
  rw [List.length_map] at this
  have h2 : (1300 + ([44, 32] : Str).length) * (odL s.k s.o).length ≤ 1302 * 3 := Nat.mul_le_mul (by decide) (odL_len _ _)
  have h3 : (mtx s).length ≤ 7 := by
   unfold mtx
   have := mnem_len (hk s.k) s.o s.u
   rw [List.length_append]
   split <;> simp <;> omega
  rw [List.length_append, List.length_cons]
  omega
theorem ltx_len {s : Sm} {t : Option Tr} (h : GoodS s t) {lb : Str} (hlb : lb = [] ∨ labelOk lb = true) : (ltx lb s t).length ≤ 5000 := by
 have h1 := stx_len h
 have hll : lb.length ≤ 12 := by
  rcases hlb with rfl | hlb
  ·simp
  ·unfold labelOk at hlb
   simp only [Bool.and_eq_true, decide_eq_true_eq] at hlb
   exact hlb.1.1.1.2
 unfold ltx
 split
 ·omega
 ·rw [List.length_append, List.length_cons]
  split
  ·simp; omega
  ·rw [List.length_cons]; omega
end Rv
namespace Rv
open Go
def isSg (l : List TokL) (p : Nat) (c : UInt8) : Bool := decide (p < l.length) && decide ((l.getD p dTok).1 = 3) && decide ((l.getD p dTok).2.2.1 = [c])
abbrev XR := Except Int (List Item × Nat)
def xF (l : List TokL) (S F : Nat → XR) (p : Nat) : XR :=
 if isSg l p 45 = true then (match F (p + 1) with | .error e => .error e | .ok r => .ok (r.1 ++ [(3, 0, [], ())], r.2))
 else if isSg l p 40 = true then (match S (p + 1) with | .error e => .error e | .ok r => if isSg l r.2 41 = true then .ok (r.1, r.2 + 1) else .error 23)
 else if p < l.length ∧ (l.getD p dTok).1 = 2 then .ok ([(1, (l.getD p dTok).2.2.2.1, [], ())], p + 1)
 else if p < l.length ∧ (l.getD p dTok).1 = 1 ∧ labelOk (l.getD p dTok).2.2.1 = true then .ok ([(2, 0, (l.getD p dTok).2.2.1, ())], p + 1)
 else .error 23
def lT (l : List TokL) (F : Nat → XR) : Nat → List Item → Nat → XR
 | 0, it, p => .ok (it, p)
 | m + 1, it, p => if isSg l p 42 = true then (match F (p + 1) with | .error e => .error e | .ok r => lT l F m (it ++ r.1 ++ [(6, 0, [], ())]) r.2) else .ok (it, p)
def xT (l : List TokL) (F : Nat → XR) (p : Nat) : XR := match F p with | .error e => .error e | .ok r => lT l F (l.length + 1) r.1 r.2
def lS (l : List TokL) (T : Nat → XR) : Nat → List Item → Nat → XR
 | 0, it, p => .ok (it, p)
 | m + 1, it, p => if isSg l p 43 = true then (match T (p + 1) with | .error e => .error e | .ok r => lS l T m (it ++ r.1 ++ [(4, 0, [], ())]) r.2)
  else if isSg l p 45 = true then (match T (p + 1) with | .error e => .error e | .ok r => lS l T m (it ++ r.1 ++ [(5, 0, [], ())]) r.2) else .ok (it, p)
def xS (l : List TokL) (F : Nat → XR) (p : Nat) : XR := match xT l F p with | .error e => .error e | .ok r => lS l (xT l F) (l.length + 1) r.1 r.2
def pF (l : List TokL) : Nat → Nat → XR
 | 0, _ => .error 24
 | q + 1, p => xF l (xS l (pF l q)) (pF l q) p
def parseX (l : List TokL) (p : Nat) : List Item × Int × Int × Unit :=
 match xS l (pF l 9) p with
 | .error e => ([], 0, e, ())
 | .ok r => if 64 < r.1.length then ([], 0, 24, ()) else (r.1, (r.2 : Int), 0, ())
structure OkX (l : List TokL) (p : Nat) (it : List Item) (p' : Nat) : Prop where
 lt : p < p'
 le : p' ≤ l.length
 len : it.length ≤ p' - p
 well : wellL it
 good : (∀ t ∈ l, 0 ≤ t.2.2.2.1 ∧ t.2.2.2.1 ≤ 4294967295) → ∀ x ∈ it, goodItem x
def GoodX (l : List TokL) (p : Nat) : XR → Prop
 | .error e => e = 23 ∨ e = 24
 | .ok r => OkX l p r.1 r.2
theorem isSg_lt {l : List TokL} {p : Nat} {c : UInt8} (h : isSg l p c = true) : p < l.length := by
 unfold isSg at h
 simp only [Bool.and_eq_true, decide_eq_true_eq] at h
 exact h.1.1
theorem getD_memT {l : List TokL} {p : Nat} (h : p < l.length) : l.getD p dTok ∈ l := by
 rw [List.getD_eq_getElem?_getD, List.getElem?_eq_getElem h]; exact List.getElem_mem h
theorem goodX_F {l : List TokL} {S F : Nat → XR} (hS : ∀ p, GoodX l p (S p)) (hF : ∀ p, GoodX l p (F p)) (p : Nat) : GoodX l p (xF l S F p) := by
 unfold xF
 split
 ·rename_i h
  have := hF (p + 1)
  cases hr : F (p + 1) with
  | error e => rw [hr] at this; exact this
  | ok r =>
   rw [hr] at this
   have h1 := this.lt; have h2 := this.len; have h3 := this.le
   refine ⟨by dsimp only; omega, h3, by simp; omega, well_one this.well _ rfl, fun ht x hx => ?_⟩
   simp only [List.mem_append, List.mem_singleton] at hx
   rcases hx with hx | rfl
   ·exact this.good ht x hx
   ·exact ⟨by decide, by decide, rfl⟩
 ·split
  ·have := hS (p + 1)
   cases hr : S (p + 1) with
   | error e => rw [hr] at this; exact this
   | ok r =>
    rw [hr] at this
    dsimp only
    split
    ·rename_i h
     have h0 := isSg_lt h
     have h1 := this.lt; have h2 := this.len; have h3 := this.le
     exact ⟨by dsimp only; omega, by dsimp only; omega, by dsimp only; omega, this.well, this.good⟩
    ·exact .inl rfl
  ·split
   ·rename_i h
    refine ⟨by dsimp only; omega, by have := h.1; dsimp only; omega, by simp, rfl, fun ht x hx => ?_⟩
    simp only [List.mem_singleton] at hx
    subst hx
    have := ht _ (getD_memT h.1)
    exact ⟨this.1, this.2, rfl⟩
   ·split
    ·rename_i h
     have hn : needsR (2, 0, (l.getD p dTok).2.2.1, ()) = (0, true) := by
      generalize (l.getD p dTok).2.2.1 = tx at h
      unfold needsR
      simp [h.2.2]
     refine ⟨by dsimp only; omega, by have := h.1; dsimp only; omega, by simp, ?_, fun ht x hx => ?_⟩
     ·show enough 0 [((2, 0, (l.getD p dTok).2.2.1, ()) : Item)] = some 1
      generalize ((2, 0, (l.getD p dTok).2.2.1, ()) : Item) = x at hn
      simp [enough, hn]
     ·simp only [List.mem_singleton] at hx
      subst hx
      exact ⟨by show (0 : Int) ≤ 0; decide, by show (0 : Int) ≤ _; decide, by rw [hn]⟩
    ·exact .inl rfl
theorem goodX_bin {l : List TokL} {a b c : Nat} {A B : List Item} (ha : OkX l a A b) (hb : OkX l (b + 1) B c) (x : Item) (hx : needsR x = (2, true)) (h0 : x.2.1 = 0) : OkX l a (A ++ B ++ [x]) c := by
 have h1 := ha.lt; have h2 := ha.len; have h3 := hb.lt; have h4 := hb.len
 refine ⟨by omega, hb.le, by simp; omega, well_two ha.well hb.well x hx, fun ht y hy => ?_⟩
 simp only [List.mem_append, List.mem_singleton] at hy
 rcases hy with (hy | hy) | rfl
 ·exact ha.good ht y hy
 ·exact hb.good ht y hy
 ·exact ⟨by rw [h0]; decide, by rw [h0]; decide, by rw [hx]⟩
theorem goodX_lT {l : List TokL} {F : Nat → XR} (hF : ∀ p, GoodX l p (F p)) (a : Nat) : ∀ (m : Nat) (it : List Item) (p : Nat), OkX l a it p → GoodX l a (lT l F m it p)
 | 0, it, p, h => h
 | m + 1, it, p, h => by
  rw [lT]
  split
  ·have := hF (p + 1)
   cases hr : F (p + 1) with
   | error e => rw [hr] at this; exact this
   | ok r =>
    rw [hr] at this
    exact goodX_lT hF a m _ _ (goodX_bin h this _ rfl rfl)
  ·exact h
theorem goodX_T {l : List TokL} {F : Nat → XR} (hF : ∀ p, GoodX l p (F p)) (p : Nat) : GoodX l p (xT l F p) := by
 unfold xT
 have := hF p
 cases hr : F p with
 | error e => rw [hr] at this; exact this
 | ok r => rw [hr] at this; exact goodX_lT hF p _ _ _ this
theorem goodX_lS {l : List TokL} {F : Nat → XR} (hF : ∀ p, GoodX l p (F p)) (a : Nat) : ∀ (m : Nat) (it : List Item) (p : Nat), OkX l a it p → GoodX l a (lS l F m it p)
 | 0, it, p, h => h
 | m + 1, it, p, h => by
  rw [lS]
  split
  ·have := hF (p + 1)
   cases hr : F (p + 1) with
   | error e => rw [hr] at this; exact this
   | ok r =>
    rw [hr] at this
    exact goodX_lS hF a m _ _ (goodX_bin h this _ rfl rfl)
  ·split
   ·have := hF (p + 1)
    cases hr : F (p + 1) with
    | error e => rw [hr] at this; exact this
    | ok r =>
     rw [hr] at this
     exact goodX_lS hF a m _ _ (goodX_bin h this _ rfl rfl)
   ·exact h
theorem goodX_S {l : List TokL} {F : Nat → XR} (hF : ∀ p, GoodX l p (F p)) (p : Nat) : GoodX l p (xS l F p) := by
 unfold xS
 have := goodX_T hF p
 cases hr : xT l F p with
 | error e => rw [hr] at this; exact this
 | ok r => rw [hr] at this; exact goodX_lS (goodX_T hF) p _ _ _ this
theorem goodX_pF (l : List TokL) : ∀ (q p : Nat), GoodX l p (pF l q p)
 | 0, _ => .inr rfl
 | q + 1, p => goodX_F (goodX_S (goodX_pF l q)) (goodX_pF l q) p
theorem sign_any (all : List Str) (hall : all.length ≤ 100) (l : List TokL) (p : Nat) (hl : l.length ≤ 1000000) (out : List Item) : expr_parser_sign.g all l p out 0 =
  if p < l.length ∧ (l.getD p dTok).1 = 3 ∧ (l.getD p dTok).2.2.1 ∈ all then some ((l.getD p dTok).2.2.1, true, l, ((p + 1 : Nat) : Int), out, 0, ()) else some ([], false, l, (p : Int), out, 0, ()) := by
 unfold expr_parser_sign.g expr_parser_sign.f
 by_cases hp : p < l.length
 ·rw [next_at l p out hp, Option.bind_some]
  dsimp only
  have := sign_loop (1000 + all.length + l.length + (p : Int).toNat + out.length + (0 : Int).toNat) all hall true l p out 0 (l.getD p dTok).1 (l.getD p dTok).2.1 (l.getD p dTok).2.2.1 (l.getD p dTok).2.2.2.1 (1000 + all.length + l.length + (p : Int).toNat + out.length + (0 : Int).toNat) 0 (by omega) (by omega)
  rw [show ((0 : Nat) : Int) = 0 from rfl] at this
  rw [this, w64 (by omega), List.drop_zero]
  by_cases h : (l.getD p dTok).1 = 3 ∧ (l.getD p dTok).2.2.1 ∈ all
  ·rw [if_pos ⟨rfl, h⟩, if_pos ⟨hp, h⟩]; rfl
  ·rw [if_neg (fun g => h g.2), if_neg (fun g => h g.2)]
 ·rw [next_end l p out (by omega), Option.bind_some]
  dsimp only
  have := sign_loop (1000 + all.length + l.length + (p : Int).toNat + out.length + (0 : Int).toNat) all hall false l p out 0 0 0 [] 0 (1000 + all.length + l.length + (p : Int).toNat + out.length + (0 : Int).toNat) 0 (by omega) (by omega)
  rw [show ((0 : Nat) : Int) = 0 from rfl] at this
  rw [this, if_neg (fun g => by cases g.1), if_neg (fun g => hp g.1)]
theorem isSg_iff {l : List TokL} {p : Nat} {c : UInt8} : isSg l p c = true ↔ p < l.length ∧ (l.getD p dTok).1 = 3 ∧ (l.getD p dTok).2.2.1 = [c] := by
 unfold isSg
 simp only [Bool.and_eq_true, decide_eq_true_eq, and_assoc]
theorem put_big (a b : Int) (c : Str) (l : List TokL) (p : Int) (out : List Item) (e : Int) (ho : out.length ≤ 3000000) : expr_parser_put.g a b c l p out e = some (l, p, out ++ [(a, b, c, ())], e, ()) := by
 unfold expr_parser_put.g expr_parser_put.f
 rw [if_pos (by simp; omega)]
def ResF (l : List TokL) (out : List Item) (B : Nat) (r : Option (List TokL × Int × List Item × Int × Unit)) : XR → Prop
 | .ok x => r = some (l, (x.2 : Int), out ++ x.1, 0, ())
 | .error e => ∃ p' out', r = some (l, p', out', e, ()) ∧ out'.length ≤ B
def ResT (l : List TokL) (out : List Item) (d : Int) (B : Nat) (r : Option (List TokL × Int × List Item × Int × Unit × Int × Unit)) : XR → Prop
 | .ok x => r = some (l, (x.2 : Int), out ++ x.1, 0, (), d, ())
 | .error e => ∃ p' out', r = some (l, p', out', e, (), d, ()) ∧ out'.length ≤ B
def okFq (l : List TokL) (q : Nat) : Prop := ∀ (p : Nat) (out : List Item) (Q : Nat), out.length + (l.length - p) ≤ 1000000 → 6 * q + 1 ≤ Q → ResF l out (2000000 + 3 * q) ((R Q).expr_parser_factor ((9 - q : Nat) : Int) l p out 0) (pF l q p)
def okTq (l : List TokL) (q : Nat) : Prop := ∀ (p : Nat) (out : List Item) (Q : Nat), out.length + (l.length - p) ≤ 1000000 → 6 * q + 4 ≤ Q → ∃ r, (R Q).expr_parser_sum_1 ((9 - q : Nat) : Int) l p out 0 = r.map (fun y => ((), ((9 - q : Nat) : Int), y)) ∧ ResF l out (2000000 + 3 * q + 1) r (xT l (pF l q) p)
def okSq (l : List TokL) (q : Nat) : Prop := ∀ (p : Nat) (out : List Item) (Q : Nat), out.length + (l.length - p) ≤ 1000000 → 6 * q + 6 ≤ Q → ResF l out (2000000 + 3 * q + 2) ((R Q).expr_parser_sum ((9 - q : Nat) : Int) l p out 0) (xS l (pF l q) p)
theorem err_ne {l : List TokL} {p : Nat} {x : XR} {e : Int} (h : GoodX l p x) (hx : x = .error e) : e ≠ 0 := by
 subst hx
 rcases h with rfl | rfl <;> decide
theorem T_loop {l : List TokL} (hl : l.length ≤ 1000000) {q : Nat} (hq9 : q ≤ 9) (hF : okFq l q) (n : Nat) (Q : Nat) (hQ : 6 * q + 2 ≤ Q) (out : List Item) : ∀ (m M : Nat) (it : List Item) (p : Nat), l.length - p < m → l.length - p < M → (out ++ it).length + (l.length - p) ≤ 1000000 →
  ResT l out ((9 - q : Nat) : Int) (2000000 + 3 * q + 1) (expr_parser_row_c201.l1 n (R Q) M sMul l p (out ++ it) 0 ((9 - q : Nat) : Int)) (lT l (pF l q) m it p) := by
 intro m
 induction m with
 | zero => intro M it p h; omega
 | succ m ih =>
  intro M it p hm hM ho
  obtain ⟨M, rfl⟩ : ∃ M', M = M' + 1 := ⟨M - 1, by omega⟩
  rw [expr_parser_row_c201.l1, sign_any sMul (by simp) l p hl, lT]
  by_cases hs : isSg l p 42 = true
  ·have hs' := isSg_iff.1 hs
   rw [if_pos ⟨hs'.1, hs'.2.1, by rw [hs'.2.2]; decide⟩, if_pos hs, Option.bind_some, hs'.2.2]
   dsimp only
   rw [if_neg (by decide)]
   obtain ⟨Q, rfl⟩ : ∃ Q', Q = Q' + 1 := ⟨Q - 1, by omega⟩
   have e : (R (Q + 1)).expr_parser_sum_1_1 ((9 - q : Nat) : Int) l ((p + 1 : Nat) : Int) (out ++ it) 0 = expr_parser_sum_1_1.h (R Q) ((9 - q : Nat) : Int) l ((p + 1 : Nat) : Int) (out ++ it) 0 := rfl
   rw [e]
   unfold expr_parser_sum_1_1.h expr_parser_sum_1_1.f
   have hg := goodX_pF l q (p + 1)
   have hr := hF (p + 1) (out ++ it) Q (by omega) (by omega)
   cases hx : pF l q (p + 1) with
   | error e =>
    rw [hx] at hr
    obtain ⟨p', out', h1, h2⟩ := hr
    have hne := err_ne hg hx
    have hlt := hs'.1
    rw [h1, Option.bind_some, Option.bind_some]
    dsimp only
    rw [put_big _ _ _ _ _ _ _ (by omega), Option.bind_some]
    dsimp only
    obtain ⟨M, rfl⟩ : ∃ M', M = M' + 1 := ⟨M - 1, by omega⟩
    rw [l52_err n _ M l p' _ e _ hne]
    exact ⟨p', _, rfl, by simp; omega⟩
   | ok r =>
    rw [hx] at hr hg
    have hr : (R Q).expr_parser_factor ((9 - q : Nat) : Int) l ((p + 1 : Nat) : Int) (out ++ it) 0 = some (l, (r.2 : Int), (out ++ it) ++ r.1, 0, ()) := hr
    have g1 := hg.lt; have g2 := hg.len; have g3 := hg.le
    rw [hr, Option.bind_some, Option.bind_some]
    dsimp only
    rw [put_big _ _ _ _ _ _ _ (by simp at ho ⊢; omega), Option.bind_some]
    dsimp only
    have := ih M (it ++ r.1 ++ [(6, 0, [], ())]) r.2 (by omega) (by omega) (by simp at ho ⊢; omega)
    rw [show out ++ it ++ r.1 ++ [((L.kinds [42]).1, 0, [], ())] = out ++ (it ++ r.1 ++ [(6, 0, [], ())]) by simp [L.kinds]]
    exact this
  ·rw [if_neg (fun h => hs (isSg_iff.2 ⟨h.1, h.2.1, by simpa using h.2.2⟩)), if_neg hs, Option.bind_some]
   rfl
theorem T_of {l : List TokL} (hl : l.length ≤ 1000000) {q : Nat} (hq9 : q ≤ 9) (hF : okFq l q) : okTq l q := by
 intro p out Q ho hQ
 obtain ⟨Q, rfl⟩ : ∃ Q', Q = Q' + 2 := ⟨Q - 2, by omega⟩
 have e : (R (Q + 2)).expr_parser_sum_1 ((9 - q : Nat) : Int) l (p : Int) out 0 = expr_parser_sum_1.h (R (Q + 1)) ((9 - q : Nat) : Int) l (p : Int) out 0 := rfl
 rw [e]
 unfold expr_parser_sum_1.h expr_parser_sum_1.f
 have e2 : (R (Q + 1)).expr_parser_row_c201 sMul l (p : Int) out 0 ((9 - q : Nat) : Int) = expr_parser_row_c201.h (R Q) sMul l (p : Int) out 0 ((9 - q : Nat) : Int) := rfl
 rw [e2]
 unfold expr_parser_row_c201.h expr_parser_row_c201.f
 obtain ⟨N, hN⟩ : ∃ N, 1000 + sMul.length + l.length + (p : Int).toNat + out.length + (0 : Int).toNat + (((9 - q : Nat) : Int)).toNat = N := ⟨_, rfl⟩
 rw [hN]
 obtain ⟨Q, rfl⟩ : ∃ Q', Q = Q' + 1 := ⟨Q - 1, by omega⟩
 have e3 : (R (Q + 1)).expr_parser_sum_1_1 ((9 - q : Nat) : Int) l (p : Int) out 0 = expr_parser_sum_1_1.h (R Q) ((9 - q : Nat) : Int) l (p : Int) out 0 := rfl
 rw [e3]
 unfold expr_parser_sum_1_1.h expr_parser_sum_1_1.f
 have hg := goodX_pF l q p
 have hr := hF p out Q (by omega) (by omega)
 unfold xT
 cases hx : pF l q p with
 | error e =>
  rw [hx] at hr
  obtain ⟨p', out', h1, h2⟩ := hr
  have hne := err_ne hg hx
  rw [h1, Option.bind_some, Option.bind_some]
  dsimp only
  obtain ⟨M, rfl⟩ : ∃ M', N = M' + 1 := ⟨N - 1, by omega⟩
  rw [l52_err _ _ M l p' _ e _ hne, Option.bind_some]
  exact ⟨some (l, p', out', e, ()), rfl, p', out', rfl, by omega⟩
 | ok r =>
  rw [hx] at hr hg
  have hr : (R Q).expr_parser_factor ((9 - q : Nat) : Int) l (p : Int) out 0 = some (l, (r.2 : Int), out ++ r.1, 0, ()) := hr
  have g1 := hg.lt; have g2 := hg.len; have g3 := hg.le
  rw [hr, Option.bind_some, Option.bind_some]
  dsimp only
  have := T_loop hl hq9 hF N (Q + 1) (by omega) out (l.length + 1) N r.1 r.2 (by omega) (by omega) (by simp; omega)
  generalize expr_parser_row_c201.l1 N (R (Q + 1)) N sMul l (r.2 : Int) (out ++ r.1) 0 ((9 - q : Nat) : Int) = X at this
  cases hy : lT l (pF l q) (l.length + 1) r.1 r.2 with
  | error e =>
   rw [hy] at this
   obtain ⟨p', out', h1, h2⟩ := this
   rw [h1, Option.bind_some]
   exact ⟨some (l, p', out', e, ()), rfl, p', out', rfl, h2⟩
  | ok x =>
   rw [hy] at this
   have this : X = some (l, (x.2 : Int), out ++ x.1, 0, (), ((9 - q : Nat) : Int), ()) := this
   rw [this, Option.bind_some]
   exact ⟨some (l, (x.2 : Int), out ++ x.1, 0, ()), rfl, rfl⟩
theorem S_loop {l : List TokL} (hl : l.length ≤ 1000000) {q : Nat} (hq9 : q ≤ 9) (hT : okTq l q) (n : Nat) (Q : Nat) (hQ : 6 * q + 4 ≤ Q) (out : List Item) : ∀ (m M : Nat) (it : List Item) (p : Nat), l.length - p < m → l.length - p < M → (out ++ it).length + (l.length - p) ≤ 1000000 →
  ResT l out ((9 - q : Nat) : Int) (2000000 + 3 * q + 2) (expr_parser_row_c200.l1 n (R Q) M sAdd l p (out ++ it) 0 ((9 - q : Nat) : Int)) (lS l (xT l (pF l q)) m it p) := by
 intro m
 induction m with
 | zero => intro M it p h; omega
 | succ m ih =>
  intro M it p hm hM ho
  obtain ⟨M, rfl⟩ : ∃ M', M = M' + 1 := ⟨M - 1, by omega⟩
  rw [expr_parser_row_c200.l1, sign_any sAdd (by simp) l p hl, lS]
  have step : ∀ (c : UInt8) (K : Int), (L.kinds [c]).1 = K → isSg l p c = true →
    ResT l out ((9 - q : Nat) : Int) (2000000 + 3 * q + 2) (((R Q).expr_parser_sum_1 ((9 - q : Nat) : Int) l ((p + 1 : Nat) : Int) (out ++ it) 0).bind fun y2 => (expr_parser_put.g ((L.kinds [c]).1) 0 ([] : Str) y2.2.2.1 y2.2.2.2.1 y2.2.2.2.2.1 y2.2.2.2.2.2.1).bind fun y3 => (expr_parser_row_c200.l1 n (R Q) M) sAdd y3.1 y3.2.1 y3.2.2.1 y3.2.2.2.1 y2.2.1)
     (match xT l (pF l q) (p + 1) with | .error e => .error e | .ok r => lS l (xT l (pF l q)) m (it ++ r.1 ++ [(K, 0, [], ())]) r.2) := by
   intro c K hK hs
   have hs' := isSg_iff.1 hs
   have hlt := hs'.1
   have hg := goodX_T (goodX_pF l q) (p + 1)
   obtain ⟨rr, h0, hr⟩ := hT (p + 1) (out ++ it) Q (by omega) hQ
   rw [h0]
   cases hx : xT l (pF l q) (p + 1) with
   | error e =>
    rw [hx] at hr
    obtain ⟨p', out', h1, h2⟩ := hr
    have hne := err_ne hg hx
    rw [h1, Option.map_some, Option.bind_some]
    dsimp only
    rw [put_big _ _ _ _ _ _ _ (by omega), Option.bind_some]
    dsimp only
    obtain ⟨M, rfl⟩ : ∃ M', M = M' + 1 := ⟨M - 1, by omega⟩
    rw [l51_err n _ M l p' _ e _ hne]
    exact ⟨p', _, rfl, by simp; omega⟩
   | ok r =>
    rw [hx] at hr hg
    have hr : rr = some (l, (r.2 : Int), (out ++ it) ++ r.1, 0, ()) := hr
    have g1 := hg.lt; have g2 := hg.len; have g3 := hg.le
    rw [hr, Option.map_some, Option.bind_some]
    dsimp only
    rw [put_big _ _ _ _ _ _ _ (by simp at ho ⊢; omega), Option.bind_some]
    dsimp only
    have := ih M (it ++ r.1 ++ [(K, 0, [], ())]) r.2 (by omega) (by omega) (by simp at ho ⊢; omega)
    rw [hK, show out ++ it ++ r.1 ++ [(K, 0, [], ())] = out ++ (it ++ r.1 ++ [(K, 0, [], ())]) by simp]
    exact this
  by_cases hs : isSg l p 43 = true
  ·have hs' := isSg_iff.1 hs
   rw [if_pos ⟨hs'.1, hs'.2.1, by rw [hs'.2.2]; decide⟩, if_pos hs, Option.bind_some, hs'.2.2]
   dsimp only
   rw [if_neg (by decide)]
   exact step 43 4 rfl hs
  ·by_cases hs2 : isSg l p 45 = true
   ·have hs' := isSg_iff.1 hs2
    rw [if_pos ⟨hs'.1, hs'.2.1, by rw [hs'.2.2]; decide⟩, if_neg hs, if_pos hs2, Option.bind_some, hs'.2.2]
    dsimp only
    rw [if_neg (by decide)]
    exact step 45 5 rfl hs2
   ·rw [if_neg (fun h => by
     have h3 := h.2.2
     simp only [List.mem_cons, List.not_mem_nil, or_false] at h3
     rcases h3 with h3 | h3
     ·exact hs (isSg_iff.2 ⟨h.1, h.2.1, h3⟩)
     ·exact hs2 (isSg_iff.2 ⟨h.1, h.2.1, h3⟩)), if_neg hs, if_neg hs2, Option.bind_some]
    rfl
theorem S_of {l : List TokL} (hl : l.length ≤ 1000000) {q : Nat} (hq9 : q ≤ 9) (hT : okTq l q) : okSq l q := by
 intro p out Q ho hQ
 obtain ⟨Q, rfl⟩ : ∃ Q', Q = Q' + 2 := ⟨Q - 2, by omega⟩
 have e : (R (Q + 2)).expr_parser_sum ((9 - q : Nat) : Int) l (p : Int) out 0 = expr_parser_sum.h (R (Q + 1)) ((9 - q : Nat) : Int) l (p : Int) out 0 := rfl
 rw [e]
 unfold expr_parser_sum.h expr_parser_sum.f
 have e2 : (R (Q + 1)).expr_parser_row_c200 sAdd l (p : Int) out 0 ((9 - q : Nat) : Int) = expr_parser_row_c200.h (R Q) sAdd l (p : Int) out 0 ((9 - q : Nat) : Int) := rfl
 rw [e2]
 unfold expr_parser_row_c200.h expr_parser_row_c200.f
 obtain ⟨N, hN⟩ : ∃ N, 1000 + sAdd.length + l.length + (p : Int).toNat + out.length + (0 : Int).toNat + (((9 - q : Nat) : Int)).toNat = N := ⟨_, rfl⟩
 rw [hN]
 have hg := goodX_T (goodX_pF l q) p
 obtain ⟨rr, h0, hr⟩ := hT p out Q (by omega) (by omega)
 rw [h0]
 unfold xS
 cases hx : xT l (pF l q) p with
 | error e =>
  rw [hx] at hr
  obtain ⟨p', out', h1, h2⟩ := hr
  have hne := err_ne hg hx
  rw [h1, Option.map_some, Option.bind_some]
  dsimp only
  obtain ⟨M, rfl⟩ : ∃ M', N = M' + 1 := ⟨N - 1, by omega⟩
  rw [l51_err _ _ M l p' _ e _ hne, Option.bind_some]
  exact ⟨p', out', rfl, by omega⟩
 | ok r =>
  rw [hx] at hr hg
  have hr : rr = some (l, (r.2 : Int), out ++ r.1, 0, ()) := hr
  have g1 := hg.lt; have g2 := hg.len; have g3 := hg.le
  rw [hr, Option.map_some, Option.bind_some]
  dsimp only
  have := S_loop hl hq9 hT N Q (by omega) out (l.length + 1) N r.1 r.2 (by omega) (by omega) (by simp; omega)
  generalize expr_parser_row_c200.l1 N (R Q) N sAdd l (r.2 : Int) (out ++ r.1) 0 ((9 - q : Nat) : Int) = X at this
  cases hy : lS l (xT l (pF l q)) (l.length + 1) r.1 r.2 with
  | error e =>
   rw [hy] at this
   obtain ⟨p', out', h1, h2⟩ := this
   rw [h1, Option.bind_some]
   exact ⟨p', out', rfl, h2⟩
  | ok x =>
   rw [hy] at this
   have this : X = some (l, (x.2 : Int), out ++ x.1, 0, (), ((9 - q : Nat) : Int), ()) := this
   rw [this, Option.bind_some]
   rfl
theorem F_of {l : List TokL} (hl : l.length ≤ 1000000) {q : Nat} (hq9 : q + 1 ≤ 9) (hF : okFq l q) (hS : okSq l q) : okFq l (q + 1) := by
 intro p out Q ho hQ
 obtain ⟨Q, rfl⟩ : ∃ Q', Q = Q' + 1 := ⟨Q - 1, by omega⟩
 have e : (R (Q + 1)).expr_parser_factor ((9 - (q + 1) : Nat) : Int) l (p : Int) out 0 = expr_parser_factor.h (R Q) ((9 - (q + 1) : Nat) : Int) l (p : Int) out 0 := rfl
 rw [e]
 unfold expr_parser_factor.h expr_parser_factor.f
 have hd : IntKind.i64.wrap (((9 - (q + 1) : Nat) : Int) + 1) = ((9 - q : Nat) : Int) := by rw [w64 (by omega)]; omega
 rw [if_neg (by decide), if_neg (by simp; omega), sign_any [[45], [40]] (by simp) l p hl, hd]
 show ResF l out _ _ (xF l (xS l (pF l q)) (pF l q) p)
 unfold xF
 by_cases h1 : isSg l p 45 = true
 ·have hs' := isSg_iff.1 h1
  rw [if_pos ⟨hs'.1, hs'.2.1, by rw [hs'.2.2]; decide⟩, if_pos h1, Option.bind_some, hs'.2.2]
  dsimp only
  rw [if_pos (by decide)]
  have hlt := hs'.1
  have hg := goodX_pF l q (p + 1)
  have hr := hF (p + 1) out Q (by omega) (by omega)
  cases hx : pF l q (p + 1) with
  | error e =>
   rw [hx] at hr
   obtain ⟨p', out', h3, h2⟩ := hr
   rw [h3, Option.bind_some]
   dsimp only
   rw [put_big _ _ _ _ _ _ _ (by omega), Option.bind_some]
   exact ⟨p', _, rfl, by simp; omega⟩
  | ok r =>
   rw [hx] at hr hg
   have hr : (R Q).expr_parser_factor ((9 - q : Nat) : Int) l ((p + 1 : Nat) : Int) out 0 = some (l, (r.2 : Int), out ++ r.1, 0, ()) := hr
   have g1 := hg.lt; have g2 := hg.len; have g3 := hg.le
   rw [hr, Option.bind_some]
   dsimp only
   rw [put_big _ _ _ _ _ _ _ (by simp; omega), Option.bind_some]
   show some (l, (r.2 : Int), out ++ r.1 ++ [(3, 0, [], ())], 0, ()) = some (l, (r.2 : Int), out ++ (r.1 ++ [(3, 0, [], ())]), 0, ())
   rw [List.append_assoc]
 ·by_cases h2 : isSg l p 40 = true
  ·have hs' := isSg_iff.1 h2
   rw [if_pos ⟨hs'.1, hs'.2.1, by rw [hs'.2.2]; decide⟩, if_neg h1, if_pos h2, Option.bind_some, hs'.2.2]
   dsimp only
   rw [if_neg (by decide), if_pos (by decide)]
   have hlt := hs'.1
   have hg := goodX_S (goodX_pF l q) (p + 1)
   have hr := hS (p + 1) out Q (by omega) (by omega)
   cases hx : xS l (pF l q) (p + 1) with
   | error e =>
    rw [hx] at hr
    obtain ⟨p', out', h3, h4⟩ := hr
    have hne := err_ne hg hx
    rw [h3, Option.bind_some]
    dsimp only
    rw [sign_err _ (by simp) l p' out' e hne, Option.bind_some]
    dsimp only
    rw [if_pos (show (!false) = true from rfl), fail_err 23 l p' out' e hne, Option.bind_some]
    exact ⟨p', out', rfl, by omega⟩
   | ok r =>
    rw [hx] at hr hg
    have hr : (R Q).expr_parser_sum ((9 - q : Nat) : Int) l ((p + 1 : Nat) : Int) out 0 = some (l, (r.2 : Int), out ++ r.1, 0, ()) := hr
    have g1 := hg.lt; have g2 := hg.len; have g3 := hg.le
    rw [hr, Option.bind_some]
    dsimp only
    rw [sign_any [[41]] (by simp) l r.2 hl]
    by_cases h3 : isSg l r.2 41 = true
    ·have hs2 := isSg_iff.1 h3
     rw [if_pos ⟨hs2.1, hs2.2.1, by rw [hs2.2.2]; decide⟩, if_pos h3, Option.bind_some]
     dsimp only
     rw [if_neg (by decide)]
     rfl
    ·rw [if_neg (fun h => h3 (isSg_iff.2 ⟨h.1, h.2.1, by simpa using h.2.2⟩)), if_neg h3, Option.bind_some]
     dsimp only
     rw [if_pos (show (!false) = true from rfl), fail_eq, Option.bind_some]
     exact ⟨_, _, rfl, by simp; omega⟩
  ·rw [if_neg (fun h => by
     have h3 := h.2.2
     simp only [List.mem_cons, List.not_mem_nil, or_false] at h3
     rcases h3 with h3 | h3
     ·exact h1 (isSg_iff.2 ⟨h.1, h.2.1, h3⟩)
     ·exact h2 (isSg_iff.2 ⟨h.1, h.2.1, h3⟩)), if_neg h1, if_neg h2, Option.bind_some]
   dsimp only
   rw [if_neg (show ¬ decide (([] : Str) = [45]) = true by decide), if_neg (show ¬ decide (([] : Str) = [40]) = true by decide)]
   by_cases hp : p < l.length
   ·rw [next_at l p out hp, Option.bind_some]
    dsimp only
    generalize ht : l.getD p dTok = t
    by_cases k2 : t.1 = 2
    ·rw [if_pos (show true = true from rfl), if_pos (show decide (t.1 = 2) = true by simp [k2]), if_pos (show p < l.length ∧ t.1 = 2 from ⟨hp, k2⟩), put_big _ _ _ _ _ _ _ (by omega), Option.bind_some]
     unfold expr_parser_factor.j19
     dsimp only
     rw [w64 (by omega)]
     rfl
    ·rw [if_pos (show true = true from rfl), if_neg (show ¬ decide (t.1 = 2) = true by simp [k2]), if_pos (show true = true from rfl), if_neg (show ¬ (p < l.length ∧ t.1 = 2) from fun h => k2 h.2)]
     by_cases k1 : t.1 = 1
     ·rw [if_pos (show decide (t.1 = 1) = true by simp [k1]), label_eq, Option.bind_some]
      dsimp only
      by_cases hL : labelOk t.2.2.1 = true
      ·rw [if_pos hL, if_pos (show p < l.length ∧ t.1 = 1 ∧ labelOk t.2.2.1 = true from ⟨hp, k1, hL⟩), put_big _ _ _ _ _ _ _ (by omega), Option.bind_some]
       unfold expr_parser_factor.j19
       dsimp only
       rw [w64 (by omega)]
       rfl
      ·rw [if_neg hL, if_neg (show ¬ (p < l.length ∧ t.1 = 1 ∧ labelOk t.2.2.1 = true) from fun h => hL h.2.2), fail_eq, Option.bind_some]
       exact ⟨_, _, rfl, by dsimp only; omega⟩
     ·rw [if_neg (show ¬ decide (t.1 = 1) = true by simp [k1]), if_neg (show ¬ (p < l.length ∧ t.1 = 1 ∧ labelOk t.2.2.1 = true) from fun h => k1 h.2.1), fail_eq, Option.bind_some]
      exact ⟨_, _, rfl, by dsimp only; omega⟩
   ·rw [next_end l p out (by omega), Option.bind_some]
    dsimp only
    rw [if_neg (show ¬ false = true by decide), if_neg (show ¬ false = true by decide), if_neg (show ¬ (p < l.length ∧ (l.getD p dTok).1 = 2) from fun h => hp h.1), if_neg (show ¬ (p < l.length ∧ (l.getD p dTok).1 = 1 ∧ labelOk (l.getD p dTok).2.2.1 = true) from fun h => hp h.1), fail_eq, Option.bind_some]
    exact ⟨_, _, rfl, by dsimp only; omega⟩
theorem F_all {l : List TokL} (hl : l.length ≤ 1000000) : ∀ q, q ≤ 9 → okFq l q
 | 0, _ => fun p out Q ho hQ => by
  obtain ⟨Q, rfl⟩ : ∃ Q', Q = Q' + 1 := ⟨Q - 1, by omega⟩
  exact ⟨_, _, F_deep Q l p out, by omega⟩
 | q + 1, h => F_of hl h (F_all hl q (by omega)) (S_of hl (by omega) (T_of hl (by omega) (F_all hl q (by omega))))
theorem parseX_eq (l : List TokL) (hl : l.length ≤ 1000000) (p : Nat) : expr_Parse.g l p = some (parseX l p) := by
 unfold expr_Parse.g expr_Parse.f expr_parser_sum.g
 have hr := S_of hl (by decide) (T_of hl (by decide) (F_all hl 9 (by decide))) p [] (1000 + (0 : Int).toNat + l.length + (p : Int).toNat + ([] : List Item).length + (0 : Int).toNat) (by simp; omega) (by omega)
 have hg := goodX_S (goodX_pF l 9) p
 unfold parseX
 cases hx : xS l (pF l 9) p with
 | error e =>
  rw [hx] at hr
  obtain ⟨p', out', h3, _⟩ := hr
  have hne := err_ne hg hx
  rw [show ((9 - 9 : Nat) : Int) = 0 from rfl] at h3
  rw [h3, Option.bind_some]
  dsimp only
  rw [if_neg (by simpa using hne)]
  unfold expr_Parse.j5
  rw [if_pos (by simpa using hne)]
 | ok r =>
  rw [hx] at hr
  have hr : (R (1000 + (0 : Int).toNat + l.length + (p : Int).toNat + ([] : List Item).length + (0 : Int).toNat)).expr_parser_sum ((9 - 9 : Nat) : Int) l (p : Int) [] 0 = some (l, (r.2 : Int), [] ++ r.1, 0, ()) := hr
  rw [show ((9 - 9 : Nat) : Int) = 0 from rfl] at hr
  rw [hr, Option.bind_some]
  dsimp only
  rw [if_pos (show decide ((0 : Int) = 0) = true from rfl), List.nil_append]
  by_cases h64 : 64 < r.1.length
  ·rw [if_pos (by simp; omega), if_pos h64]
   unfold expr_Parse.j5
   rw [if_pos (by decide)]
  ·rw [if_neg (by simp; omega), if_neg h64]
   unfold expr_Parse.j5
   rw [if_neg (by decide)]
end Rv
