/- Texts put together. -/
import Derived.Test.YtaonefbdamklhaaGreatDoorT2
import Derived.Test.YtaonefbdamklhaaGreatDoorT1
set_option linter.all false
namespace Rv
open Go
theorem fail_err (x : Int) (l : List TokL) (p : Int) (out : List Item) (e : Int) (he : e ≠ 0) : expr_parser_fail.g x l p out e = some (l, p, out, e, ()) := by
 unfold expr_parser_fail.g expr_parser_fail.f
 rw [if_neg (by simpa using he)]
theorem l52_err (n : Nat) (r : Rec_expr_parser_sum) (m : Nat) (l : List TokL) (p : Int) (out : List Item) (e d : Int) (he : e ≠ 0) : expr_parser_row_c201.l1 n r (m + 1) sMul l p out e d = some (l, p, out, e, (), d, ()) := by
 rw [expr_parser_row_c201.l1, sign_err sMul (by simp) l p out e he, Option.bind_some]
 rfl
theorem l51_err (n : Nat) (r : Rec_expr_parser_sum) (m : Nat) (l : List TokL) (p : Int) (out : List Item) (e d : Int) (he : e ≠ 0) : expr_parser_row_c200.l1 n r (m + 1) sAdd l p out e d = some (l, p, out, e, (), d, ()) := by
 rw [expr_parser_row_c200.l1, sign_err sAdd (by simp) l p out e he, Option.bind_some]
 rfl
theorem l52_exit (n : Nat) (r : Rec_expr_parser_sum) (m : Nat) {l : List TokL} {p : Nat} {k : List Bt} (h : At l p k) (hs : noS sMul k) (out : List Item) (d : Int) : expr_parser_row_c201.l1 n r (m + 1) sMul l p out 0 d = some (l, (p : Int), out, 0, (), d, ()) := by
 rw [expr_parser_row_c201.l1, sign_no sMul (by simp) h hs out, Option.bind_some]
 rfl
theorem l51_exit (n : Nat) (r : Rec_expr_parser_sum) (m : Nat) {l : List TokL} {p : Nat} {k : List Bt} (h : At l p k) (hs : noS sAdd k) (out : List Item) (d : Int) : expr_parser_row_c200.l1 n r (m + 1) sAdd l p out 0 d = some (l, (p : Int), out, 0, (), d, ()) := by
 rw [expr_parser_row_c200.l1, sign_no sAdd (by simp) h hs out, Option.bind_some]
 rfl
theorem F_deep (q : Nat) (l : List TokL) (p : Int) (out : List Item) : (R (q + 1)).expr_parser_factor 9 l p out 0 = some (l, p, out, 24, ()) := by
 show expr_parser_factor.h (R q) 9 l p out 0 = _
 unfold expr_parser_factor.h expr_parser_factor.f
 rw [if_neg (by decide), if_pos (by decide), fail_eq, Option.bind_some]
theorem F_intro {t : Tr} (H : ∀ (l : List TokL) (p : Nat) (out : List Item) (rest : List Bt) (d q : Nat), l.length ≤ 1000000 → out.length + t.post.length ≤ 1000000 → At l p (t.toksA 2 ++ rest) → d ≤ 8 → 6 * (9 - d) ≤ q →
  (d + t.depA 2 ≤ 8 → expr_parser_factor.h (R q) (d : Int) l p out 0 = some (l, ((p + (t.toksA 2).length : Nat) : Int), out ++ t.post, 0, ())) ∧
  (¬ d + t.depA 2 ≤ 8 → ∃ (p' : Int) (out' : List Item), expr_parser_factor.h (R q) (d : Int) l p out 0 = some (l, p', out', 24, ()) ∧ out'.length ≤ out.length + t.post.length)) : okF t := by
 intro l p out rest d q hl ho hat hd hq
 obtain ⟨q, rfl⟩ : ∃ q', q = q' + 1 := ⟨q - 1, by omega⟩
 by_cases h9 : d = 9
 ·subst h9
  refine ⟨fun h => absurd h (by omega), fun _ => ⟨(p : Int), out, F_deep q l p out, by omega⟩⟩
 ·exact H l p out rest d q hl ho hat (by omega) (by omega)
theorem noS_kind {all : List Str} {b : Bt} {r : List Bt} (h : b.1 ≠ 3) : noS all (b :: r) := fun b' r' e h' => by cases e; exact h h'.1
theorem noS_text {all : List Str} {b : Bt} {r : List Bt} (h : b.2.1 ∉ all) : noS all (b :: r) := fun b' r' e h' => by cases e; exact h h'.2
theorem F_num (n : Int) : okF (.num n) := F_intro fun l p out rest d q hl ho hat hd hq => by
 have hat : At l p ((2, Lib.itoa n, n) :: rest) := hat
 obtain ⟨h1, h2, _⟩ := At.cons hat
 simp only [bare, Prod.mk.injEq] at h2
 refine ⟨fun _ => ?_, fun h => absurd (show d + (Tr.num n).depA 2 ≤ 8 from hd) h⟩
 unfold expr_parser_factor.h expr_parser_factor.f
 rw [if_neg (by decide), if_neg (by simp; omega), sign_no [[45], [40]] (by simp) hat (noS_kind (show (2 : Int) ≠ 3 by decide)) out, Option.bind_some]
 dsimp only
 rw [if_neg (show ¬ decide (([] : Str) = [45]) = true by decide), if_neg (show ¬ decide (([] : Str) = [40]) = true by decide), next_at l p out h1, Option.bind_some]
 dsimp only
 rw [if_pos rfl, if_pos (by rw [h2.1]; decide), h2.2.2, put_eq _ _ _ _ _ _ _ (by omega), Option.bind_some]
 unfold expr_parser_factor.j19
 dsimp only
 rw [w64 (by omega)]
 rfl
theorem F_nam {s : Str} (hs : labelOk s = true) : okF (.nam s) := F_intro fun l p out rest d q hl ho hat hd hq => by
 have hat : At l p ((1, s, 0) :: rest) := hat
 obtain ⟨h1, h2, _⟩ := At.cons hat
 simp only [bare, Prod.mk.injEq] at h2
 refine ⟨fun _ => ?_, fun h => absurd (show d + (Tr.nam s).depA 2 ≤ 8 from hd) h⟩
 unfold expr_parser_factor.h expr_parser_factor.f
 rw [if_neg (by decide), if_neg (by simp; omega), sign_no [[45], [40]] (by simp) hat (noS_kind (show (1 : Int) ≠ 3 by decide)) out, Option.bind_some]
 dsimp only
 rw [if_neg (show ¬ decide (([] : Str) = [45]) = true by decide), if_neg (show ¬ decide (([] : Str) = [40]) = true by decide), next_at l p out h1, Option.bind_some]
 dsimp only
 rw [if_pos rfl, if_neg (by rw [h2.1]; decide), if_pos rfl, if_pos (by rw [h2.1]; decide), h2.2.1, label_eq, hs, Option.bind_some]
 dsimp only
 rw [if_pos rfl, put_eq _ _ _ _ _ _ _ (by omega), Option.bind_some]
 unfold expr_parser_factor.j19
 dsimp only
 rw [w64 (by omega)]
 rfl
theorem F_neg {x : Tr} (hx : okF x) : okF (.neg x) := F_intro fun l p out rest d q hl ho hat hd hq => by
 have hat : At l p (tNeg :: (x.toksA 2 ++ rest)) := by
  have e : (Tr.neg x).toksA 2 ++ rest = tNeg :: (x.toksA 2 ++ rest) := rfl
  rw [e] at hat; exact hat
 obtain ⟨h1, _, hat2⟩ := At.cons hat
 have hpost : (Tr.neg x).post = x.post ++ [(3, 0, [], ())] := rfl
 have hdep : (Tr.neg x).depA 2 = 1 + x.depA 2 := rfl
 have htl : ((Tr.neg x).toksA 2).length = 1 + (x.toksA 2).length := by
  show (tNeg :: x.toksA 2).length = _
  rw [List.length_cons, Nat.add_comm]
 rw [hpost] at ho
 simp only [List.length_append, List.length_cons, List.length_nil] at ho
 obtain ⟨g1, g2⟩ := hx l (p + 1) out rest (d + 1) q hl (by omega) hat2 (by omega) (by omega)
 rw [hdep, htl, hpost]
 unfold expr_parser_factor.h expr_parser_factor.f
 rw [if_neg (by decide), if_neg (by simp; omega), sign_yes [[45], [40]] (by simp) hat hl (by simp) out, Option.bind_some]
 dsimp only
 rw [if_pos (show decide (([45] : Str) = [45]) = true by decide), w64 (by omega), show (d : Int) + 1 = ((d + 1 : Nat) : Int) by omega]
 constructor
 ·intro h
  rw [g1 (by omega), Option.bind_some]
  dsimp only
  rw [put_eq _ _ _ _ _ _ _ (by simp; omega), Option.bind_some]
  dsimp only
  rw [List.append_assoc, Nat.add_assoc]
 ·intro h
  obtain ⟨p', out', g3, g4⟩ := g2 (by omega)
  rw [g3, Option.bind_some]
  dsimp only
  rw [put_eq _ _ _ _ _ _ _ (by omega), Option.bind_some]
  exact ⟨p', _, rfl, by simp; omega⟩
theorem brk_len (b : Bool) (l : List Bt) : l.length ≤ (brk b l).length := by unfold brk; split <;> simp <;> omega
theorem mc_toks : ∀ t : Tr, mc t ≤ t.toks.length
 | .num _ => Nat.zero_le _
 | .nam _ => Nat.zero_le _
 | .neg _ => Nat.zero_le _
 | .bin .mul a b => by
  have h1 := mc_toks a
  have h2 := brk_len (decide (a.tight < Opr.mul.tight)) a.toks
  simp only [mc, Tr.toks, List.length_append, List.length_cons]; omega
 | .bin .add _ _ => Nat.zero_le _
 | .bin .sub _ _ => Nat.zero_le _
 | .br _ => Nat.zero_le _
theorem ac_toks : ∀ t : Tr, ac t ≤ t.toks.length
 | .num _ => Nat.zero_le _
 | .nam _ => Nat.zero_le _
 | .neg _ => Nat.zero_le _
 | .bin .mul _ _ => Nat.zero_le _
 | .bin .add a b => by
  have h1 := ac_toks a
  have h2 := brk_len (decide (a.tight < Opr.add.tight)) a.toks
  simp only [ac, Tr.toks, List.length_append, List.length_cons]; omega
 | .bin .sub a b => by
  have h1 := ac_toks a
  have h2 := brk_len (decide (a.tight < Opr.sub.tight)) a.toks
  simp only [ac, Tr.toks, List.length_append, List.length_cons]; omega
 | .br _ => Nat.zero_le _
theorem toks_ne (t : Tr) : t.toks ≠ [] := by cases t <;> simp [Tr.toks]
theorem toksA_ne (lv : Nat) (t : Tr) : t.toksA lv ≠ [] := by
 intro h
 have h1 := brk_len (decide (t.tight < lv)) t.toks
 have h2 : (t.toksA lv).length = 0 := by rw [h]; rfl
 have h3 : t.toks.length ≠ 0 := fun h => toks_ne t (List.length_eq_zero_iff.1 h)
 unfold Tr.toksA at h2
 omega
theorem W_of_T {t : Tr} (hT : okT t) (l : List TokL) (p : Nat) (out : List Item) (rest : List Bt) (d q : Nat) (hl : l.length ≤ 1000000) (ho : out.length + t.post.length ≤ 1000000) (hat : At l p (t.toksA 1 ++ rest)) (hr : noS sMul rest) (hd : d ≤ 9) (hq : 6 * (9 - d) + 4 ≤ q) :
  (d + t.depA 1 ≤ 8 → (R q).expr_parser_sum_1 (d : Int) l p out 0 = some ((), (d : Int), l, ((p + (t.toksA 1).length : Nat) : Int), out ++ t.post, 0, ())) ∧
  (¬ d + t.depA 1 ≤ 8 → ∃ (p' : Int) (out' : List Item), (R q).expr_parser_sum_1 (d : Int) l p out 0 = some ((), (d : Int), l, p', out', 24, ()) ∧ out'.length ≤ out.length + t.post.length) := by
 obtain ⟨q, rfl⟩ : ∃ q', q = q' + 2 := ⟨q - 2, by omega⟩
 have hmc := mc_le t
 show (_ → expr_parser_sum_1.h (R (q + 1)) d l p out 0 = _) ∧ (_ → ∃ p' out', expr_parser_sum_1.h (R (q + 1)) d l p out 0 = _ ∧ _)
 unfold expr_parser_sum_1.h expr_parser_sum_1.f
 have e : (R (q + 1)).expr_parser_row_c201 sMul l (p : Int) out 0 (d : Int) = expr_parser_row_c201.h (R q) sMul l (p : Int) out 0 (d : Int) := rfl
 rw [e]
 unfold expr_parser_row_c201.h expr_parser_row_c201.f
 have hN : ∃ N, 1000 + sMul.length + l.length + (p : Int).toNat + out.length + (0 : Int).toNat + (d : Int).toNat = N := ⟨_, rfl⟩
 obtain ⟨N, hN⟩ := hN
 rw [hN]
 have hlen := At.len hat (toksA_ne 1 t)
 have h1 := mc_toks t
 have h2 := brk_len (decide (t.tight < 1)) t.toks
 have hbig : mc t < N := by unfold Tr.toksA at hlen; omega
 obtain ⟨g1, g2⟩ := hT l p out rest d q N N hl ho hat hd (by omega) hbig
 constructor
 ·intro h
  rw [g1 h]
  obtain ⟨m, hm⟩ : ∃ m, N - mc t = m + 1 := ⟨N - mc t - 1, by omega⟩
  rw [hm, l52_exit N (R q) m (At.app' hat) hr, Option.bind_some]
 ·intro h
  obtain ⟨p', out', g3, g4⟩ := g2 h
  rw [g3, Option.bind_some]
  exact ⟨p', out', rfl, g4⟩
theorem T_of_F {t : Tr} (hF : okF t) (hA : t.toksA 1 = t.toksA 2) (hD : t.depA 1 = t.depA 2) (hm0 : mc t = 0) : okT t := by
 intro l p out rest d q m n hl ho hat hd hq hm
 obtain ⟨q, rfl⟩ : ∃ q', q = q' + 1 := ⟨q - 1, by omega⟩
 rw [hA] at hat
 obtain ⟨g1, g2⟩ := hF l p out rest d q hl ho hat hd (by omega)
 have e : (R (q + 1)).expr_parser_sum_1_1 (d : Int) l (p : Int) out 0 = expr_parser_sum_1_1.h (R q) (d : Int) l (p : Int) out 0 := rfl
 rw [e, hA, hD, hm0]
 unfold expr_parser_sum_1_1.h expr_parser_sum_1_1.f
 constructor
 ·intro h
  rw [g1 h, Option.bind_some, Option.bind_some]
  rfl
 ·intro h
  obtain ⟨p', out', g3, g4⟩ := g2 h
  rw [g3, Option.bind_some, Option.bind_some]
  obtain ⟨m, rfl⟩ : ∃ m', m = m' + 1 := ⟨m - 1, by omega⟩
  exact ⟨p', out', l52_err n (R (q + 1)) m l p' out' 24 d (by decide), g4⟩
theorem mx1 {d x y : Nat} (h : d + max x y ≤ 8) : d + x ≤ 8 := by omega
theorem mx2 {d x y : Nat} (h : d + max x y ≤ 8) : d + y ≤ 8 := by omega
theorem mx3 {d x y : Nat} (h : ¬ d + max x y ≤ 8) (h1 : d + x ≤ 8) : ¬ d + y ≤ 8 := by omega
theorem T_mul {a b : Tr} (ha : okT a) (hb : okF b) : okT (.bin .mul a b) := by
 intro l p out rest d q m n hl ho hat hd hq hm
 have hA : (Tr.bin .mul a b).toksA 1 = a.toksA 1 ++ tOp .mul :: b.toksA 2 := rfl
 have hP : (Tr.bin .mul a b).post = a.post ++ b.post ++ [(6, 0, [], ())] := rfl
 have hD : (Tr.bin .mul a b).depA 1 = max (a.depA 1) (b.depA 2) := rfl
 have hM : mc (Tr.bin .mul a b) = mc a + 1 := rfl
 rw [hA, List.append_assoc, List.cons_append] at hat
 rw [hM] at hm
 rw [hP] at ho
 simp only [List.length_append, List.length_cons, List.length_nil] at ho
 obtain ⟨g1, g2⟩ := ha l p out (tOp .mul :: (b.toksA 2 ++ rest)) d q m n hl (by omega) hat hd hq (by omega)
 rw [hA, hP, hD, hM]
 clear hD
 have hat1 := At.app' hat
 obtain ⟨_, _, hat2⟩ := At.cons hat1
 by_cases h1 : d + a.depA 1 ≤ 8
 ·rw [g1 h1]
  obtain ⟨m', hm'⟩ : ∃ m', m - mc a = m' + 1 := ⟨m - mc a - 1, by omega⟩
  rw [hm', expr_parser_row_c201.l1, sign_yes sMul (by simp) hat1 hl (by simp [tOp, Opr.byte]) _, Option.bind_some]
  dsimp only
  rw [if_neg (show ¬ (!true) = true by decide)]
  obtain ⟨q, rfl⟩ : ∃ q', q = q' + 1 := ⟨q - 1, by omega⟩
  obtain ⟨k1, k2⟩ := hb l (p + (a.toksA 1).length + 1) (out ++ a.post) rest d q hl (by simp; omega) hat2 hd (by omega)
  have e : (R (q + 1)).expr_parser_sum_1_1 (d : Int) l ((p + (a.toksA 1).length + 1 : Nat) : Int) (out ++ a.post) 0 = expr_parser_sum_1_1.h (R q) (d : Int) l ((p + (a.toksA 1).length + 1 : Nat) : Int) (out ++ a.post) 0 := rfl
  rw [e]
  unfold expr_parser_sum_1_1.h expr_parser_sum_1_1.f
  constructor
  ·intro h
   rw [k1 (mx2 h), Option.bind_some, Option.bind_some]
   dsimp only
   rw [put_eq _ _ _ _ _ _ _ (by simp; omega), Option.bind_some]
   dsimp only
   have e1 : m - (mc a + 1) = m' := by clear g1 g2 k1 k2; omega
   have e2 : p + (a.toksA 1).length + 1 + (b.toksA 2).length = p + (a.toksA 1 ++ tOp Opr.mul :: b.toksA 2).length := by simp; omega
   rw [e1, e2, List.append_assoc (out ++ a.post), List.append_assoc out, ← List.append_assoc a.post]
   rfl
  ·intro h
   obtain ⟨p', out', k3, k4⟩ := k2 (mx3 h h1)
   rw [k3, Option.bind_some, Option.bind_some]
   dsimp only
   simp only [List.length_append] at k4
   rw [put_eq _ _ _ _ _ _ _ (by omega), Option.bind_some]
   dsimp only
   obtain ⟨m'', rfl⟩ : ∃ k, m' = k + 1 := ⟨m' - 1, by clear g1 g2 k1 k2; omega⟩
   exact ⟨p', _, l52_err n (R (q + 1)) m'' l p' _ 24 d (by decide), by clear g1 g2 k1 k2; simp; omega⟩
 ·constructor
  ·intro h
   exact absurd (mx1 h) h1
  ·intro h
   obtain ⟨p', out', g3, g4⟩ := g2 h1
   exact ⟨p', out', g3, by simp; omega⟩
theorem S_of_T {t : Tr} (hT : okT t) (hA : t.toks = t.toksA 1) (hD : t.dep = t.depA 1) (hm0 : ac t = 0) : okS t := by
 intro l p out rest d q m n hl ho hat hr hd hq hm
 rw [hA] at hat
 obtain ⟨g1, g2⟩ := W_of_T hT l p out rest d q hl ho hat hr hd hq
 rw [hA, hD, hm0]
 constructor
 ·intro h
  rw [g1 h, Option.bind_some]
  rfl
 ·intro h
  obtain ⟨p', out', g3, g4⟩ := g2 h
  rw [g3, Option.bind_some]
  obtain ⟨m, rfl⟩ : ∃ m', m = m' + 1 := ⟨m - 1, by clear g1 g2; omega⟩
  exact ⟨p', out', l51_err n (R q) m l p' out' 24 d (by decide), g4⟩
theorem S_add {o : Opr} (ho' : o = .add ∨ o = .sub) {a b : Tr} (ha : okS a) (hb : okT b) (haA : a.toksA 0 = a.toks) : okS (.bin o a b) := by
 intro l p out rest d q m n hl ho hat hr hd hq hm
 have hA : (Tr.bin o a b).toks = a.toks ++ tOp o :: b.toksA 1 := by
  rcases ho' with rfl | rfl <;> (rw [← haA]; rfl)
 have hP : (Tr.bin o a b).post = a.post ++ b.post ++ [(o.kind, 0, [], ())] := rfl
 have hD : (Tr.bin o a b).dep = max a.dep (b.depA 1) := by
  rcases ho' with rfl | rfl
  ·show max (a.dep + if a.tight < 0 then 1 else 0) (b.dep + if b.tight < 0 + 1 then 1 else 0) = _
   rw [if_neg (Nat.not_lt_zero _)]; rfl
  ·show max (a.dep + if a.tight < 0 then 1 else 0) (b.dep + if b.tight < 0 + 1 then 1 else 0) = _
   rw [if_neg (Nat.not_lt_zero _)]; rfl
 have hM : ac (Tr.bin o a b) = ac a + 1 := by rcases ho' with rfl | rfl <;> rfl
 have hin : [o.byte] ∈ sAdd := by rcases ho' with rfl | rfl <;> decide
 have hno : noS sMul (tOp o :: (b.toksA 1 ++ rest)) := noS_text (by rcases ho' with rfl | rfl <;> decide)
 have hk : (L.kinds [o.byte]).1 = o.kind := by rcases ho' with rfl | rfl <;> rfl
 rw [hA, List.append_assoc, List.cons_append] at hat
 rw [hM] at hm
 rw [hP] at ho
 simp only [List.length_append, List.length_cons, List.length_nil] at ho
 obtain ⟨g1, g2⟩ := ha l p out (tOp o :: (b.toksA 1 ++ rest)) d q m n hl (by omega) hat hno hd hq (by omega)
 rw [hA, hP, hD, hM]
 clear hD
 have hat1 := At.app' hat
 obtain ⟨_, _, hat2⟩ := At.cons hat1
 by_cases h1 : d + a.dep ≤ 8
 ·rw [g1 h1]
  obtain ⟨m', hm'⟩ : ∃ m', m - ac a = m' + 1 := ⟨m - ac a - 1, by clear g1 g2; omega⟩
  rw [hm', expr_parser_row_c200.l1, sign_yes sAdd (by simp) hat1 hl hin _, Option.bind_some]
  dsimp only
  rw [if_neg (show ¬ (!true) = true by decide), hk]
  obtain ⟨k1, k2⟩ := W_of_T hb l (p + a.toks.length + 1) (out ++ a.post) rest d q hl (by simp; clear g1 g2; omega) hat2 hr hd hq
  constructor
  ·intro h
   rw [k1 (mx2 h), Option.bind_some]
   dsimp only
   rw [put_eq _ _ _ _ _ _ _ (by clear g1 g2 k1 k2; simp; omega), Option.bind_some]
   dsimp only
   have e1 : m - (ac a + 1) = m' := by clear g1 g2 k1 k2; omega
   have e2 : p + a.toks.length + 1 + (b.toksA 1).length = p + (a.toks ++ tOp o :: b.toksA 1).length := by clear g1 g2 k1 k2; simp; omega
   rw [e1, e2, List.append_assoc (out ++ a.post), List.append_assoc out, ← List.append_assoc a.post]
  ·intro h
   obtain ⟨p', out', k3, k4⟩ := k2 (mx3 h h1)
   rw [k3, Option.bind_some]
   dsimp only
   simp only [List.length_append] at k4
   rw [put_eq _ _ _ _ _ _ _ (by clear g1 g2 k1 k2; omega), Option.bind_some]
   dsimp only
   obtain ⟨m'', rfl⟩ : ∃ k, m' = k + 1 := ⟨m' - 1, by clear g1 g2 k1 k2; omega⟩
   exact ⟨p', _, l51_err n (R q) m'' l p' _ 24 d (by decide), by clear g1 g2 k1 k2; simp; omega⟩
 ·constructor
  ·intro h
   exact absurd (mx1 h) h1
  ·intro h
   obtain ⟨p', out', g3, g4⟩ := g2 h1
   exact ⟨p', out', g3, by clear g1 g2; simp; omega⟩
theorem sum_of_S {t : Tr} (hS : okS t) (l : List TokL) (p : Nat) (out : List Item) (rest : List Bt) (d q : Nat) (hl : l.length ≤ 1000000) (ho : out.length + t.post.length ≤ 1000000) (hat : At l p (t.toks ++ rest)) (hr : noS sMul rest) (hr2 : noS sAdd rest) (hd : d ≤ 9) (hq : 6 * (9 - d) + 6 ≤ q) :
  (d + t.dep ≤ 8 → (R q).expr_parser_sum (d : Int) l p out 0 = some (l, ((p + t.toks.length : Nat) : Int), out ++ t.post, 0, ())) ∧
  (¬ d + t.dep ≤ 8 → ∃ (p' : Int) (out' : List Item), (R q).expr_parser_sum (d : Int) l p out 0 = some (l, p', out', 24, ()) ∧ out'.length ≤ out.length + t.post.length) := by
 obtain ⟨q, rfl⟩ : ∃ q', q = q' + 2 := ⟨q - 2, by omega⟩
 show (_ → expr_parser_sum.h (R (q + 1)) d l p out 0 = _) ∧ (_ → ∃ p' out', expr_parser_sum.h (R (q + 1)) d l p out 0 = _ ∧ _)
 unfold expr_parser_sum.h expr_parser_sum.f
 have e : (R (q + 1)).expr_parser_row_c200 sAdd l (p : Int) out 0 (d : Int) = expr_parser_row_c200.h (R q) sAdd l (p : Int) out 0 (d : Int) := rfl
 rw [e]
 unfold expr_parser_row_c200.h expr_parser_row_c200.f
 obtain ⟨N, hN⟩ : ∃ N, 1000 + sAdd.length + l.length + (p : Int).toNat + out.length + (0 : Int).toNat + (d : Int).toNat = N := ⟨_, rfl⟩
 rw [hN]
 have hlen := At.len hat (toks_ne t)
 have h1 := ac_toks t
 have hbig : ac t < N := by omega
 obtain ⟨g1, g2⟩ := hS l p out rest d q N N hl ho hat hr hd (by omega) hbig
 constructor
 ·intro h
  rw [g1 h]
  obtain ⟨m, hm⟩ : ∃ m, N - ac t = m + 1 := ⟨N - ac t - 1, by clear g1 g2; omega⟩
  rw [hm, l51_exit N (R q) m (At.app' hat) hr2, Option.bind_some]
 ·intro h
  obtain ⟨p', out', g3, g4⟩ := g2 h
  rw [g3, Option.bind_some]
  exact ⟨p', out', rfl, g4⟩
theorem F_paren {x : Tr} (hS : okS x) (l : List TokL) (p : Nat) (out : List Item) (rest : List Bt) (d q : Nat) (hl : l.length ≤ 1000000) (ho : out.length + x.post.length ≤ 1000000) (hat : At l p (tLp :: (x.toks ++ tRp :: rest))) (hd : d ≤ 8) (hq : 6 * (9 - d) ≤ q) :
  (d + (x.dep + 1) ≤ 8 → expr_parser_factor.h (R q) (d : Int) l p out 0 = some (l, ((p + (x.toks.length + 2) : Nat) : Int), out ++ x.post, 0, ())) ∧
  (¬ d + (x.dep + 1) ≤ 8 → ∃ (p' : Int) (out' : List Item), expr_parser_factor.h (R q) (d : Int) l p out 0 = some (l, p', out', 24, ()) ∧ out'.length ≤ out.length + x.post.length) := by
 obtain ⟨_, _, hat2⟩ := At.cons hat
 have hn1 : noS sMul (tRp :: rest) := noS_text (by decide)
 have hn2 : noS sAdd (tRp :: rest) := noS_text (by decide)
 obtain ⟨g1, g2⟩ := sum_of_S hS l (p + 1) out (tRp :: rest) (d + 1) q hl ho hat2 hn1 hn2 (by omega) (by omega)
 unfold expr_parser_factor.h expr_parser_factor.f
 rw [if_neg (by decide), if_neg (by simp; omega), sign_yes [[45], [40]] (by simp) hat hl (by simp) out, Option.bind_some]
 dsimp only
 rw [if_neg (show ¬ decide (([40] : Str) = [45]) = true by decide), if_pos (show decide (([40] : Str) = [40]) = true by decide), w64 (by omega), show (d : Int) + 1 = ((d + 1 : Nat) : Int) by omega]
 constructor
 ·intro h
  rw [g1 (by clear g1 g2; omega), Option.bind_some]
  dsimp only
  rw [sign_yes [[41]] (by simp) (At.app' hat2) hl (by simp) _, Option.bind_some]
  dsimp only
  rw [if_neg (show ¬ (!true) = true by decide), show p + 1 + x.toks.length + 1 = p + (x.toks.length + 2) by clear g1 g2; omega]
 ·intro h
  obtain ⟨p', out', g3, g4⟩ := g2 (by clear g1 g2; omega)
  rw [g3, Option.bind_some]
  dsimp only
  rw [sign_err [[41]] (by simp) l p' out' 24 (by decide), Option.bind_some]
  dsimp only
  rw [if_pos (show (!false) = true by decide), fail_err 23 l p' out' 24 (by decide), Option.bind_some]
  exact ⟨p', out', rfl, g4⟩
theorem F_low {x : Tr} (hS : okS x) (ht : x.tight < 2) : okF x := F_intro fun l p out rest d q hl ho hat hd hq => by
 have hA : x.toksA 2 = tLp :: (x.toks ++ [tRp]) := by unfold Tr.toksA brk; rw [if_pos (by simpa using ht)]
 have hD : x.depA 2 = x.dep + 1 := by unfold Tr.depA; rw [if_pos ht]
 rw [hA] at hat ⊢
 rw [hD]
 have hat' : At l p (tLp :: (x.toks ++ tRp :: rest)) := by
  have e : tLp :: (x.toks ++ [tRp]) ++ rest = tLp :: (x.toks ++ tRp :: rest) := by simp
  rw [e] at hat; exact hat
 have := F_paren hS l p out rest d q hl ho hat' hd hq
 have e : (tLp :: (x.toks ++ [tRp])).length = x.toks.length + 2 := by simp
 rw [e]
 exact this
theorem F_br {x : Tr} (hS : okS x) : okF (.br x) := F_intro fun l p out rest d q hl ho hat hd hq => by
 have hA : (Tr.br x).toksA 2 = tLp :: (x.toks ++ [tRp]) := rfl
 have hD : (Tr.br x).depA 2 = x.dep + 1 := by show 1 + x.dep + (if (2 : Nat) < 2 then 1 else 0) = _; rw [if_neg (by omega)]; omega
 have hP : (Tr.br x).post = x.post := rfl
 rw [hP] at ho ⊢
 rw [hA] at hat ⊢
 rw [hD]
 have hat' : At l p (tLp :: (x.toks ++ tRp :: rest)) := by
  have e : tLp :: (x.toks ++ [tRp]) ++ rest = tLp :: (x.toks ++ tRp :: rest) := by simp
  rw [e] at hat; exact hat
 have := F_paren hS l p out rest d q hl ho hat' hd hq
 have e : (tLp :: (x.toks ++ [tRp])).length = x.toks.length + 2 := by simp
 rw [e]
 exact this
theorem T_of_F2 {t : Tr} (hF : okF t) (ht : t.tight = 2) (hm0 : mc t = 0) : okT t :=
 T_of_F hF (by unfold Tr.toksA; rw [ht]; rfl) (by unfold Tr.depA; rw [ht]; rfl) hm0
theorem S_of_T1 {t : Tr} (hT : okT t) (ht : 1 ≤ t.tight) (ha0 : ac t = 0) : okS t :=
 S_of_T hT (by unfold Tr.toksA brk; rw [if_neg (by simp; omega)]) (by unfold Tr.depA; rw [if_neg (by omega), Nat.add_zero]) ha0
theorem parse_ok : ∀ t : Tr, t.ok → okF t ∧ okT t ∧ okS t
 | .num n, _ => by
  have hF := F_num n
  have hT := T_of_F2 hF rfl rfl
  exact ⟨hF, hT, S_of_T1 hT (show 1 ≤ 2 by decide) rfl⟩
 | .nam s, h => by
  have hF := F_nam h
  have hT := T_of_F2 hF rfl rfl
  exact ⟨hF, hT, S_of_T1 hT (show 1 ≤ 2 by decide) rfl⟩
 | .neg x, h => by
  have hF := F_neg (parse_ok x h).1
  have hT := T_of_F2 hF rfl rfl
  exact ⟨hF, hT, S_of_T1 hT (show 1 ≤ 2 by decide) rfl⟩
 | .br x, h => by
  have hF := F_br (parse_ok x h).2.2
  have hT := T_of_F2 hF rfl rfl
  exact ⟨hF, hT, S_of_T1 hT (show 1 ≤ 2 by decide) rfl⟩
 | .bin .mul a b, h => by
  have hT := T_mul (parse_ok a h.1).2.1 (parse_ok b h.2).1
  have hS := S_of_T1 hT (show 1 ≤ 1 by decide) rfl
  exact ⟨F_low hS (show 1 < 2 by decide), hT, hS⟩
 | .bin .add a b, h => by
  have hS := S_add (.inl rfl) (parse_ok a h.1).2.2 (parse_ok b h.2).2.1 (by unfold Tr.toksA brk; rw [if_neg (by simp)])
  have hF := F_low hS (show 0 < 2 by decide)
  exact ⟨hF, T_of_F hF rfl rfl rfl, hS⟩
 | .bin .sub a b, h => by
  have hS := S_add (.inr rfl) (parse_ok a h.1).2.2 (parse_ok b h.2).2.1 (by unfold Tr.toksA brk; rw [if_neg (by simp)])
  have hF := F_low hS (show 0 < 2 by decide)
  exact ⟨hF, T_of_F hF rfl rfl rfl, hS⟩
theorem eparse_eq {t : Tr} (ht : t.ok) (l : List TokL) (p : Nat) (rest : List Bt) (hl : l.length ≤ 1000000) (hpost : t.post.length ≤ 64) (hat : At l p (t.toks ++ rest)) (hr : noS sMul rest) (hr2 : noS sAdd rest) :
  (t.dep ≤ 8 → expr_Parse.g l p = some (t.post, ((p + t.toks.length : Nat) : Int), 0, ())) ∧ (¬ t.dep ≤ 8 → expr_Parse.g l p = some ([], 0, 24, ())) := by
 unfold expr_Parse.g expr_Parse.f expr_parser_sum.g
 obtain ⟨g1, g2⟩ := sum_of_S (parse_ok t ht).2.2 l p [] rest 0 (1000 + (0 : Int).toNat + l.length + (p : Int).toNat + ([] : List Item).length + (0 : Int).toNat) hl (by simp; omega) hat hr hr2 (by omega) (by omega)
 constructor
 ·intro h
  have := g1 (by clear g1 g2; omega)
  rw [show ((0 : Nat) : Int) = 0 from rfl] at this
  rw [this, Option.bind_some]
  dsimp only
  rw [if_pos (show decide ((0 : Int) = 0) = true by decide), if_neg (by clear g1 g2 this; simp; omega), List.nil_append]
  unfold expr_Parse.j5
  rw [if_neg (show ¬ decide ((0 : Int) ≠ 0) = true by decide)]
 ·intro h
  obtain ⟨p', out', g3, g4⟩ := g2 (by clear g1 g2; omega)
  rw [show ((0 : Nat) : Int) = 0 from rfl] at g3
  rw [g3, Option.bind_some]
  dsimp only
  rw [if_neg (show ¬ decide ((24 : Int) = 0) = true by decide)]
  unfold expr_Parse.j5
  rw [if_pos (show decide ((24 : Int) ≠ 0) = true by decide)]
end Rv
namespace Rv
open Go
theorem sameE_refl (a : List Item) (ha : a.length ≤ 1000) : rivetref15_Same.g a a = some (true, ()) := by
 have loop : ∀ (n m i : Nat), i ≤ a.length → a.length - i < m → rivetref15_Same.l4 n m a a (i : Int) = some (true, ()) := by
  intro n m
  induction m with
  | zero => intro i _ h; omega
  | succ m ih =>
   intro i hi hm
   rw [rivetref15_Same.l4]
   simp only [dt]
   by_cases h : i < a.length
   ·rw [if_pos (by omega), if_pos (by omega), if_pos (by omega), if_neg (by simp), w64 (by omega)]
    exact ih (i + 1) (by omega) (by omega)
   ·rw [if_neg (by omega)]
 unfold rivetref15_Same.g rivetref15_Same.f
 rw [if_neg (by simp)]
 exact loop _ _ 0 (by omega) (by omega)
theorem scans_line {s : Str} {b : List Bt} (h : Scans s b) (hs : s.length ≤ 1000000) : ∃ ts : List TokL, ts.map bare = b ∧ scan_Line.g s = some (ts, 0, ()) := by
 obtain ⟨ts, h1, h2⟩ := h 0
 refine ⟨ts, h1, ?_⟩
 have := h2 [] (.inl rfl)
 rw [List.append_nil, lineR_nil] at this
 rw [line_eq s hs, this]
 simp [preE, lineOut]
theorem At.whole {ts : List TokL} {b : List Bt} (h : ts.map bare = b) : At ts 0 (b ++ []) := by
 unfold At
 rw [List.drop_zero, h, List.append_nil]
theorem noS_nil (all : List Str) : noS all [] := fun b r h => by cases h
end Rv
namespace Rv
open Go
structure Sm where
 k : Int
 o : Int
 a : Int
 b : Int
 c : Int
 u : Bool
 e : List Item
 nm : Str
def okT' (t : Tr) : Prop := t.ok ∧ t.plain ∧ wellL t.post ∧ t.post.length ≤ 64
def postO : Option Tr → List Item
 | none => []
 | some t => t.post
inductive GoodS : Sm → Option Tr → Prop
 | none : GoodS ⟨0, 0, 0, 0, 0, false, [], []⟩ none
 | ins0 {k o a b c : Int} {u : Bool} : GoodI0 k o a b c u → (k = 1 ∨ k = 3 ∨ k = 4 ∨ k = 6) → GoodS ⟨k, o, a, b, c, u, [], []⟩ none
 | ins1 {k o a b c : Int} {u : Bool} {t : Tr} : GoodI0 k o a b c u → (k = 2 ∨ k = 5 ∨ k = 7) → okT' t → GoodS ⟨k, o, a, b, c, u, t.post, []⟩ (some t)
 | load {a : Int} {t : Tr} : rg a → okT' t → GoodS ⟨8, 0, a, 0, 0, false, t.post, []⟩ (some t)
 | word {t : Tr} : okT' t → GoodS ⟨9, 0, 0, 0, 0, false, t.post, []⟩ (some t)
 | exp {nm : Str} : nameOk nm = true → GoodS ⟨10, 0, 0, 0, 0, false, [], nm⟩ none
def rn (a : Int) : Str := regN a.toNat
theorem rn_eq {a : Int} (h : rg a) : name_RegName.g a = some (rn a, ()) := by
 obtain ⟨k, rfl⟩ : ∃ k : Nat, a = (k : Int) := ⟨a.toNat, by have := h.1; omega⟩
 have := (reg_fact k (by have := h.2; omega)).1
 rw [this]; unfold rn; rw [Int.toNat_natCast]
theorem rn_ne (k : Nat) : regN k ≠ [] := by unfold regN; split <;> simp
theorem numbered_eq (k : Int) : stmt_numbered.g k = some (decide (k = 2 ∨ k = 5 ∨ k = 7 ∨ k = 8 ∨ k = 9), ()) := by
 unfold stmt_numbered.g stmt_numbered.f
 simp only [dt]
 by_cases h1 : k = 2
 ·simp [h1]
 ·by_cases h2 : k = 5
  ·simp [h2]
  ·by_cases h3 : k = 7
   ·simp [h3]
   ·by_cases h4 : k = 8
    ·simp [h4]
    ·by_cases h5 : k = 9
     ·simp [h5]
     ·simp [h1, h2, h3, h4, h5]
abbrev mayG (s : Sm) : Option (Bool × Unit) := stmt_May.g s.k s.o s.a s.b s.c s.u s.e s.nm
theorem may_good {s : Sm} {t : Option Tr} (h : GoodS s t) : mayG s = some (true, ()) := by
 have hw : ∀ t : Tr, okT' t → expr_Well.g t.post = some (true, ()) := fun t h => by
  rw [well_eq t.post (by have := h.2.2.2; omega), well_of h.2.2.1 h.2.2.2]
 have hp : ∀ t : Tr, decide ((0 : Int) < (t.post.length : Int)) = true := fun t => by have := t.post_pos; simp; omega
 cases h with
 | none => rfl
 | @ins0 k o a b c u h hk =>
  unfold mayG stmt_May.g
  generalize 1000 + _ + _ + _ + _ + _ + _ + _ = n
  unfold stmt_May.f
  have hn : decide (k = 2 ∨ k = 5 ∨ k = 7 ∨ k = 8 ∨ k = 9) = false := by simp; omega
  have h10 : decide (k = 10) = false := by simp; omega
  simp only [numbered_eq, hn, Option.bind_some]
  rw [if_pos (by simp), if_neg (by decide), h10, if_neg (by simp)]
  unfold stmt_May.j4 stmt_May.j12
  simp only [dt]
  rw [isa_good h, Option.bind_some, if_neg (by omega), if_neg (by omega), if_neg (by omega), if_neg (by omega)]
 | @ins1 k o a b c u t h hk ht =>
  unfold mayG stmt_May.g
  generalize 1000 + _ + _ + _ + _ + _ + _ + _ = n
  unfold stmt_May.f
  have hn : decide (k = 2 ∨ k = 5 ∨ k = 7 ∨ k = 8 ∨ k = 9) = true := by simp; omega
  have h10 : decide (k = 10) = false := by simp; omega
  simp only [numbered_eq, hn, Option.bind_some, hp, hw t ht]
  rw [if_pos (by simp), if_pos (by decide), if_pos (by decide), h10, if_neg (by simp)]
  unfold stmt_May.j4 stmt_May.j12
  simp only [dt]
  rw [isa_good h, Option.bind_some, if_neg (by omega), if_neg (by omega), if_neg (by omega), if_neg (by omega)]
 | @load a t ha ht =>
  unfold mayG stmt_May.g
  generalize 1000 + _ + _ + _ + _ + _ + _ + _ = n
  unfold stmt_May.f
  simp only [numbered_eq, Option.bind_some, hp, hw t ht]
  rw [if_pos (by simp), if_pos (by decide), if_pos (by decide), if_neg (by simp)]
  unfold stmt_May.j4
  simp only [rn_eq ha, Option.bind_some]
  have := rn_ne a.toNat
  simp [rn, this]
 | @word t ht =>
  unfold mayG stmt_May.g
  generalize 1000 + _ + _ + _ + _ + _ + _ + _ = n
  unfold stmt_May.f
  simp only [numbered_eq, Option.bind_some, hp, hw t ht]
  rw [if_pos (by simp), if_pos (by decide), if_pos (by decide), if_neg (by simp)]
  rfl
 | @exp nm hn =>
  have hne : nm ≠ [] := by rintro rfl; exact absurd hn (by decide)
  unfold mayG stmt_May.g
  generalize 1000 + _ + _ + _ + _ + _ + _ + _ = n
  unfold stmt_May.f
  simp only [numbered_eq, Option.bind_some]
  rw [if_pos (by simp), if_neg (by decide), if_neg (by simp [hne])]
  unfold stmt_May.j4
  simp only [lename_eq, hn, Option.bind_some]
  rfl
end Rv
namespace Rv
open Go
theorem same_refl (s : Sm) (he : s.e.length ≤ 1000) : rivetref17_Same.g s.k s.o s.a s.b s.c s.u s.e s.nm s.k s.o s.a s.b s.c s.u s.e s.nm = some (true, ()) := by
 unfold rivetref17_Same.g
 generalize 1000 + _ + _ + _ + _ + _ + _ + _ + _ + _ + _ + _ + _ + _ + _ = n
 unfold rivetref17_Same.f rivetref17_Instr.g rivetref17_Instr.f
 rw [Option.bind_some, Option.bind_some, sameE_refl s.e he, if_pos (by simp), Option.bind_some, if_pos rfl]
 simp
end Rv
namespace Rv
open Go
inductive Od
 | A | B | C | E | Q | N
def Od.rd : Od → Fn
 | .A => K.rdA | .B => K.rdB | .C => K.rdC | .E => K.rdE | .Q => K.rdQ | .N => K.rdN
def Od.wr : Od → Fn
 | .A => K.wrA | .B => K.wrB | .C => K.wrC | .E => K.wrE | .Q => K.wrQ | .N => K.wrN
def odL (k o : Int) : List Od :=
 if k = 1 then (if o = 0 then [.A, .C] else [.A, .B, .C]) else
 if k = 2 then (if o = 0 then [.A, .E] else [.A, .B, .E]) else
 if k = 3 ∨ k = 4 then [.A] else
 if k = 5 then [.A, .B, .E] else
 if k = 6 then [.C] else
 if k = 7 ∨ k = 9 then [.E] else
 if k = 8 then [.A, .Q] else
 if k = 10 then [.N] else []
abbrev odF (d : Od) : Fn × Fn × Unit := (d.rd, d.wr, ())
theorem opsR_eq (k o : Int) : L.opsR k o = (odL k o).map odF := by
 unfold L.opsR odL
 split
 ·split <;> rfl
 ·split
  ·split <;> rfl
  ·repeat' split
   all_goals rfl
theorem odL_len (k o : Int) : (odL k o).length ≤ 3 := by
 unfold odL
 repeat' split
 all_goals simp
theorem odL_reg {o : Int} (h : 0 < o) : odL 1 o = [.A, .B, .C] := by unfold odL; rw [if_pos rfl, if_neg (by omega)]
theorem odL_imm {o : Int} (h : 0 < o) : odL 2 o = [.A, .B, .E] := by unfold odL; rw [if_neg (by decide), if_pos rfl, if_neg (by omega)]
theorem trimB_loop (n : Nat) : ∀ (m : Nat) (s : Str), s.length < m → s.length ≤ 1000000 → strings_trimLeftByte.l1 n m s 32 = some (s.dropWhile (· == 32), ())
 | 0, _, h, _ => by omega
 | m + 1, [], _, _ => by rw [strings_trimLeftByte.l1]; rfl
 | m + 1, b :: s, h, hs => by
  rw [strings_trimLeftByte.l1]
  simp only [dt]
  have hb : bt (b :: s) 0 = (b.toNat : Int) := rfl
  have h32 : ((b.toNat : Int) = 32) = (b = 32) := byte_is b 32 (by omega)
  rw [if_pos (by simp), if_pos (by simp), hb, List.dropWhile_cons]
  by_cases e : b = 32
  ·rw [if_pos (h32.mpr e), if_pos (by simp; omega), if_pos (by simp [e])]
   have : ((b :: s).take ((((b :: s).length : Nat) : Int)).toNat).drop ((1 : Int)).toNat = s := by
    rw [Int.toNat_natCast, List.take_length]; rfl
   rw [this]
   exact trimB_loop n m s (by simp at h; omega) (by simp at hs; omega)
  ·rw [if_neg (fun h => e (h32.mp h)), if_neg (by simp [e])]
theorem trimB_eq (s : Str) (hs : s.length ≤ 1000000) : strings_TrimLeft.g s [32] = some (s.dropWhile (· == 32), ()) := by
 unfold strings_TrimLeft.g strings_TrimLeft.f
 simp only [dt, df]
 by_cases h : s = []
 ·subst h; rfl
 ·rw [if_pos h, if_neg (by decide), if_pos (by decide), if_pos (by decide), if_pos (by decide), if_pos (by decide)]
  have hb : bt [32] 0 = 32 := rfl
  unfold strings_trimLeftByte.g strings_trimLeftByte.f
  rw [hb, trimB_loop _ _ s (by omega) hs, Option.bind_some]
theorem itoa_head (n : Int) (h : 0 ≤ n) : ∃ c r, Lib.itoa n = c :: r ∧ c ≠ 32 := by
 obtain ⟨m, rfl⟩ : ∃ m : Nat, n = m := ⟨n.toNat, by omega⟩
 have hi : Lib.itoa (m : Int) = Lib.decDigits m := by unfold Lib.itoa; rw [if_neg (by omega)]; rfl
 obtain ⟨h1, h2⟩ := dec_all m
 rw [hi]
 cases hd : Lib.decDigits m with
 | nil => exact absurd hd h2
 | cons c r =>
  refine ⟨c, r, rfl, ?_⟩
  rintro rfl
  rw [hd] at h1
  simp [isD] at h1
theorem brkT_head (b : Bool) {s : Str} (h : ∃ c r, s = c :: r ∧ c ≠ 32) : ∃ c r, brkT b s = c :: r ∧ c ≠ 32 := by
 unfold brkT
 split
 ·exact ⟨_, _, rfl, by decide⟩
 ·exact h
theorem txt_head : ∀ t : Tr, t.ok → ∃ c r, t.txt = c :: r ∧ c ≠ 32
 | .num n, h => itoa_head n h.1
 | .nam s, h => by
  have h : labelOk s = true := h
  cases s with
  | nil => exact absurd h (by decide)
  | cons c r =>
   refine ⟨c, r, rfl, ?_⟩
   rintro rfl
   unfold labelOk at h
   simp only [Bool.and_eq_true, List.all_cons] at h
   exact absurd h.1.2.1 (by decide)
 | .neg x, _ => ⟨_, _, rfl, by decide⟩
 | .br x, _ => ⟨_, _, rfl, by decide⟩
 | .bin o a b, h => by
  obtain ⟨c, r, h1, h2⟩ := brkT_head (decide (a.tight < o.tight)) (txt_head a h.1)
  exact ⟨c, _, by show brkT _ _ ++ _ = _; rw [h1]; rfl, h2⟩
def et : Option Tr → Str
 | none => []
 | some t => t.txt
def wtx (s : Sm) (t : Option Tr) : Od → Str
 | .A => rn s.a | .B => rn s.b | .C => rn s.c | .E => et t | .Q => 61 :: 32 :: et t | .N => s.nm
def okOd (s : Sm) (t : Option Tr) : Od → Prop
 | .A => rg s.a | .B => rg s.b | .C => rg s.c | .E => ∃ x, t = some x ∧ okT' x ∧ s.e = x.post | .Q => ∃ x, t = some x ∧ okT' x ∧ s.e = x.post | .N => nameOk s.nm = true
theorem good_od {s : Sm} {t : Option Tr} (h : GoodS s t) : ∀ d ∈ odL s.k s.o, okOd s t d := by
 cases h with
 | none => intro d hd; simp [odL] at hd
 | ins0 h hk =>
  cases h with
  | reg h1 h2 ha hb hc hu =>
   intro d hd
   dsimp only at hd
   rw [odL_reg h1] at hd
   simp only [List.mem_cons, List.not_mem_nil, or_false] at hd
   rcases hd with rfl | rfl | rfl
   ·exact ha
   ·exact hb
   ·exact hc
  | mov ha hc =>
   intro d hd
   simp only [odL, if_true, List.mem_cons, List.not_mem_nil, or_false] at hd
   rcases hd with rfl | rfl
   ·exact ha
   ·exact hc
  | hi ha => intro d hd; simp [odL] at hd; subst hd; exact ha
  | fl ha => intro d hd; simp [odL] at hd; subst hd; exact ha
  | br ho hc => intro d hd; simp [odL] at hd; subst hd; exact hc
  | imm => simp at hk
  | movi => simp at hk
  | mem => simp at hk
  | jmp => simp at hk
 | ins1 h hk ht =>
  cases h with
  | imm h1 h2 ha hb hu =>
   intro d hd
   dsimp only at hd
   rw [odL_imm h1] at hd
   simp only [List.mem_cons, List.not_mem_nil, or_false] at hd
   rcases hd with rfl | rfl | rfl
   ·exact ha
   ·exact hb
   ·exact ⟨_, rfl, ht, rfl⟩
  | movi ha =>
   intro d hd
   simp [odL] at hd
   rcases hd with rfl | rfl
   ·exact ha
   ·exact ⟨_, rfl, ht, rfl⟩
  | mem h1 h2 ha hb =>
   intro d hd
   simp [odL] at hd
   rcases hd with rfl | rfl | rfl
   ·exact ha
   ·exact hb
   ·exact ⟨_, rfl, ht, rfl⟩
  | jmp ho => intro d hd; simp [odL] at hd; subst hd; exact ⟨_, rfl, ht, rfl⟩
  | reg => simp at hk
  | mov => simp at hk
  | hi => simp at hk
  | fl => simp at hk
  | br => simp at hk
 | load ha ht =>
  intro d hd
  simp [odL] at hd
  rcases hd with rfl | rfl
  ·exact ha
  ·exact ⟨_, rfl, ht, rfl⟩
 | word ht => intro d hd; simp [odL] at hd; subst hd; exact ⟨_, rfl, ht, rfl⟩
 | exp hn => intro d hd; simp [odL] at hd; subst hd; exact hn
theorem regN_len (k : Nat) : (regN k).length ≤ 3 := by unfold regN; split <;> simp
theorem wtx_len {s : Sm} {t : Option Tr} {d : Od} (h : okOd s t d) : (wtx s t d).length ≤ 1300 := by
 have r : ∀ a : Int, (rn a).length ≤ 1300 := fun a => Nat.le_trans (regN_len _) (by decide)
 have e : (∃ x, t = some x ∧ okT' x ∧ s.e = x.post) → (et t).length ≤ 1280 := by
  rintro ⟨x, rfl, hx, _⟩
  have := txt_len x hx.1 hx.2.1
  have := hx.2.2.2
  show x.txt.length ≤ 1280
  omega
 cases d with
 | A => exact r _
 | B => exact r _
 | C => exact r _
 | E => exact Nat.le_trans (e h) (by decide)
 | Q => have := e h; show (61 :: 32 :: et t).length ≤ 1300; simp; omega
 | N =>
  have h : nameOk s.nm = true := h
  unfold nameOk at h
  simp only [Bool.and_eq_true, decide_eq_true_eq] at h
  show s.nm.length ≤ 1300
  have := h.1.1.1.2
  omega
theorem num2_eq {s : Sm} {t : Option Tr} (h : ∃ x, t = some x ∧ okT' x ∧ s.e = x.post) (q : Str) (hq : q = [] ∨ q = [61]) :
  stmt_number_2.g s.k s.o s.a s.b s.c s.u s.e s.nm q = some (if q = [] then et t else 61 :: 32 :: et t, ()) := by
 obtain ⟨x, rfl, hx, he⟩ := h
 have hl := txt_len x hx.1 hx.2.1
 have hl2 := hx.2.2.2
 unfold stmt_number_2.g stmt_number_2.f
 rw [he, eprint_eq hx.1 hx.2.1 hx.2.2.1 hx.2.2.2, Option.bind_some]
 dsimp only
 obtain ⟨c, r, h1, h2⟩ := txt_head x hx.1
 rcases hq with rfl | rfl
 ·rw [if_pos (by decide), if_pos (by simp; omega), trimB_eq _ (by simp; omega), Option.bind_some, if_pos rfl]
  show some ((([] ++ [32]) ++ x.txt).dropWhile (· == 32), ()) = some (x.txt, ())
  rw [h1]
  have : (c == 32) = false := by simpa using h2
  simp [List.dropWhile_cons, this]
 ·rw [if_pos (by decide), if_pos (by simp; omega), trimB_eq _ (by simp; omega), Option.bind_some, if_neg (by decide)]
  rfl
theorem write_loop (s : Sm) (t : Option Tr) (out : List Str) (mn : Str) (n : Nat) (ods : List Od) (ho : ∀ d ∈ ods, okOd s t d) (hl : ods.length ≤ 3) : ∀ (m i : Nat) (l : List Str), i ≤ ods.length → ods.length - i < m → l.length = i →
  stmt_Print.l12 n m out mn l (ods.map odF) (ods.length : Int) (i : Int) s.k s.o s.a s.b s.c s.u s.e s.nm = stmt_Print.l12 n 1 out mn (l ++ (ods.drop i).map (wtx s t)) (ods.map odF) (ods.length : Int) (ods.length : Int) s.k s.o s.a s.b s.c s.u s.e s.nm := by
 intro m
 induction m with
 | zero => intro i _ _ h; omega
 | succ m ih =>
  intro i l hi hm hli
  by_cases h : i < ods.length
  ·have hd : ods.drop i = ods[i] :: ods.drop (i + 1) := List.drop_eq_getElem_cons h
   have hg : (ods.map odF).getD ((i : Int)).toNat (((0, []) : Fn), (((0, []) : Fn), ())) = odF ods[i] := by
    rw [Int.toNat_natCast, List.getD_eq_getElem?_getD, List.getElem?_eq_getElem (by simpa using h)]; simp
   have hok := ho ods[i] (List.getElem_mem h)
   have next := fun x : Str => ih (i + 1) (l ++ [x]) (by omega) (by omega) (by simp [hli])
   rw [stmt_Print.l12, if_pos (by simp; omega), if_pos (by simp; omega), hg, hd, List.map_cons]
   have W1 : IntKind.i64.wrap ((i : Int) + 1) = ((i + 1 : Nat) : Int) := by rw [w64 (by omega)]; omega
   have fin : ∀ x : Str, (if (l.length + ([x] : List Str).length) * 16 ≤ 140737488355328 ∧ 0 < 16 ∧ 0 < 1 then (stmt_Print.j15 n (stmt_Print.l12 n m) out mn (l ++ ([x] : List Str)) (ods.map odF) (ods.length : Int) (i : Int) s.k s.o s.a s.b s.c s.u s.e s.nm) else none) =
     stmt_Print.l12 n 1 out mn (l ++ x :: (ods.drop (i + 1)).map (wtx s t)) (ods.map odF) (ods.length : Int) (ods.length : Int) s.k s.o s.a s.b s.c s.u s.e s.nm := fun x => by
    rw [if_pos (by simp; omega)]
    unfold stmt_Print.j15
    rw [W1, next x, List.append_assoc]
    rfl
   generalize hx : ods[i] = d at hok ⊢
   cases d with
   | A =>
    show (if K.wrA = K.wrA then _ else _) = _
    rw [if_pos rfl]
    unfold stmt_register_2.g stmt_register_2.f stmt_operands_1.g stmt_operands_1.f
    rw [if_pos rfl, Option.bind_some]
    dsimp only
    rw [rn_eq hok, Option.bind_some, Option.bind_some]
    exact fin _
   | B =>
    show (if K.wrB = K.wrA then _ else if K.wrB = K.wrB then _ else _) = _
    rw [if_neg (by decide), if_pos rfl]
    unfold stmt_register_2.g stmt_register_2.f stmt_operands_2.g stmt_operands_2.f
    rw [if_neg (by decide), if_pos rfl, Option.bind_some]
    dsimp only
    rw [rn_eq hok, Option.bind_some, Option.bind_some]
    exact fin _
   | C =>
    show (if K.wrC = K.wrA then _ else if K.wrC = K.wrB then _ else if K.wrC = K.wrC then _ else _) = _
    rw [if_neg (by decide), if_neg (by decide), if_pos rfl]
    unfold stmt_register_2.g stmt_register_2.f stmt_operands_3.g stmt_operands_3.f
    rw [if_neg (by decide), if_neg (by decide), if_pos rfl, Option.bind_some]
    dsimp only
    rw [rn_eq hok, Option.bind_some, Option.bind_some]
    exact fin _
   | E =>
    show (if K.wrE = K.wrA then _ else if K.wrE = K.wrB then _ else if K.wrE = K.wrC then _ else if K.wrE = K.wrE then _ else _) = _
    rw [if_neg (by decide), if_neg (by decide), if_neg (by decide), if_pos rfl, num2_eq hok [] (.inl rfl), Option.bind_some]
    exact fin _
   | Q =>
    show (if K.wrQ = K.wrA then _ else if K.wrQ = K.wrB then _ else if K.wrQ = K.wrC then _ else if K.wrQ = K.wrE then _ else if K.wrQ = K.wrQ then _ else _) = _
    rw [if_neg (by decide), if_neg (by decide), if_neg (by decide), if_neg (by decide), if_pos rfl, num2_eq hok [61] (.inr rfl), Option.bind_some]
    exact fin _
   | N =>
    show (if K.wrN = K.wrA then _ else if K.wrN = K.wrB then _ else if K.wrN = K.wrC then _ else if K.wrN = K.wrE then _ else if K.wrN = K.wrQ then _ else if K.wrN = K.wrN then _ else _) = _
    rw [if_neg (by decide), if_neg (by decide), if_neg (by decide), if_neg (by decide), if_neg (by decide), if_pos rfl]
    unfold stmt_operands_5.g stmt_operands_5.f
    rw [Option.bind_some]
    exact fin _
  ·have hi' : i = ods.length := by omega
   subst hi'
   rw [List.drop_length, List.map_nil, List.append_nil, stmt_Print.l12, stmt_Print.l12]
   simp only [dt]
   rw [if_neg (by omega), if_neg (by omega)]
def hk (k : Int) : Int := if k = 2 then 1 else if k = 6 then 7 else k
def mtx (s : Sm) : Str := (if s.k = 9 ∨ s.k = 10 then [46] else []) ++ L.mnemR (hk s.k) s.o s.u
def stx (s : Sm) (t : Option Tr) : Str := if s.k = 0 then [] else mtx s ++ 32 :: L.sjoinR [44, 32] ((odL s.k s.o).map (wtx s t))
def ltx (lb : Str) (s : Sm) (t : Option Tr) : Str := if lb = [] then stx s t else lb ++ 58 :: (if s.k = 0 then [] else 32 :: stx s t)
theorem nt_len : ∀ e ∈ L.nameTbl, e.2.2.length ≤ 6 := by decide +kernel
theorem mnem_len (k o : Int) (u : Bool) : (L.mnemR k o u).length ≤ 6 := by
 by_cases h : L.mnemR k o u = []
 ·rw [h]; simp
 ·obtain ⟨e, he, _, h2⟩ := mnem_mem h
  rw [← h2]; exact nt_len e he
theorem flat_len (sep : Str) (b : Nat) : ∀ (l : List Str), (∀ x ∈ l, x.length ≤ b) → ((l.map (sep ++ ·)).flatten).length ≤ (b + sep.length) * l.length
 | [], _ => by simp
 | y :: r, h => by
  have h1 := h y (by simp)
  have h2 := flat_len sep b r fun z hz => h z (by simp [hz])
  rw [List.map_cons, List.flatten_cons, List.length_append, List.length_append, List.length_cons, Nat.mul_add, Nat.mul_one]
  omega
theorem sjoin_len (sep : Str) (b : Nat) (l : List Str) (h : ∀ x ∈ l, x.length ≤ b) : (L.sjoinR sep l).length ≤ (b + sep.length) * l.length := by
 cases l with
 | nil => simp [L.sjoinR]
 | cons x r =>
  have h1 := h x (by simp)
  have h2 := flat_len sep b r fun z hz => h z (by simp [hz])
  rw [show L.sjoinR sep (x :: r) = x ++ (r.map (sep ++ ·)).flatten from rfl, List.length_append, List.length_cons, Nat.mul_add, Nat.mul_one]
  omega
theorem hk_range {k : Int} (h : 0 ≤ k) (h2 : k ≤ 10) : -9223372036854775808 ≤ hk k ∧ hk k ≤ 9223372036854775807 := by unfold hk; split <;> (try split) <;> omega
theorem head_eq' (k : Int) : stmt_head.g k = some (hk k, ()) := by
 unfold stmt_head.g stmt_head.f hk
 simp only [dt]
 split
 ·rfl
 ·split <;> rfl
theorem dotted_eq (k : Int) : stmt_dotted.g k = some (decide (k = 9 ∨ k = 10), ()) := by
 unfold stmt_dotted.g stmt_dotted.f
 simp only [df]
 by_cases h : k = 9
 ·rw [if_neg (by simp [h])]; simp [h]
 ·rw [if_pos h]; simp [h]
abbrev printG (lb : Str) (s : Sm) : Option (Str × Int × Unit) := stmt_Print.g lb s.k s.o s.a s.b s.c s.u s.e s.nm
theorem good_kr {s : Sm} {t : Option Tr} (h : GoodS s t) : 0 ≤ s.k ∧ s.k ≤ 10 ∧ 0 ≤ s.o ∧ s.o ≤ 15 := by
 cases h with
 | none => decide
 | ins0 h hk => obtain ⟨h1, h2, h3, h4⟩ := i0_range h; exact ⟨by dsimp only; omega, by dsimp only; omega, h3, h4⟩
 | ins1 h hk ht => obtain ⟨h1, h2, h3, h4⟩ := i0_range h; exact ⟨by dsimp only; omega, by dsimp only; omega, h3, h4⟩
 | load ha ht => refine ⟨?_, ?_, ?_, ?_⟩ <;> dsimp only <;> decide
 | word ht => refine ⟨?_, ?_, ?_, ?_⟩ <;> dsimp only <;> decide
 | exp hn => refine ⟨?_, ?_, ?_, ?_⟩ <;> dsimp only <;> decide
theorem print_good {s : Sm} {t : Option Tr} (h : GoodS s t) {lb : Str} (hlb : lb = [] ∨ labelOk lb = true) : printG lb s = some (ltx lb s t, 0, ()) := by
 have hod := good_od h
 have hkr := good_kr h
 have hl3 := odL_len s.k s.o
 have hll : lb.length ≤ 12 := by
  rcases hlb with rfl | hlb
  ·simp
  ·unfold labelOk at hlb
   simp only [Bool.and_eq_true, decide_eq_true_eq] at hlb
   exact hlb.1.1.1.2
 have hbody : (L.sjoinR [44, 32] ((odL s.k s.o).map (wtx s t))).length ≤ 4000 := by
  have := sjoin_len [44, 32] 1300 ((odL s.k s.o).map (wtx s t)) (fun x hx => by
   obtain ⟨d, hd, rfl⟩ := List.mem_map.1 hx
   exact wtx_len (hod d hd))
  rw [List.length_map] at this
  have h2 : (1300 + ([44, 32] : Str).length) * (odL s.k s.o).length ≤ 1302 * 3 := Nat.mul_le_mul (by decide) hl3
  omega
 have hmt : (mtx s).length ≤ 7 := by
  unfold mtx
  have := mnem_len (hk s.k) s.o s.u
  rw [List.length_append]
  split <;> simp <;> omega
 have hm : L.mnemO (hk s.k) s.o s.u = some (L.mnemR (hk s.k) s.o s.u, ()) := mnemO_eq s.u (hk_range hkr.1 hkr.2.1) (by omega)
 have J17 : ∀ (n : Nat) (out : List Str), (L.sjoinR [32] out).length ≤ 10000 → out.length ≤ 10 → stmt_Print.j17 n out = some (L.sjoinR [32] out, 0, ()) := fun n out h1 h2 => by
  unfold stmt_Print.j17 L.sjoinO
  rw [if_pos ⟨by omega, by omega⟩, Option.bind_some]
 have J10 : ∀ (n : Nat) (out : List Str), 10 ≤ n → out.length ≤ 1 → (∀ x ∈ out, x.length ≤ 13) → stmt_Print.j10 n out (mtx s) s.k s.o s.a s.b s.c s.u s.e s.nm = some (L.sjoinR [32] (out ++ [mtx s, L.sjoinR [44, 32] ((odL s.k s.o).map (wtx s t))]), 0, ()) := fun n out hn ho hx => by
  unfold stmt_Print.j10
  have hlen : ((L.opsR s.k s.o).length : Int) = ((odL s.k s.o).length : Int) := by rw [opsR_eq, List.length_map]
  rw [hlen, opsR_eq]
  have := write_loop s t out (mtx s) n (odL s.k s.o) hod hl3 n 0 [] (by omega) (by omega) rfl
  rw [show ((0 : Nat) : Int) = 0 from rfl] at this
  rw [this, List.drop_zero, List.nil_append, stmt_Print.l12]
  simp only [dt]
  rw [if_neg (by omega)]
  unfold L.sjoinO
  rw [if_pos ⟨by omega, by rw [List.length_map]; omega⟩, Option.bind_some]
  dsimp only
  rw [if_pos (by simp; omega)]
  refine J17 n _ ?_ (by simp; omega)
  generalize L.sjoinR [44, 32] ((odL s.k s.o).map (wtx s t)) = B at hbody
  generalize mtx s = M at hmt
  match out, ho with
  | [], _ => simp [L.sjoinR]; omega
  | [x], _ => have := hx x (by simp); simp [L.sjoinR]; omega
 have J6 : ∀ (n : Nat) (out : List Str), 10 ≤ n → out.length ≤ 1 → (∀ x ∈ out, x.length ≤ 13) → stmt_Print.j6 n out s.k s.o s.a s.b s.c s.u s.e s.nm = some (L.sjoinR [32] (out ++ (if s.k = 0 then [] else [mtx s, L.sjoinR [44, 32] ((odL s.k s.o).map (wtx s t))])), 0, ()) := fun n out hn ho hx => by
  unfold stmt_Print.j6
  simp only [dt, head_eq', Option.bind_some, hm, dotted_eq]
  by_cases h0 : s.k = 0
  ·rw [if_neg (by simp [h0]), if_pos h0, List.append_nil]
   refine J17 n out ?_ (by omega)
   match out, ho with
   | [], _ => simp [L.sjoinR]
   | [x], _ => have := hx x (by simp); simp [L.sjoinR]; omega
  ·rw [if_pos h0, if_neg h0, ← J10 n out hn ho hx]
   unfold mtx
   by_cases hd : s.k = 9 ∨ s.k = 10
   ·rw [if_pos hd, if_pos (by have := mnem_len (hk s.k) s.o s.u; simp; omega), if_pos hd]
   ·rw [if_neg hd, if_neg hd]; rfl
 have J3 : ∀ n, 10 ≤ n → stmt_Print.j3 n lb s.k s.o s.a s.b s.c s.u s.e s.nm = some (ltx lb s t, 0, ()) := fun n hn => by
  unfold stmt_Print.j3 ltx stx
  by_cases hl : lb = []
  ·subst hl
   rw [if_neg (by decide), J6 n [] hn (by simp) (by simp), if_pos rfl]
   by_cases h0 : s.k = 0
   ·rw [if_pos h0, if_pos h0]; rfl
   ·rw [if_neg h0, if_neg h0]; simp [L.sjoinR]
  ·rw [if_pos (by simp [hl]), if_pos (by simp; omega), if_pos (by simp), J6 n _ hn (by simp) (by simp; omega), if_neg hl]
   by_cases h0 : s.k = 0
   ·rw [if_pos h0, if_pos h0]; simp [L.sjoinR]
   ·rw [if_neg h0, if_neg h0, if_neg h0]; simp [L.sjoinR]
 unfold printG stmt_Print.g
 have hN : 10 ≤ 1000 + lb.length + s.k.toNat + s.o.toNat + s.a.toNat + s.b.toNat + s.c.toNat + s.e.length + s.nm.length := by omega
 generalize 1000 + lb.length + s.k.toNat + s.o.toNat + s.a.toNat + s.b.toNat + s.c.toNat + s.e.length + s.nm.length = n at hN
 unfold stmt_Print.f
 have hmay : stmt_May.g s.k s.o s.a s.b s.c s.u s.e s.nm = some (true, ()) := may_good h
 rw [hmay, J3 n hN, label_eq]
 simp only [Option.bind_some]
 rcases hlb with rfl | hlb
 ·rfl
 ·rw [hlb]
  have : lb ≠ [] := by rintro rfl; exact absurd hlb (by decide)
  rw [if_pos (by simp [this]), if_pos (by decide), if_neg (by decide)]
end Rv
namespace Rv
open Go
theorem line_sig' (c : UInt8) (hc : c ∈ ([40, 41, 42, 43, 45, 44, 58, 61] : Str)) (k : Int) (r : Str) : lineR k (c :: r) = preE [(3, k, [c], 0, ())] (lineR (k + 1) r) := by
 have step : isL c = false ∧ isD c = false ∧ c ≠ 46 ∧ isS c = true ∧ c ≠ 59 ∧ c ≠ 32 ∧ c ≠ 9 := by
  simp only [List.mem_cons, List.not_mem_nil, or_false] at hc
  rcases hc with rfl | rfl | rfl | rfl | rfl | rfl | rfl | rfl <;> decide
 obtain ⟨h1, h2, h3, h4, h5, h6, h7⟩ := step
 rw [lineR_cons, if_neg h5, if_neg (fun h => h.elim h6 h7)]
 unfold tokAt
 rw [if_neg (by simp [h1]), if_neg (by simp [h2]), if_neg (fun h => h3 h.1), if_pos h4]
 dsimp only
 rw [show k + ((0 : Nat) : Int) + (([c] : Str).length : Int) = k + 1 by simp, show 0 + ([c] : Str).length - 1 = 0 from rfl, List.drop_zero]
 cases lineR (k + 1) r <;> rfl
def ScansA (s : Str) (b : List Bt) : Prop := ∀ k : Int, ∃ ts : List TokL, ts.map bare = b ∧ ∀ r, lineR k (s ++ r) = preE ts (lineR (k + s.length) r)
theorem ScansA.scans {s : Str} {b : List Bt} (h : ScansA s b) : Scans s b := fun k => by
 obtain ⟨ts, h1, h2⟩ := h k
 exact ⟨ts, h1, fun r _ => h2 r⟩
theorem ScansA.sig (c : UInt8) (hc : c ∈ ([40, 41, 42, 43, 45, 44, 58, 61] : Str)) : ScansA [c] [(3, [c], 0)] := fun k => ⟨[(3, k, [c], 0, ())], rfl, fun r => line_sig' c hc k r⟩
theorem ScansA.blank : ScansA [32] [] := fun k => ⟨[], rfl, fun r => by
 show lineR k (32 :: r) = _
 rw [line_blank]
 show _ = preE [] (lineR (k + 1) r)
 cases lineR (k + 1) r <;> rfl⟩
theorem scans_nil : Scans [] [] := fun k => ⟨[], rfl, fun r _ => by
 show lineR k r = preE [] (lineR (k + ((0 : Nat) : Int)) r)
 rw [show k + ((0 : Nat) : Int) = k by omega]
 cases lineR k r <;> rfl⟩
theorem ScansA.app {s s' : Str} {b b' : List Bt} (h : ScansA s b) (h' : Scans s' b') : Scans (s ++ s') (b ++ b') := fun k => by
 obtain ⟨ts, h1, h2⟩ := h k
 obtain ⟨ts', h3, h4⟩ := h' (k + s.length)
 refine ⟨ts ++ ts', by rw [List.map_append, h1, h3], fun r hr => ?_⟩
 rw [List.append_assoc, h2, h4 r hr, ← preE_app, List.length_append]
 congr 2
 omega
theorem ScansA.appA {s s' : Str} {b b' : List Bt} (h : ScansA s b) (h' : ScansA s' b') : ScansA (s ++ s') (b ++ b') := fun k => by
 obtain ⟨ts, h1, h2⟩ := h k
 obtain ⟨ts', h3, h4⟩ := h' (k + s.length)
 refine ⟨ts ++ ts', by rw [List.map_append, h1, h3], fun r => ?_⟩
 rw [List.append_assoc, h2, h4 r, ← preE_app, List.length_append]
 congr 2
 omega
theorem Scans.app {s s' : Str} {b b' : List Bt} (h : Scans s b) (h' : Scans s' b') (hs : s' = [] ∨ ∃ c y, s' = c :: y ∧ isW c = false) : Scans (s ++ s') (b ++ b') := fun k => by
 obtain ⟨ts, h1, h2⟩ := h k
 obtain ⟨ts', h3, h4⟩ := h' (k + s.length)
 refine ⟨ts ++ ts', by rw [List.map_append, h1, h3], fun r hr => ?_⟩
 have hok : okR (s' ++ r) := by
  rcases hs with rfl | ⟨c, y, rfl, hc⟩
  ·exact hr
  ·exact .inr ⟨c, y ++ r, rfl, hc⟩
 rw [List.append_assoc, h2 _ hok, h4 r hr, ← preE_app, List.length_append]
 congr 2
 omega
theorem Scans.appA {s s' : Str} {b b' : List Bt} (h : Scans s b) (h' : ScansA s' b') (hs : ∃ c y, s' = c :: y ∧ isW c = false) : ScansA (s ++ s') (b ++ b') := fun k => by
 obtain ⟨ts, h1, h2⟩ := h k
 obtain ⟨ts', h3, h4⟩ := h' (k + s.length)
 refine ⟨ts ++ ts', by rw [List.map_append, h1, h3], fun r => ?_⟩
 have hok : okR (s' ++ r) := by
  obtain ⟨c, y, rfl, hc⟩ := hs
  exact .inr ⟨c, y ++ r, rfl, hc⟩
 rw [List.append_assoc, h2 _ hok, h4 r, ← preE_app, List.length_append]
 congr 2
 omega
def wordy (s : Str) : Bool := s.all isW && (match s with | c :: _ => isL c | [] => false)
theorem scans_word {s : Str} (h : wordy s = true) : Scans s [(1, s, 0)] := fun k => by
 cases s with
 | nil => exact absurd h (by decide)
 | cons c t =>
  unfold wordy at h
  simp only [Bool.and_eq_true] at h
  refine ⟨[(1, k, c :: t, 0, ())], rfl, fun r hr => line_word rfl h.1 (fun r hr => ?_) k hr⟩
  have hword : wordOf (c :: (t ++ r)) = c :: t := by
   rw [← List.cons_append]; exact word_okR h.1 hr
  unfold tokAt
  rw [if_pos h.2, hword]
theorem scans_dot {s : Str} (h : wordy s = true) : Scans (46 :: s) [(4, s, 0)] := fun k => by
 cases s with
 | nil => exact absurd h (by decide)
 | cons c t =>
  unfold wordy at h
  simp only [Bool.and_eq_true] at h
  refine ⟨[(4, k, c :: t, 0, ())], rfl, fun r hr => ?_⟩
  have hword : wordOf (c :: t ++ r) = c :: t := word_okR h.1 hr
  rw [List.cons_append, lineR_cons, if_neg (by decide), if_neg (by decide)]
  unfold tokAt
  rw [if_neg (by decide), if_neg (by decide), if_pos ⟨rfl, c, rfl, h.2⟩, hword]
  dsimp only
  rw [show (c :: t ++ r).drop (1 + (c :: t).length - 1) = r by rw [Nat.add_sub_cancel_left]; exact List.drop_left' rfl, show k + ((1 : Nat) : Int) + ((c :: t).length : Int) = k + ((46 :: c :: t).length : Int) by simp; omega]
  cases lineR (k + ((46 :: c :: t).length : Int)) r <;> rfl
theorem scans_label {s : Str} (h : labelOk s = true) : Scans s [(1, s, 0)] := fun k => ⟨_, rfl, fun r hr => line_name' h k hr⟩
theorem name_label {s : Str} (h : nameOk s = true) : labelOk s = true := by
 unfold nameOk at h
 simp only [Bool.and_eq_true, decide_eq_true_eq, Bool.not_eq_true'] at h
 unfold labelOk
 simp only [Bool.and_eq_true, decide_eq_true_eq, Bool.not_eq_true']
 have hd : ∀ n : Nat, n < 256 → isA (UInt8.ofNat n) = true → isD (UInt8.ofNat n) = false := by decide +kernel
 have := hd (s.getD 0 0).toNat (UInt8.toNat_lt _)
 rw [UInt8.ofNat_toNat] at this
 exact ⟨⟨⟨⟨h.1.1.1.1, h.1.1.1.2⟩, this h.1.1.2⟩, h.2⟩, h.1.2⟩
theorem rn_word {a : Int} (h : rg a) : wordy (rn a) = true := by
 have : ∀ k : Nat, k < 16 → wordy (regN k) = true := by decide +kernel
 exact this a.toNat (by have := h.1; have := h.2; omega)
theorem nt_word : ∀ e ∈ L.nameTbl, wordy e.2.2 = true := by decide +kernel
theorem mnem_word {k o : Int} {u : Bool} (h : L.mnemR k o u ≠ []) : wordy (L.mnemR k o u) = true := by
 obtain ⟨e, he, _, h2⟩ := mnem_mem h
 rw [← h2]; exact nt_word e he
def i0B (k o : Nat) (u : Bool) : Bool := ((k == 1 || k == 2) && decide (o < 12) && (!u || (o == 0 && k == 2) || (decide (8 ≤ o) && decide (o ≤ 10)))) || ((k == 3 || k == 4) && o == 0 && !u) || (k == 5 && decide (o < 4) && !u) || k == 6 || k == 7
theorem i0_all : ∀ k : Nat, k < 8 → ∀ o : Nat, o < 16 → ∀ u : Bool, i0B k o u = true → L.mnemR (hk (k : Int)) (o : Int) u ≠ [] := by decide +kernel
theorem i0_mnem {k o a b c : Int} {u : Bool} (h : GoodI0 k o a b c u) : L.mnemR (hk k) o u ≠ [] := by
 obtain ⟨h1, h2, h3, h4⟩ := i0_range h
 obtain ⟨k', rfl⟩ : ∃ k' : Nat, k = (k' : Int) := ⟨k.toNat, by omega⟩
 obtain ⟨o', rfl⟩ : ∃ o' : Nat, o = (o' : Int) := ⟨o.toNat, by omega⟩
 refine i0_all k' (by omega) o' (by omega) u ?_
 generalize hk' : (k' : Int) = K at h
 generalize ho' : (o' : Int) = O at h
 have kk : ∀ n : Nat, K = (n : Int) → k' = n := fun n e => by omega
 have oo : ∀ n : Nat, O = (n : Int) → o' = n := fun n e => by omega
 unfold i0B
 cases h with
 | reg q1 q2 _ _ _ q3 =>
  rw [kk 1 rfl]
  have : o' < 12 := by omega
  cases u with
  | false => simp [this]
  | true =>
   have := q3 rfl
   have : 8 ≤ o' ∧ o' ≤ 10 := by omega
   simp [*]
 | mov _ _ => rw [kk 1 rfl, oo 0 rfl]; decide
 | imm q1 q2 _ _ q3 =>
  rw [kk 2 rfl]
  have : o' < 12 := by omega
  cases u with
  | false => simp [this]
  | true =>
   have := q3 rfl
   have : 8 ≤ o' ∧ o' ≤ 10 := by omega
   simp [*]
 | movi _ => rw [kk 2 rfl, oo 0 rfl]; cases u <;> decide
 | hi _ => rw [kk 3 rfl, oo 0 rfl]; decide
 | fl _ => rw [kk 4 rfl, oo 0 rfl]; decide
 | mem q1 q2 _ _ =>
  rw [kk 5 rfl]
  have : o' < 4 := by omega
  simp [this]
 | br _ _ => rw [kk 6 rfl]; simp
 | jmp _ => rw [kk 7 rfl]; simp
theorem good_mnem {s : Sm} {t : Option Tr} (h : GoodS s t) (h0 : s.k ≠ 0) : L.mnemR (hk s.k) s.o s.u ≠ [] := by
 cases h with
 | none => exact absurd rfl h0
 | ins0 h _ => exact i0_mnem h
 | ins1 h _ _ => exact i0_mnem h
 | load _ _ => exact (by decide +kernel : L.mnemR (hk 8) 0 false ≠ [])
 | word _ => exact (by decide +kernel : L.mnemR (hk 9) 0 false ≠ [])
 | exp _ => exact (by decide +kernel : L.mnemR (hk 10) 0 false ≠ [])
def joinB : List (List Bt) → List Bt
 | [] => []
 | x :: r => x ++ (r.map ((3, [44], 0) :: ·)).flatten
def mtk (s : Sm) : Bt := (if s.k = 9 ∨ s.k = 10 then 4 else 1, L.mnemR (hk s.k) s.o s.u, 0)
def ek : Option Tr → List Bt
 | none => []
 | some t => t.toks
def wtk (s : Sm) (t : Option Tr) : Od → List Bt
 | .A => [(1, rn s.a, 0)] | .B => [(1, rn s.b, 0)] | .C => [(1, rn s.c, 0)] | .E => ek t | .Q => (3, [61], 0) :: ek t | .N => [(1, s.nm, 0)]
def stk (s : Sm) (t : Option Tr) : List Bt := if s.k = 0 then [] else mtk s :: joinB ((odL s.k s.o).map (wtk s t))
def ltk (lb : Str) (s : Sm) (t : Option Tr) : List Bt := if lb = [] then stk s t else (1, lb, 0) :: (3, [58], 0) :: stk s t
theorem scans_od {s : Sm} {t : Option Tr} {d : Od} (h : okOd s t d) : Scans (wtx s t d) (wtk s t d) := by
 cases d with
 | A => exact scans_word (rn_word h)
 | B => exact scans_word (rn_word h)
 | C => exact scans_word (rn_word h)
 | E => obtain ⟨x, rfl, hx, _⟩ := h; exact scans_tree x hx.1
 | Q =>
  obtain ⟨x, rfl, hx, _⟩ := h
  exact ((ScansA.sig 61 (by decide)).appA ScansA.blank).app (scans_tree x hx.1)
 | N => exact scans_label (name_label h)
theorem scans_join {s : Sm} {t : Option Tr} : ∀ (l : List Od), (∀ d ∈ l, okOd s t d) → Scans (L.sjoinR [44, 32] (l.map (wtx s t))) (joinB (l.map (wtk s t)))
 | [], _ => scans_nil
 | d :: l, h => by
  have tail : ∀ l : List Od, (∀ d ∈ l, okOd s t d) → Scans (((l.map (wtx s t)).map (([44, 32] : Str) ++ ·)).flatten) (((l.map (wtk s t)).map ((3, [44], 0) :: ·)).flatten) ∧ ((((l.map (wtx s t)).map (([44, 32] : Str) ++ ·)).flatten) = [] ∨ ∃ c y, (((l.map (wtx s t)).map (([44, 32] : Str) ++ ·)).flatten) = c :: y ∧ isW c = false) := by
   intro l
   induction l with
   | nil => intro _; exact ⟨scans_nil, .inl rfl⟩
   | cons e l ih =>
    intro h
    obtain ⟨h1, h2⟩ := ih fun d hd => h d (List.mem_cons_of_mem _ hd)
    have h3 := scans_od (h e (List.mem_cons_self ..))
    refine ⟨?_, .inr ⟨44, _, rfl, by decide⟩⟩
    have := (((ScansA.sig 44 (by decide)).appA ScansA.blank).app h3).app h1 h2
    simpa using this
  obtain ⟨h1, h2⟩ := tail l fun d hd => h d (List.mem_cons_of_mem _ hd)
  exact (scans_od (h d (List.mem_cons_self ..))).app h1 h2
theorem scans_stx {s : Sm} {t : Option Tr} (h : GoodS s t) : Scans (stx s t) (stk s t) := by
 unfold stx stk
 by_cases h0 : s.k = 0
 ·rw [if_pos h0, if_pos h0]; exact scans_nil
 ·rw [if_neg h0, if_neg h0]
  have hw := mnem_word (good_mnem h h0)
  have hm : Scans (mtx s) [mtk s] := by
   unfold mtx mtk
   by_cases hd : s.k = 9 ∨ s.k = 10
   ·rw [if_pos hd, if_pos hd]; exact scans_dot hw
   ·rw [if_neg hd, if_neg hd]; exact scans_word hw
  exact hm.app (ScansA.blank.app (scans_join _ (good_od h))) (.inr ⟨32, _, rfl, by decide⟩)
theorem scans_ltx {s : Sm} {t : Option Tr} (h : GoodS s t) {lb : Str} (hlb : lb = [] ∨ labelOk lb = true) : Scans (ltx lb s t) (ltk lb s t) := by
 unfold ltx ltk
 by_cases hl : lb = []
 ·rw [if_pos hl, if_pos hl]; exact scans_stx h
 ·rw [if_neg hl, if_neg hl]
  have h1 := scans_label (hlb.resolve_left hl)
  have h2 : Scans (58 :: (if s.k = 0 then [] else 32 :: stx s t)) ((3, [58], 0) :: stk s t) := by
   by_cases h0 : s.k = 0
   ·rw [if_pos h0, show stk s t = [] by unfold stk; rw [if_pos h0]]; exact (ScansA.sig 58 (by decide)).scans
   ·rw [if_neg h0]; exact (ScansA.sig 58 (by decide)).app (ScansA.blank.app (scans_stx h))
  exact h1.app h2 (.inr ⟨58, _, rfl, by decide⟩)
theorem stx_len {s : Sm} {t : Option Tr} (h : GoodS s t) : (stx s t).length ≤ 4100 := by
 unfold stx
 split
 ·simp
 ·have := sjoin_len [44, 32] 1300 ((odL s.k s.o).map (wtx s t)) (fun x hx => by
   obtain ⟨d, hd, rfl⟩ := List.mem_map.1 hx
   exact wtx_len (good_od h d hd))
  rw [List.length_map] at this
  have h2 : (1300 + ([44, 32] : Str).length) * (odL s.k s.o).length ≤ 1302 * 3 := Nat.mul_le_mul (by decide) (odL_len _ _)
  have h3 : (mtx s).length ≤ 7 := by
   unfold mtx
   have := mnem_len (hk s.k) s.o s.u
   rw [List.length_append]
   split <;> simp <;> omega
  rw [List.length_append, List.length_cons]
  omega
theorem ltx_len {s : Sm} {t : Option Tr} (h : GoodS s t) {lb : Str} (hlb : lb = [] ∨ labelOk lb = true) : (ltx lb s t).length ≤ 5000 := by
 have h1 := stx_len h
 have hll : lb.length ≤ 12 := by
  rcases hlb with rfl | hlb
  ·simp
  ·unfold labelOk at hlb
   simp only [Bool.and_eq_true, decide_eq_true_eq] at hlb
   exact hlb.1.1.1.2
 unfold ltx
 split
 ·omega
 ·rw [List.length_append, List.length_cons]
  split
  ·simp; omega
  ·rw [List.length_cons]; omega
end Rv
namespace Rv
open Go
def isSg (l : List TokL) (p : Nat) (c : UInt8) : Bool := decide (p < l.length) && decide ((l.getD p dTok).1 = 3) && decide ((l.getD p dTok).2.2.1 = [c])
abbrev XR := Except Int (List Item × Nat)
def xF (l : List TokL) (S F : Nat → XR) (p : Nat) : XR :=
 if isSg l p 45 = true then (match F (p + 1) with | .error e => .error e | .ok r => .ok (r.1 ++ [(3, 0, [], ())], r.2))
 else if isSg l p 40 = true then (match S (p + 1) with | .error e => .error e | .ok r => if isSg l r.2 41 = true then .ok (r.1, r.2 + 1) else .error 23)
 else if p < l.length ∧ (l.getD p dTok).1 = 2 then .ok ([(1, (l.getD p dTok).2.2.2.1, [], ())], p + 1)
 else if p < l.length ∧ (l.getD p dTok).1 = 1 ∧ labelOk (l.getD p dTok).2.2.1 = true then .ok ([(2, 0, (l.getD p dTok).2.2.1, ())], p + 1)
 else .error 23
def lT (l : List TokL) (F : Nat → XR) : Nat → List Item → Nat → XR
 | 0, it, p => .ok (it, p)
 | m + 1, it, p => if isSg l p 42 = true then (match F (p + 1) with | .error e => .error e | .ok r => lT l F m (it ++ r.1 ++ [(6, 0, [], ())]) r.2) else .ok (it, p)
def xT (l : List TokL) (F : Nat → XR) (p : Nat) : XR := match F p with | .error e => .error e | .ok r => lT l F (l.length + 1) r.1 r.2
def lS (l : List TokL) (T : Nat → XR) : Nat → List Item → Nat → XR
 | 0, it, p => .ok (it, p)
 | m + 1, it, p => if isSg l p 43 = true then (match T (p + 1) with | .error e => .error e | .ok r => lS l T m (it ++ r.1 ++ [(4, 0, [], ())]) r.2)
  else if isSg l p 45 = true then (match T (p + 1) with | .error e => .error e | .ok r => lS l T m (it ++ r.1 ++ [(5, 0, [], ())]) r.2) else .ok (it, p)
def xS (l : List TokL) (F : Nat → XR) (p : Nat) : XR := match xT l F p with | .error e => .error e | .ok r => lS l (xT l F) (l.length + 1) r.1 r.2
def pF (l : List TokL) : Nat → Nat → XR
 | 0, _ => .error 24
 | q + 1, p => xF l (xS l (pF l q)) (pF l q) p
def parseX (l : List TokL) (p : Nat) : List Item × Int × Int × Unit :=
 match xS l (pF l 9) p with
 | .error e => ([], 0, e, ())
 | .ok r => if 64 < r.1.length then ([], 0, 24, ()) else (r.1, (r.2 : Int), 0, ())
structure OkX (l : List TokL) (p : Nat) (it : List Item) (p' : Nat) : Prop where
 lt : p < p'
 le : p' ≤ l.length
 len : it.length ≤ p' - p
 well : wellL it
 good : (∀ t ∈ l, 0 ≤ t.2.2.2.1 ∧ t.2.2.2.1 ≤ 4294967295) → ∀ x ∈ it, goodItem x
def GoodX (l : List TokL) (p : Nat) : XR → Prop
 | .error e => e = 23 ∨ e = 24
 | .ok r => OkX l p r.1 r.2
theorem isSg_lt {l : List TokL} {p : Nat} {c : UInt8} (h : isSg l p c = true) : p < l.length := by
 unfold isSg at h
 simp only [Bool.and_eq_true, decide_eq_true_eq] at h
 exact h.1.1
theorem getD_memT {l : List TokL} {p : Nat} (h : p < l.length) : l.getD p dTok ∈ l := by
 rw [List.getD_eq_getElem?_getD, List.getElem?_eq_getElem h]; exact List.getElem_mem h
theorem goodX_F {l : List TokL} {S F : Nat → XR} (hS : ∀ p, GoodX l p (S p)) (hF : ∀ p, GoodX l p (F p)) (p : Nat) : GoodX l p (xF l S F p) := by
 unfold xF
 split
 ·rename_i h
  have := hF (p + 1)
  cases hr : F (p + 1) with
  | error e => rw [hr] at this; exact this
  | ok r =>
   rw [hr] at this
   have h1 := this.lt; have h2 := this.len; have h3 := this.le
   refine ⟨by dsimp only; omega, h3, by simp; omega, well_one this.well _ rfl, fun ht x hx => ?_⟩
   simp only [List.mem_append, List.mem_singleton] at hx
   rcases hx with hx | rfl
   ·exact this.good ht x hx
   ·exact ⟨by decide, by decide, rfl⟩
 ·split
  ·have := hS (p + 1)
   cases hr : S (p + 1) with
   | error e => rw [hr] at this; exact this
   | ok r =>
    rw [hr] at this
    dsimp only
    split
    ·rename_i h
     have h0 := isSg_lt h
     have h1 := this.lt; have h2 := this.len; have h3 := this.le
     exact ⟨by dsimp only; omega, by dsimp only; omega, by dsimp only; omega, this.well, this.good⟩
    ·exact .inl rfl
  ·split
   ·rename_i h
    refine ⟨by dsimp only; omega, by have := h.1; dsimp only; omega, by simp, rfl, fun ht x hx => ?_⟩
    simp only [List.mem_singleton] at hx
    subst hx
    have := ht _ (getD_memT h.1)
    exact ⟨this.1, this.2, rfl⟩
   ·split
    ·rename_i h
     have hn : needsR (2, 0, (l.getD p dTok).2.2.1, ()) = (0, true) := by
      generalize (l.getD p dTok).2.2.1 = tx at h
      unfold needsR
      simp [h.2.2]
     refine ⟨by dsimp only; omega, by have := h.1; dsimp only; omega, by simp, ?_, fun ht x hx => ?_⟩
     ·show enough 0 [((2, 0, (l.getD p dTok).2.2.1, ()) : Item)] = some 1
      generalize ((2, 0, (l.getD p dTok).2.2.1, ()) : Item) = x at hn
      simp [enough, hn]
     ·simp only [List.mem_singleton] at hx
      subst hx
      exact ⟨by show (0 : Int) ≤ 0; decide, by show (0 : Int) ≤ _; decide, by rw [hn]⟩
    ·exact .inl rfl
theorem goodX_bin {l : List TokL} {a b c : Nat} {A B : List Item} (ha : OkX l a A b) (hb : OkX l (b + 1) B c) (x : Item) (hx : needsR x = (2, true)) (h0 : x.2.1 = 0) : OkX l a (A ++ B ++ [x]) c := by
 have h1 := ha.lt; have h2 := ha.len; have h3 := hb.lt; have h4 := hb.len
 refine ⟨by omega, hb.le, by simp; omega, well_two ha.well hb.well x hx, fun ht y hy => ?_⟩
 simp only [List.mem_append, List.mem_singleton] at hy
 rcases hy with (hy | hy) | rfl
 ·exact ha.good ht y hy
 ·exact hb.good ht y hy
 ·exact ⟨by rw [h0]; decide, by rw [h0]; decide, by rw [hx]⟩
theorem goodX_lT {l : List TokL} {F : Nat → XR} (hF : ∀ p, GoodX l p (F p)) (a : Nat) : ∀ (m : Nat) (it : List Item) (p : Nat), OkX l a it p → GoodX l a (lT l F m it p)
 | 0, it, p, h => h
 | m + 1, it, p, h => by
  rw [lT]
  split
  ·have := hF (p + 1)
   cases hr : F (p + 1) with
   | error e => rw [hr] at this; exact this
   | ok r =>
    rw [hr] at this
    exact goodX_lT hF a m _ _ (goodX_bin h this _ rfl rfl)
  ·exact h
theorem goodX_T {l : List TokL} {F : Nat → XR} (hF : ∀ p, GoodX l p (F p)) (p : Nat) : GoodX l p (xT l F p) := by
 unfold xT
 have := hF p
 cases hr : F p with
 | error e => rw [hr] at this; exact this
 | ok r => rw [hr] at this; exact goodX_lT hF p _ _ _ this
theorem goodX_lS {l : List TokL} {F : Nat → XR} (hF : ∀ p, GoodX l p (F p)) (a : Nat) : ∀ (m : Nat) (it : List Item) (p : Nat), OkX l a it p → GoodX l a (lS l F m it p)
 | 0, it, p, h => h
 | m + 1, it, p, h => by
  rw [lS]
  split
  ·have := hF (p + 1)
   cases hr : F (p + 1) with
   | error e => rw [hr] at this; exact this
   | ok r =>
    rw [hr] at this
    exact goodX_lS hF a m _ _ (goodX_bin h this _ rfl rfl)
  ·split
   ·have := hF (p + 1)
    cases hr : F (p + 1) with
    | error e => rw [hr] at this; exact this
    | ok r =>
     rw [hr] at this
     exact goodX_lS hF a m _ _ (goodX_bin h this _ rfl rfl)
   ·exact h
theorem goodX_S {l : List TokL} {F : Nat → XR} (hF : ∀ p, GoodX l p (F p)) (p : Nat) : GoodX l p (xS l F p) := by
 unfold xS
 have := goodX_T hF p
 cases hr : xT l F p with
 | error e => rw [hr] at this; exact this
 | ok r => rw [hr] at this; exact goodX_lS (goodX_T hF) p _ _ _ this
theorem goodX_pF (l : List TokL) : ∀ (q p : Nat), GoodX l p (pF l q p)
 | 0, _ => .inr rfl
 | q + 1, p => goodX_F (goodX_S (goodX_pF l q)) (goodX_pF l q) p
theorem sign_any (all : List Str) (hall : all.length ≤ 100) (l : List TokL) (p : Nat) (hl : l.length ≤ 1000000) (out : List Item) : expr_parser_sign.g all l p out 0 =
  if p < l.length ∧ (l.getD p dTok).1 = 3 ∧ (l.getD p dTok).2.2.1 ∈ all then some ((l.getD p dTok).2.2.1, true, l, ((p + 1 : Nat) : Int), out, 0, ()) else some ([], false, l, (p : Int), out, 0, ()) := by
 unfold expr_parser_sign.g expr_parser_sign.f
 by_cases hp : p < l.length
 ·rw [next_at l p out hp, Option.bind_some]
  dsimp only
  have := sign_loop (1000 + all.length + l.length + (p : Int).toNat + out.length + (0 : Int).toNat) all hall true l p out 0 (l.getD p dTok).1 (l.getD p dTok).2.1 (l.getD p dTok).2.2.1 (l.getD p dTok).2.2.2.1 (1000 + all.length + l.length + (p : Int).toNat + out.length + (0 : Int).toNat) 0 (by omega) (by omega)
  rw [show ((0 : Nat) : Int) = 0 from rfl] at this
  rw [this, w64 (by omega), List.drop_zero]
  by_cases h : (l.getD p dTok).1 = 3 ∧ (l.getD p dTok).2.2.1 ∈ all
  ·rw [if_pos ⟨rfl, h⟩, if_pos ⟨hp, h⟩]; rfl
  ·rw [if_neg (fun g => h g.2), if_neg (fun g => h g.2)]
 ·rw [next_end l p out (by omega), Option.bind_some]
  dsimp only
  have := sign_loop (1000 + all.length + l.length + (p : Int).toNat + out.length + (0 : Int).toNat) all hall false l p out 0 0 0 [] 0 (1000 + all.length + l.length + (p : Int).toNat + out.length + (0 : Int).toNat) 0 (by omega) (by omega)
  rw [show ((0 : Nat) : Int) = 0 from rfl] at this
  rw [this, if_neg (fun g => by cases g.1), if_neg (fun g => hp g.1)]
theorem isSg_iff {l : List TokL} {p : Nat} {c : UInt8} : isSg l p c = true ↔ p < l.length ∧ (l.getD p dTok).1 = 3 ∧ (l.getD p dTok).2.2.1 = [c] := by
 unfold isSg
 simp only [Bool.and_eq_true, decide_eq_true_eq, and_assoc]
theorem put_big (a b : Int) (c : Str) (l : List TokL) (p : Int) (out : List Item) (e : Int) (ho : out.length ≤ 3000000) : expr_parser_put.g a b c l p out e = some (l, p, out ++ [(a, b, c, ())], e, ()) := by
 unfold expr_parser_put.g expr_parser_put.f
 rw [if_pos (by simp; omega)]
def ResF (l : List TokL) (out : List Item) (B : Nat) (r : Option (List TokL × Int × List Item × Int × Unit)) : XR → Prop
 | .ok x => r = some (l, (x.2 : Int), out ++ x.1, 0, ())
 | .error e => ∃ p' out', r = some (l, p', out', e, ()) ∧ out'.length ≤ B
def ResT (l : List TokL) (out : List Item) (d : Int) (B : Nat) (r : Option (List TokL × Int × List Item × Int × Unit × Int × Unit)) : XR → Prop
 | .ok x => r = some (l, (x.2 : Int), out ++ x.1, 0, (), d, ())
 | .error e => ∃ p' out', r = some (l, p', out', e, (), d, ()) ∧ out'.length ≤ B
def okFq (l : List TokL) (q : Nat) : Prop := ∀ (p : Nat) (out : List Item) (Q : Nat), out.length + (l.length - p) ≤ 1000000 → 6 * q + 1 ≤ Q → ResF l out (2000000 + 3 * q) ((R Q).expr_parser_factor ((9 - q : Nat) : Int) l p out 0) (pF l q p)
def okTq (l : List TokL) (q : Nat) : Prop := ∀ (p : Nat) (out : List Item) (Q : Nat), out.length + (l.length - p) ≤ 1000000 → 6 * q + 4 ≤ Q → ∃ r, (R Q).expr_parser_sum_1 ((9 - q : Nat) : Int) l p out 0 = r.map (fun y => ((), ((9 - q : Nat) : Int), y)) ∧ ResF l out (2000000 + 3 * q + 1) r (xT l (pF l q) p)
def okSq (l : List TokL) (q : Nat) : Prop := ∀ (p : Nat) (out : List Item) (Q : Nat), out.length + (l.length - p) ≤ 1000000 → 6 * q + 6 ≤ Q → ResF l out (2000000 + 3 * q + 2) ((R Q).expr_parser_sum ((9 - q : Nat) : Int) l p out 0) (xS l (pF l q) p)
theorem err_ne {l : List TokL} {p : Nat} {x : XR} {e : Int} (h : GoodX l p x) (hx : x = .error e) : e ≠ 0 := by
 subst hx
 rcases h with rfl | rfl <;> decide
theorem T_loop {l : List TokL} (hl : l.length ≤ 1000000) {q : Nat} (hq9 : q ≤ 9) (hF : okFq l q) (n : Nat) (Q : Nat) (hQ : 6 * q + 2 ≤ Q) (out : List Item) : ∀ (m M : Nat) (it : List Item) (p : Nat), l.length - p < m → l.length - p < M → (out ++ it).length + (l.length - p) ≤ 1000000 →
  ResT l out ((9 - q : Nat) : Int) (2000000 + 3 * q + 1) (expr_parser_row_c201.l1 n (R Q) M sMul l p (out ++ it) 0 ((9 - q : Nat) : Int)) (lT l (pF l q) m it p) := by
 intro m
 induction m with
 | zero => intro M it p h; omega
 | succ m ih =>
  intro M it p hm hM ho
  obtain ⟨M, rfl⟩ : ∃ M', M = M' + 1 := ⟨M - 1, by omega⟩
  rw [expr_parser_row_c201.l1, sign_any sMul (by simp) l p hl, lT]
  by_cases hs : isSg l p 42 = true
  ·have hs' := isSg_iff.1 hs
   rw [if_pos ⟨hs'.1, hs'.2.1, by rw [hs'.2.2]; decide⟩, if_pos hs, Option.bind_some, hs'.2.2]
   dsimp only
   rw [if_neg (by decide)]
   obtain ⟨Q, rfl⟩ : ∃ Q', Q = Q' + 1 := ⟨Q - 1, by omega⟩
   have e : (R (Q + 1)).expr_parser_sum_1_1 ((9 - q : Nat) : Int) l ((p + 1 : Nat) : Int) (out ++ it) 0 = expr_parser_sum_1_1.h (R Q) ((9 - q : Nat) : Int) l ((p + 1 : Nat) : Int) (out ++ it) 0 := rfl
   rw [e]
   unfold expr_parser_sum_1_1.h expr_parser_sum_1_1.f
   have hg := goodX_pF l q (p + 1)
   have hr := hF (p + 1) (out ++ it) Q (by omega) (by omega)
   cases hx : pF l q (p + 1) with
   | error e =>
    rw [hx] at hr
    obtain ⟨p', out', h1, h2⟩ := hr
    have hne := err_ne hg hx
    have hlt := hs'.1
    rw [h1, Option.bind_some, Option.bind_some]
    dsimp only
    rw [put_big _ _ _ _ _ _ _ (by omega), Option.bind_some]
    dsimp only
    obtain ⟨M, rfl⟩ : ∃ M', M = M' + 1 := ⟨M - 1, by omega⟩
    rw [l52_err n _ M l p' _ e _ hne]
    exact ⟨p', _, rfl, by simp; omega⟩
   | ok r =>
    rw [hx] at hr hg
    have hr : (R Q).expr_parser_factor ((9 - q : Nat) : Int) l ((p + 1 : Nat) : Int) (out ++ it) 0 = some (l, (r.2 : Int), (out ++ it) ++ r.1, 0, ()) := hr
    have g1 := hg.lt; have g2 := hg.len; have g3 := hg.le
    rw [hr, Option.bind_some, Option.bind_some]
    dsimp only
    rw [put_big _ _ _ _ _ _ _ (by simp at ho ⊢; omega), Option.bind_some]
    dsimp only
    have := ih M (it ++ r.1 ++ [(6, 0, [], ())]) r.2 (by omega) (by omega) (by simp at ho ⊢; omega)
    rw [show out ++ it ++ r.1 ++ [((L.kinds [42]).1, 0, [], ())] = out ++ (it ++ r.1 ++ [(6, 0, [], ())]) by simp [L.kinds]]
    exact this
  ·rw [if_neg (fun h => hs (isSg_iff.2 ⟨h.1, h.2.1, by simpa using h.2.2⟩)), if_neg hs, Option.bind_some]
   rfl
theorem T_of {l : List TokL} (hl : l.length ≤ 1000000) {q : Nat} (hq9 : q ≤ 9) (hF : okFq l q) : okTq l q := by
 intro p out Q ho hQ
 obtain ⟨Q, rfl⟩ : ∃ Q', Q = Q' + 2 := ⟨Q - 2, by omega⟩
 have e : (R (Q + 2)).expr_parser_sum_1 ((9 - q : Nat) : Int) l (p : Int) out 0 = expr_parser_sum_1.h (R (Q + 1)) ((9 - q : Nat) : Int) l (p : Int) out 0 := rfl
 rw [e]
 unfold expr_parser_sum_1.h expr_parser_sum_1.f
 have e2 : (R (Q + 1)).expr_parser_row_c201 sMul l (p : Int) out 0 ((9 - q : Nat) : Int) = expr_parser_row_c201.h (R Q) sMul l (p : Int) out 0 ((9 - q : Nat) : Int) := rfl
 rw [e2]
 unfold expr_parser_row_c201.h expr_parser_row_c201.f
 obtain ⟨N, hN⟩ : ∃ N, 1000 + sMul.length + l.length + (p : Int).toNat + out.length + (0 : Int).toNat + (((9 - q : Nat) : Int)).toNat = N := ⟨_, rfl⟩
 rw [hN]
 obtain ⟨Q, rfl⟩ : ∃ Q', Q = Q' + 1 := ⟨Q - 1, by omega⟩
 have e3 : (R (Q + 1)).expr_parser_sum_1_1 ((9 - q : Nat) : Int) l (p : Int) out 0 = expr_parser_sum_1_1.h (R Q) ((9 - q : Nat) : Int) l (p : Int) out 0 := rfl
 rw [e3]
 unfold expr_parser_sum_1_1.h expr_parser_sum_1_1.f
 have hg := goodX_pF l q p
 have hr := hF p out Q (by omega) (by omega)
 unfold xT
 cases hx : pF l q p with
 | error e =>
  rw [hx] at hr
  obtain ⟨p', out', h1, h2⟩ := hr
  have hne := err_ne hg hx
  rw [h1, Option.bind_some, Option.bind_some]
  dsimp only
  obtain ⟨M, rfl⟩ : ∃ M', N = M' + 1 := ⟨N - 1, by omega⟩
  rw [l52_err _ _ M l p' _ e _ hne, Option.bind_some]
  exact ⟨some (l, p', out', e, ()), rfl, p', out', rfl, by omega⟩
 | ok r =>
  rw [hx] at hr hg
  have hr : (R Q).expr_parser_factor ((9 - q : Nat) : Int) l (p : Int) out 0 = some (l, (r.2 : Int), out ++ r.1, 0, ()) := hr
  have g1 := hg.lt; have g2 := hg.len; have g3 := hg.le
  rw [hr, Option.bind_some, Option.bind_some]
  dsimp only
  have := T_loop hl hq9 hF N (Q + 1) (by omega) out (l.length + 1) N r.1 r.2 (by omega) (by omega) (by simp; omega)
  generalize expr_parser_row_c201.l1 N (R (Q + 1)) N sMul l (r.2 : Int) (out ++ r.1) 0 ((9 - q : Nat) : Int) = X at this
  cases hy : lT l (pF l q) (l.length + 1) r.1 r.2 with
  | error e =>
   rw [hy] at this
   obtain ⟨p', out', h1, h2⟩ := this
   rw [h1, Option.bind_some]
   exact ⟨some (l, p', out', e, ()), rfl, p', out', rfl, h2⟩
  | ok x =>
   rw [hy] at this
   have this : X = some (l, (x.2 : Int), out ++ x.1, 0, (), ((9 - q : Nat) : Int), ()) := this
   rw [this, Option.bind_some]
   exact ⟨some (l, (x.2 : Int), out ++ x.1, 0, ()), rfl, rfl⟩
theorem S_loop {l : List TokL} (hl : l.length ≤ 1000000) {q : Nat} (hq9 : q ≤ 9) (hT : okTq l q) (n : Nat) (Q : Nat) (hQ : 6 * q + 4 ≤ Q) (out : List Item) : ∀ (m M : Nat) (it : List Item) (p : Nat), l.length - p < m → l.length - p < M → (out ++ it).length + (l.length - p) ≤ 1000000 →
  ResT l out ((9 - q : Nat) : Int) (2000000 + 3 * q + 2) (expr_parser_row_c200.l1 n (R Q) M sAdd l p (out ++ it) 0 ((9 - q : Nat) : Int)) (lS l (xT l (pF l q)) m it p) := by
 intro m
 induction m with
 | zero => intro M it p h; omega
 | succ m ih =>
  intro M it p hm hM ho
  obtain ⟨M, rfl⟩ : ∃ M', M = M' + 1 := ⟨M - 1, by omega⟩
  rw [expr_parser_row_c200.l1, sign_any sAdd (by simp) l p hl, lS]
  have step : ∀ (c : UInt8) (K : Int), (L.kinds [c]).1 = K → isSg l p c = true →
    ResT l out ((9 - q : Nat) : Int) (2000000 + 3 * q + 2) (((R Q).expr_parser_sum_1 ((9 - q : Nat) : Int) l ((p + 1 : Nat) : Int) (out ++ it) 0).bind fun y2 => (expr_parser_put.g ((L.kinds [c]).1) 0 ([] : Str) y2.2.2.1 y2.2.2.2.1 y2.2.2.2.2.1 y2.2.2.2.2.2.1).bind fun y3 => (expr_parser_row_c200.l1 n (R Q) M) sAdd y3.1 y3.2.1 y3.2.2.1 y3.2.2.2.1 y2.2.1)
     (match xT l (pF l q) (p + 1) with | .error e => .error e | .ok r => lS l (xT l (pF l q)) m (it ++ r.1 ++ [(K, 0, [], ())]) r.2) := by
   intro c K hK hs
   have hs' := isSg_iff.1 hs
   have hlt := hs'.1
   have hg := goodX_T (goodX_pF l q) (p + 1)
   obtain ⟨rr, h0, hr⟩ := hT (p + 1) (out ++ it) Q (by omega) hQ
   rw [h0]
   cases hx : xT l (pF l q) (p + 1) with
   | error e =>
    rw [hx] at hr
    obtain ⟨p', out', h1, h2⟩ := hr
    have hne := err_ne hg hx
    rw [h1, Option.map_some, Option.bind_some]
    dsimp only
    rw [put_big _ _ _ _ _ _ _ (by omega), Option.bind_some]
    dsimp only
    obtain ⟨M, rfl⟩ : ∃ M', M = M' + 1 := ⟨M - 1, by omega⟩
    rw [l51_err n _ M l p' _ e _ hne]
    exact ⟨p', _, rfl, by simp; omega⟩
   | ok r =>
    rw [hx] at hr hg
    have hr : rr = some (l, (r.2 : Int), (out ++ it) ++ r.1, 0, ()) := hr
    have g1 := hg.lt; have g2 := hg.len; have g3 := hg.le
    rw [hr, Option.map_some, Option.bind_some]
    dsimp only
    rw [put_big _ _ _ _ _ _ _ (by simp at ho ⊢; omega), Option.bind_some]
    dsimp only
    have := ih M (it ++ r.1 ++ [(K, 0, [], ())]) r.2 (by omega) (by omega) (by simp at ho ⊢; omega)
    rw [hK, show out ++ it ++ r.1 ++ [(K, 0, [], ())] = out ++ (it ++ r.1 ++ [(K, 0, [], ())]) by simp]
    exact this
  by_cases hs : isSg l p 43 = true
  ·have hs' := isSg_iff.1 hs
   rw [if_pos ⟨hs'.1, hs'.2.1, by rw [hs'.2.2]; decide⟩, if_pos hs, Option.bind_some, hs'.2.2]
   dsimp only
   rw [if_neg (by decide)]
   exact step 43 4 rfl hs
  ·by_cases hs2 : isSg l p 45 = true
   ·have hs' := isSg_iff.1 hs2
    rw [if_pos ⟨hs'.1, hs'.2.1, by rw [hs'.2.2]; decide⟩, if_neg hs, if_pos hs2, Option.bind_some, hs'.2.2]
    dsimp only
    rw [if_neg (by decide)]
    exact step 45 5 rfl hs2
   ·rw [if_neg (fun h => by
     have h3 := h.2.2
     simp only [List.mem_cons, List.not_mem_nil, or_false] at h3
     rcases h3 with h3 | h3
     ·exact hs (isSg_iff.2 ⟨h.1, h.2.1, h3⟩)
     ·exact hs2 (isSg_iff.2 ⟨h.1, h.2.1, h3⟩)), if_neg hs, if_neg hs2, Option.bind_some]
    rfl
theorem S_of {l : List TokL} (hl : l.length ≤ 1000000) {q : Nat} (hq9 : q ≤ 9) (hT : okTq l q) : okSq l q := by
 intro p out Q ho hQ
 obtain ⟨Q, rfl⟩ : ∃ Q', Q = Q' + 2 := ⟨Q - 2, by omega⟩
 have e : (R (Q + 2)).expr_parser_sum ((9 - q : Nat) : Int) l (p : Int) out 0 = expr_parser_sum.h (R (Q + 1)) ((9 - q : Nat) : Int) l (p : Int) out 0 := rfl
 rw [e]
 unfold expr_parser_sum.h expr_parser_sum.f
 have e2 : (R (Q + 1)).expr_parser_row_c200 sAdd l (p : Int) out 0 ((9 - q : Nat) : Int) = expr_parser_row_c200.h (R Q) sAdd l (p : Int) out 0 ((9 - q : Nat) : Int) := rfl
 rw [e2]
 unfold expr_parser_row_c200.h expr_parser_row_c200.f
 obtain ⟨N, hN⟩ : ∃ N, 1000 + sAdd.length + l.length + (p : Int).toNat + out.length + (0 : Int).toNat + (((9 - q : Nat) : Int)).toNat = N := ⟨_, rfl⟩
 rw [hN]
 have hg := goodX_T (goodX_pF l q) p
 obtain ⟨rr, h0, hr⟩ := hT p out Q (by omega) (by omega)
 rw [h0]
 unfold xS
 cases hx : xT l (pF l q) p with
 | error e =>
  rw [hx] at hr
  obtain ⟨p', out', h1, h2⟩ := hr
  have hne := err_ne hg hx
  rw [h1, Option.map_some, Option.bind_some]
  dsimp only
  obtain ⟨M, rfl⟩ : ∃ M', N = M' + 1 := ⟨N - 1, by omega⟩
  rw [l51_err _ _ M l p' _ e _ hne, Option.bind_some]
  exact ⟨p', out', rfl, by omega⟩
 | ok r =>
  rw [hx] at hr hg
  have hr : rr = some (l, (r.2 : Int), out ++ r.1, 0, ()) := hr
  have g1 := hg.lt; have g2 := hg.len; have g3 := hg.le
  rw [hr, Option.map_some, Option.bind_some]
  dsimp only
  have := S_loop hl hq9 hT N Q (by omega) out (l.length + 1) N r.1 r.2 (by omega) (by omega) (by simp; omega)
  generalize expr_parser_row_c200.l1 N (R Q) N sAdd l (r.2 : Int) (out ++ r.1) 0 ((9 - q : Nat) : Int) = X at this
  cases hy : lS l (xT l (pF l q)) (l.length + 1) r.1 r.2 with
  | error e =>
   rw [hy] at this
   obtain ⟨p', out', h1, h2⟩ := this
   rw [h1, Option.bind_some]
   exact ⟨p', out', rfl, h2⟩
  | ok x =>
   rw [hy] at this
   have this : X = some (l, (x.2 : Int), out ++ x.1, 0, (), ((9 - q : Nat) : Int), ()) := this
   rw [this, Option.bind_some]
   rfl
theorem F_of {l : List TokL} (hl : l.length ≤ 1000000) {q : Nat} (hq9 : q + 1 ≤ 9) (hF : okFq l q) (hS : okSq l q) : okFq l (q + 1) := by
 intro p out Q ho hQ
 obtain ⟨Q, rfl⟩ : ∃ Q', Q = Q' + 1 := ⟨Q - 1, by omega⟩
 have e : (R (Q + 1)).expr_parser_factor ((9 - (q + 1) : Nat) : Int) l (p : Int) out 0 = expr_parser_factor.h (R Q) ((9 - (q + 1) : Nat) : Int) l (p : Int) out 0 := rfl
 rw [e]
 unfold expr_parser_factor.h expr_parser_factor.f
 have hd : IntKind.i64.wrap (((9 - (q + 1) : Nat) : Int) + 1) = ((9 - q : Nat) : Int) := by rw [w64 (by omega)]; omega
 rw [if_neg (by decide), if_neg (by simp; omega), sign_any [[45], [40]] (by simp) l p hl, hd]
 show ResF l out _ _ (xF l (xS l (pF l q)) (pF l q) p)
 unfold xF
 by_cases h1 : isSg l p 45 = true
 ·have hs' := isSg_iff.1 h1
  rw [if_pos ⟨hs'.1, hs'.2.1, by rw [hs'.2.2]; decide⟩, if_pos h1, Option.bind_some, hs'.2.2]
  dsimp only
  rw [if_pos (by decide)]
  have hlt := hs'.1
  have hg := goodX_pF l q (p + 1)
  have hr := hF (p + 1) out Q (by omega) (by omega)
  cases hx : pF l q (p + 1) with
  | error e =>
   rw [hx] at hr
   obtain ⟨p', out', h3, h2⟩ := hr
   rw [h3, Option.bind_some]
   dsimp only
   rw [put_big _ _ _ _ _ _ _ (by omega), Option.bind_some]
   exact ⟨p', _, rfl, by simp; omega⟩
  | ok r =>
   rw [hx] at hr hg
   have hr : (R Q).expr_parser_factor ((9 - q : Nat) : Int) l ((p + 1 : Nat) : Int) out 0 = some (l, (r.2 : Int), out ++ r.1, 0, ()) := hr
   have g1 := hg.lt; have g2 := hg.len; have g3 := hg.le
   rw [hr, Option.bind_some]
   dsimp only
   rw [put_big _ _ _ _ _ _ _ (by simp; omega), Option.bind_some]
   show some (l, (r.2 : Int), out ++ r.1 ++ [(3, 0, [], ())], 0, ()) = some (l, (r.2 : Int), out ++ (r.1 ++ [(3, 0, [], ())]), 0, ())
   rw [List.append_assoc]
 ·by_cases h2 : isSg l p 40 = true
  ·have hs' := isSg_iff.1 h2
   rw [if_pos ⟨hs'.1, hs'.2.1, by rw [hs'.2.2]; decide⟩, if_neg h1, if_pos h2, Option.bind_some, hs'.2.2]
   dsimp only
   rw [if_neg (by decide), if_pos (by decide)]
   have hlt := hs'.1
   have hg := goodX_S (goodX_pF l q) (p + 1)
   have hr := hS (p + 1) out Q (by omega) (by omega)
   cases hx : xS l (pF l q) (p + 1) with
   | error e =>
    rw [hx] at hr
    obtain ⟨p', out', h3, h4⟩ := hr
    have hne := err_ne hg hx
    rw [h3, Option.bind_some]
    dsimp only
    rw [sign_err _ (by simp) l p' out' e hne, Option.bind_some]
    dsimp only
    rw [if_pos (show (!false) = true from rfl), fail_err 23 l p' out' e hne, Option.bind_some]
    exact ⟨p', out', rfl, by omega⟩
   | ok r =>
    rw [hx] at hr hg
    have hr : (R Q).expr_parser_sum ((9 - q : Nat) : Int) l ((p + 1 : Nat) : Int) out 0 = some (l, (r.2 : Int), out ++ r.1, 0, ()) := hr
    have g1 := hg.lt; have g2 := hg.len; have g3 := hg.le
    rw [hr, Option.bind_some]
    dsimp only
    rw [sign_any [[41]] (by simp) l r.2 hl]
    by_cases h3 : isSg l r.2 41 = true
    ·have hs2 := isSg_iff.1 h3
     rw [if_pos ⟨hs2.1, hs2.2.1, by rw [hs2.2.2]; decide⟩, if_pos h3, Option.bind_some]
     dsimp only
     rw [if_neg (by decide)]
     rfl
    ·rw [if_neg (fun h => h3 (isSg_iff.2 ⟨h.1, h.2.1, by simpa using h.2.2⟩)), if_neg h3, Option.bind_some]
     dsimp only
     rw [if_pos (show (!false) = true from rfl), fail_eq, Option.bind_some]
     exact ⟨_, _, rfl, by simp; omega⟩
  ·rw [if_neg (fun h => by
     have h3 := h.2.2
     simp only [List.mem_cons, List.not_mem_nil, or_false] at h3
     rcases h3 with h3 | h3
     ·exact h1 (isSg_iff.2 ⟨h.1, h.2.1, h3⟩)
     ·exact h2 (isSg_iff.2 ⟨h.1, h.2.1, h3⟩)), if_neg h1, if_neg h2, Option.bind_some]
   dsimp only
   rw [if_neg (show ¬ decide (([] : Str) = [45]) = true by decide), if_neg (show ¬ decide (([] : Str) = [40]) = true by decide)]
   by_cases hp : p < l.length
   ·rw [next_at l p out hp, Option.bind_some]
    dsimp only
    generalize ht : l.getD p dTok = t
    by_cases k2 : t.1 = 2
    ·rw [if_pos (show true = true from rfl), if_pos (show decide (t.1 = 2) = true by simp [k2]), if_pos (show p < l.length ∧ t.1 = 2 from ⟨hp, k2⟩), put_big _ _ _ _ _ _ _ (by omega), Option.bind_some]
     unfold expr_parser_factor.j19
     dsimp only
     rw [w64 (by omega)]
     rfl
    ·rw [if_pos (show true = true from rfl), if_neg (show ¬ decide (t.1 = 2) = true by simp [k2]), if_pos (show true = true from rfl), if_neg (show ¬ (p < l.length ∧ t.1 = 2) from fun h => k2 h.2)]
     by_cases k1 : t.1 = 1
     ·rw [if_pos (show decide (t.1 = 1) = true by simp [k1]), label_eq, Option.bind_some]
      dsimp only
      by_cases hL : labelOk t.2.2.1 = true
      ·rw [if_pos hL, if_pos (show p < l.length ∧ t.1 = 1 ∧ labelOk t.2.2.1 = true from ⟨hp, k1, hL⟩), put_big _ _ _ _ _ _ _ (by omega), Option.bind_some]
       unfold expr_parser_factor.j19
       dsimp only
       rw [w64 (by omega)]
       rfl
      ·rw [if_neg hL, if_neg (show ¬ (p < l.length ∧ t.1 = 1 ∧ labelOk t.2.2.1 = true) from fun h => hL h.2.2), fail_eq, Option.bind_some]
       exact ⟨_, _, rfl, by dsimp only; omega⟩
     ·rw [if_neg (show ¬ decide (t.1 = 1) = true by simp [k1]), if_neg (show ¬ (p < l.length ∧ t.1 = 1 ∧ labelOk t.2.2.1 = true) from fun h => k1 h.2.1), fail_eq, Option.bind_some]
      exact ⟨_, _, rfl, by dsimp only; omega⟩
   ·rw [next_end l p out (by omega), Option.bind_some]
    dsimp only
    rw [if_neg (show ¬ false = true by decide), if_neg (show ¬ false = true by decide), if_neg (show ¬ (p < l.length ∧ (l.getD p dTok).1 = 2) from fun h => hp h.1), if_neg (show ¬ (p < l.length ∧ (l.getD p dTok).1 = 1 ∧ labelOk (l.getD p dTok).2.2.1 = true) from fun h => hp h.1), fail_eq, Option.bind_some]
    exact ⟨_, _, rfl, by dsimp only; omega⟩
theorem F_all {l : List TokL} (hl : l.length ≤ 1000000) : ∀ q, q ≤ 9 → okFq l q
 | 0, _ => fun p out Q ho hQ => by
  obtain ⟨Q, rfl⟩ : ∃ Q', Q = Q' + 1 := ⟨Q - 1, by omega⟩
  exact ⟨_, _, F_deep Q l p out, by omega⟩
 | q + 1, h => F_of hl h (F_all hl q (by omega)) (S_of hl (by omega) (T_of hl (by omega) (F_all hl q (by omega))))
theorem parseX_eq (l : List TokL) (hl : l.length ≤ 1000000) (p : Nat) : expr_Parse.g l p = some (parseX l p) := by
 unfold expr_Parse.g expr_Parse.f expr_parser_sum.g
 have hr := S_of hl (by decide) (T_of hl (by decide) (F_all hl 9 (by decide))) p [] (1000 + (0 : Int).toNat + l.length + (p : Int).toNat + ([] : List Item).length + (0 : Int).toNat) (by simp; omega) (by omega)
 have hg := goodX_S (goodX_pF l 9) p
 unfold parseX
 cases hx : xS l (pF l 9) p with
 | error e =>
  rw [hx] at hr
  obtain ⟨p', out', h3, _⟩ := hr
  have hne := err_ne hg hx
  rw [show ((9 - 9 : Nat) : Int) = 0 from rfl] at h3
  rw [h3, Option.bind_some]
  dsimp only
  rw [if_neg (by simpa using hne)]
  unfold expr_Parse.j5
  rw [if_pos (by simpa using hne)]
 | ok r =>
  rw [hx] at hr
  have hr : (R (1000 + (0 : Int).toNat + l.length + (p : Int).toNat + ([] : List Item).length + (0 : Int).toNat)).expr_parser_sum ((9 - 9 : Nat) : Int) l (p : Int) [] 0 = some (l, (r.2 : Int), [] ++ r.1, 0, ()) := hr
  rw [show ((9 - 9 : Nat) : Int) = 0 from rfl] at hr
  rw [hr, Option.bind_some]
  dsimp only
  rw [if_pos (show decide ((0 : Int) = 0) = true from rfl), List.nil_append]
  by_cases h64 : 64 < r.1.length
  ·rw [if_pos (by simp; omega), if_pos h64]
   unfold expr_Parse.j5
   rw [if_pos (by decide)]
  ·rw [if_neg (by simp; omega), if_neg h64]
   unfold expr_Parse.j5
   rw [if_neg (by decide)]
end Rv
namespace Rv
open Go
def pk (kd : Int) (l : List TokL) (p : Nat) (e : Int) : Str := if e = 0 ∧ p < l.length ∧ (l.getD p dTok).1 = kd then (l.getD p dTok).2.2.1 else []
def chk (ok : Bool) (e : Int) : Int := if ok = false ∧ e = 0 then 22 else e
theorem peek_eq (kd : Int) (l : List TokL) (p : Nat) (e : Int) : stmt_parser_peek.g kd l p e = some (pk kd l p e, l, (p : Int), e, ()) := by
 unfold stmt_parser_peek.g stmt_parser_peek.f pk
 simp only [dt, df, Int.toNat_natCast]
 by_cases h : e = 0
 ·rw [if_pos (by simp [h])]
  by_cases hp : p < l.length
  ·rw [if_pos (by omega), if_pos (by omega)]
   by_cases hk : (l.getD p dTok).1 = kd
   ·rw [if_neg (by simpa using hk), if_pos (by omega), if_pos ⟨h, hp, hk⟩]
   ·rw [if_pos (by simpa using hk), if_neg (fun g => hk g.2.2)]
  ·rw [if_neg (by omega), if_neg (fun g => hp g.2.1)]
 ·rw [if_neg (by simp [h]), if_neg (fun g => h g.1)]
theorem take_eq (kd : Int) (l : List TokL) (p : Nat) (e : Int) (hp : p ≤ 9000000) : stmt_parser_take.g kd l p e = some (pk kd l p e, l, ((p + 1 : Nat) : Int), e, ()) := by
 unfold stmt_parser_take.g stmt_parser_take.f
 rw [peek_eq, Option.bind_some]
 dsimp only
 rw [w64 (by omega)]
 rfl
theorem check_eq (ok : Bool) (l : List TokL) (p : Int) (e : Int) : stmt_parser_check.g ok l p e = some (l, p, chk ok e, ()) := by
 unfold stmt_parser_check.g stmt_parser_check.f chk
 cases ok
 ·by_cases h : e = 0
  ·rw [if_pos (show (!false) = true from rfl), if_pos (by simp [h]), if_pos ⟨rfl, h⟩]
  ·rw [if_pos (show (!false) = true from rfl), if_neg (by simp [h]), if_neg (fun g => h g.2)]
 ·rw [if_neg (by decide), if_neg (fun g => by cases g.1)]
theorem pk_len {l : List TokL} (hl : ∀ t ∈ l, t.2.2.1.length ≤ 1000000) (kd : Int) (p : Nat) (e : Int) : (pk kd l p e).length ≤ 1000000 := by
 unfold pk
 split
 ·rename_i h; exact hl _ (getD_memT h.2.1)
 ·simp
def chK (l : List TokL) (p : Nat) (e : Int) (s : Sm) : Int :=
 if s.k = 1 ∧ ((regOf (pk 1 l p e)).2 = false ∨ (s.u = true ∧ s.o = 0)) then 2 else if s.k = 7 ∧ (regOf (pk 1 l p e)).2 = true then 6 else s.k
abbrev smR (l : List TokL) (p : Nat) (e : Int) (s : Sm) : List TokL × Int × Int × Int × Int × Int × Int × Int × Bool × List Item × Str × Unit := (l, (p : Int), e, s.k, s.o, s.a, s.b, s.c, s.u, s.e, s.nm, ())
theorem choose_eq {l : List TokL} (hl : ∀ t ∈ l, t.2.2.1.length ≤ 1000000) (p : Nat) (e : Int) (s : Sm) : stmt_parser_choose.g l p e s.k s.o s.a s.b s.c s.u s.e s.nm = some (smR l p e { s with k := chK l p e s }) := by
 unfold stmt_parser_choose.g stmt_parser_choose.f chK
 rw [peek_eq, Option.bind_some]
 dsimp only
 rw [reg_eq _ (pk_len hl 1 p e), Option.bind_some]
 dsimp only
 generalize (regOf (pk 1 l p e)).2 = is
 simp only [dt]
 by_cases h1 : s.k = 1
 ·rw [if_pos h1]
  cases is
  ·rw [if_neg (by decide), if_pos ⟨h1, .inl rfl⟩]
  ·rw [if_pos (by decide)]
   by_cases hu : s.u = true
   ·rw [if_pos hu]
    by_cases ho : s.o = 0
    ·rw [if_pos ho, if_pos ⟨h1, .inr ⟨hu, ho⟩⟩]
    ·rw [if_neg ho, if_neg (by omega), if_neg (fun g => by rcases g.2 with g | g; cases g; exact ho g.2), if_neg (fun g => by omega)]
   ·rw [if_neg hu, if_neg (by omega), if_neg (fun g => by rcases g.2 with g | g; cases g; exact hu g.1), if_neg (fun g => by omega)]
 ·have hm : (if s.k = 1 ∧ (is = false ∨ (s.u = true ∧ s.o = 0)) then (2 : Int) else if s.k = 7 ∧ is = true then 6 else s.k) = if s.k = 7 ∧ is = true then 6 else s.k := if_neg (fun g => h1 g.1)
  rw [if_neg h1, hm]
  by_cases h7 : s.k = 7
  ·rw [if_pos h7]
   cases is
   ·rw [if_neg (by decide), if_neg (fun g => by cases g.2)]
   ·rw [if_pos rfl, if_pos ⟨h7, rfl⟩]
  ·have hm2 : (if s.k = 7 ∧ is = true then (6 : Int) else s.k) = s.k := if_neg (fun g => h7 g.1)
   rw [if_neg h7, hm2]
def rdE (l : List TokL) (p : Nat) (e : Int) (s : Sm) : Nat × Int × Sm := if e = 0 then ((parseX l p).2.1.toNat, (parseX l p).2.2.1, { s with e := (parseX l p).1 }) else (p, e, s)
def rd (l : List TokL) (p : Nat) (e : Int) (s : Sm) : Od → Nat × Int × Sm
 | .A => (p + 1, chk (regOf (pk 1 l p e)).2 e, { s with a := (regOf (pk 1 l p e)).1 })
 | .B => (p + 1, chk (regOf (pk 1 l p e)).2 e, { s with b := (regOf (pk 1 l p e)).1 })
 | .C => (p + 1, chk (regOf (pk 1 l p e)).2 e, { s with c := (regOf (pk 1 l p e)).1 })
 | .E => rdE l p e s
 | .Q => rdE l (p + 1) (chk (decide (pk 3 l p e = [61])) e) s
 | .N => (p + 1, chk (nameOk (pk 1 l p e)) e, { s with nm := pk 1 l p e })
abbrev smO (l : List TokL) (r : Nat × Int × Sm) := smR l r.1 r.2.1 r.2.2
theorem parseX_nn (l : List TokL) (p : Nat) : (parseX l p).2.1 = ((parseX l p).2.1.toNat : Int) ∧ (parseX l p).2.1.toNat ≤ l.length := by
 unfold parseX
 have hg := goodX_S (goodX_pF l 9) p
 cases hx : xS l (pF l 9) p with
 | error e => exact ⟨rfl, Nat.zero_le _⟩
 | ok r =>
  rw [hx] at hg
  have := hg.le
  dsimp only
  split
  ·exact ⟨rfl, Nat.zero_le _⟩
  ·exact ⟨by dsimp only; omega, by dsimp only; omega⟩
section
variable {l : List TokL} (hl0 : l.length ≤ 1000000) (hl : ∀ t ∈ l, t.2.2.1.length ≤ 1000000)
include hl0 in
theorem j2_eq (n p : Nat) (e : Int) (s : Sm) : stmt_number_1.j2 n l p e s.k s.o s.a s.b s.c s.u s.e s.nm = some (smO l (rdE l p e s)) := by
 unfold stmt_number_1.j2 rdE
 simp only [dt]
 by_cases h : e = 0
 ·rw [if_pos h, if_pos h, parseX_eq l hl0 p, Option.bind_some]
  have := (parseX_nn l p).1
  show some (l, (parseX l p).2.1, _) = some (l, ((parseX l p).2.1.toNat : Int), _)
  rw [← this]
 ·rw [if_neg h, if_neg h]
include hl in
theorem reg1_eq (p : Nat) (hp : p ≤ 9000000) (e : Int) (s : Sm) (d : Od) (f : Fn) (hd : (d = .A ∧ f = K.atA) ∨ (d = .B ∧ f = K.atB) ∨ (d = .C ∧ f = K.atC)) : stmt_register_1.g f l p e s.k s.o s.a s.b s.c s.u s.e s.nm = some (smO l (rd l p e s d)) := by
 unfold stmt_register_1.g stmt_register_1.f
 rw [take_eq 1 l p e hp, Option.bind_some]
 dsimp only
 rw [reg_eq _ (pk_len hl 1 p e), Option.bind_some]
 dsimp only
 rw [check_eq, Option.bind_some]
 dsimp only
 rcases hd with ⟨rfl, rfl⟩ | ⟨rfl, rfl⟩ | ⟨rfl, rfl⟩
 ·rw [if_pos rfl]; rfl
 ·rw [if_neg (by decide), if_pos rfl]; rfl
 ·rw [if_neg (by decide), if_neg (by decide), if_pos rfl]; rfl
include hl0 in
theorem num1_eq (p : Nat) (hp : p ≤ 9000000) (e : Int) (s : Sm) : stmt_number_1.g [] l p e s.k s.o s.a s.b s.c s.u s.e s.nm = some (smO l (rd l p e s .E)) ∧ stmt_number_1.g [61] l p e s.k s.o s.a s.b s.c s.u s.e s.nm = some (smO l (rd l p e s .Q)) := by
 constructor
 ·unfold stmt_number_1.g stmt_number_1.f
  rw [if_neg (by decide)]
  exact j2_eq hl0 _ p e s
 ·unfold stmt_number_1.g stmt_number_1.f
  rw [if_pos (by decide), take_eq 3 l p e hp, Option.bind_some]
  dsimp only
  rw [check_eq, Option.bind_some]
  exact j2_eq hl0 _ (p + 1) _ s
theorem nam1_eq (p : Nat) (hp : p ≤ 9000000) (e : Int) (s : Sm) : stmt_operands_4.g l p e s.k s.o s.a s.b s.c s.u s.e s.nm = some (smO l (rd l p e s .N)) := by
 unfold stmt_operands_4.g stmt_operands_4.f
 rw [take_eq 1 l p e hp, Option.bind_some]
 dsimp only
 rw [lename_eq, Option.bind_some]
 dsimp only
 rw [check_eq, Option.bind_some]
 rfl
def stepR (l : List TokL) (op : Int) (many i p : Nat) (e : Int) (s : Sm) : Nat × Int × Sm :=
 let p1 := if 0 < i then p + 1 else p
 let e1 := if 0 < i then chk (decide (pk 3 l p e = [44])) e else e
 let s1 := if i + 1 = many then { s with k := chK l p1 e1 s } else s
 match (odL s1.k op)[i]? with
 | some d => rd l p1 e1 s1 d
 | none => (p1, e1, s1)
def loopR (l : List TokL) (op : Int) (many : Nat) : Nat → Nat → Nat × Int × Sm → Nat × Int × Sm
 | 0, _, r => r
 | m + 1, i, r => loopR l op many m (i + 1) (stepR l op many i r.1 r.2.1 r.2.2)
abbrev PR := Str × Int × Int × Int × Int × Int × Bool × List Item × Str × Int × Unit
def outR (lb : Str) (e : Int) (s : Sm) : PR := if e ≠ 0 then ([], 0, 0, 0, 0, 0, false, [], [], e, ()) else (lb, s.k, s.o, s.a, s.b, s.c, s.u, s.e, s.nm, 0, ())
def finR (l : List TokL) (lb : Str) (r : Nat × Int × Sm) : PR := outR lb (chk (decide (l.length ≤ r.1)) r.2.1) r.2.2
theorem chK_len (p : Nat) (e : Int) (s : Sm) (op : Int) : (odL (chK l p e s) op).length = (odL s.k op).length := by
 unfold chK
 split
 ·rename_i h
  rw [h.1]
  unfold odL
  split <;> (first | contradiction | skip) <;> simp <;> split <;> rfl
 ·split
  ·rename_i h; rw [h.1]; rfl
  ·rfl
theorem rd_k (p : Nat) (e : Int) (s : Sm) (d : Od) : (rd l p e s d).2.2.k = s.k := by
 have h : ∀ p e, (rdE l p e s).2.2.k = s.k := fun p e => by unfold rdE; split <;> rfl
 cases d <;> first | rfl | exact h _ _
theorem rd_p (p : Nat) (e : Int) (s : Sm) (d : Od) : (rd l p e s d).1 ≤ max (p + 1) l.length := by
 have h : ∀ p e, (rdE l p e s).1 ≤ max p l.length := fun p e => by
  unfold rdE
  have := (parseX_nn l p).2
  split <;> dsimp only <;> omega
 cases d with
 | A => show p + 1 ≤ _; omega
 | B => show p + 1 ≤ _; omega
 | C => show p + 1 ≤ _; omega
 | N => show p + 1 ≤ _; omega
 | E => have := h p e; show (rdE l p e s).1 ≤ _; omega
 | Q => exact h (p + 1) _
theorem step_k (op : Int) (many i p : Nat) (e : Int) (s : Sm) : (odL (stepR l op many i p e s).2.2.k op).length = (odL s.k op).length := by
 unfold stepR
 dsimp only
 split
 ·rw [rd_k]; split
  ·exact chK_len _ _ s op
  ·rfl
 ·dsimp only; split
  ·exact chK_len _ _ s op
  ·rfl
theorem step_p (op : Int) (many i p : Nat) (e : Int) (s : Sm) : (stepR l op many i p e s).1 ≤ max (p + 2) l.length := by
 unfold stepR
 dsimp only
 generalize hp1 : (if 0 < i then p + 1 else p) = p1
 have h1 : p1 ≤ p + 1 := by rw [← hp1]; split <;> omega
 generalize (if 0 < i then chk (decide (pk 3 l p e = [44])) e else e) = e1
 split
 ·have := rd_p (l := l) p1 e1 (if i + 1 = many then { s with k := chK l p1 e1 s } else s) ‹Od›
  omega
 ·dsimp only; omega
include hl0 hl in
theorem j19_eq (n : Nat) (rl) (lb : Str) (op : Int) (many i : Nat) (p : Nat) (hp : p ≤ 9000000) (e : Int) (s : Sm) (d : Od) (hd : (odL s.k op)[i]? = some d) :
  stmt_Parse.j19 n rl l lb op (many : Int) (i : Int) (many : Int) (i : Int) s.k s.o s.a s.b s.c s.u s.e s.nm l p e =
   stmt_Parse.j20 n rl l lb op (many : Int) (many : Int) (i : Int) (rd l p e s d).2.2.k (rd l p e s d).2.2.o (rd l p e s d).2.2.a (rd l p e s d).2.2.b (rd l p e s d).2.2.c (rd l p e s d).2.2.u (rd l p e s d).2.2.e (rd l p e s d).2.2.nm l (rd l p e s d).1 (rd l p e s d).2.1 := by
 unfold stmt_Parse.j19
 have hi : i < (odL s.k op).length := by
  rcases Nat.lt_or_ge i (odL s.k op).length with h | h
  ·exact h
  ·rw [List.getElem?_eq_none h] at hd; cases hd
 have hg : ((odL s.k op).map odF).getD ((i : Int)).toNat (((0, []) : Fn), (((0, []) : Fn), ())) = odF d := by
  rw [Int.toNat_natCast, List.getD_eq_getElem?_getD, List.getElem?_map, hd]; rfl
 rw [opsR_eq, hg, if_pos (by rw [List.length_map]; omega)]
 cases d with
 | A =>
  show (if K.rdA = K.rdA then _ else _) = _
  rw [if_pos rfl, reg1_eq hl p hp e s .A _ (.inl ⟨rfl, rfl⟩), Option.bind_some]
 | B =>
  show (if K.rdB = K.rdA then _ else if K.rdB = K.rdB then _ else _) = _
  rw [if_neg (by decide), if_pos rfl, reg1_eq hl p hp e s .B _ (.inr (.inl ⟨rfl, rfl⟩)), Option.bind_some]
 | C =>
  show (if K.rdC = K.rdA then _ else if K.rdC = K.rdB then _ else if K.rdC = K.rdC then _ else _) = _
  rw [if_neg (by decide), if_neg (by decide), if_pos rfl, reg1_eq hl p hp e s .C _ (.inr (.inr ⟨rfl, rfl⟩)), Option.bind_some]
 | E =>
  show (if K.rdE = K.rdA then _ else if K.rdE = K.rdB then _ else if K.rdE = K.rdC then _ else if K.rdE = K.rdE then _ else _) = _
  rw [if_neg (by decide), if_neg (by decide), if_neg (by decide), if_pos rfl, (num1_eq hl0 p hp e s).1, Option.bind_some]
 | Q =>
  show (if K.rdQ = K.rdA then _ else if K.rdQ = K.rdB then _ else if K.rdQ = K.rdC then _ else if K.rdQ = K.rdE then _ else if K.rdQ = K.rdQ then _ else _) = _
  rw [if_neg (by decide), if_neg (by decide), if_neg (by decide), if_neg (by decide), if_pos rfl, (num1_eq hl0 p hp e s).2, Option.bind_some]
 | N =>
  show (if K.rdN = K.rdA then _ else if K.rdN = K.rdB then _ else if K.rdN = K.rdC then _ else if K.rdN = K.rdE then _ else if K.rdN = K.rdQ then _ else if K.rdN = K.rdN then _ else _) = _
  rw [if_neg (by decide), if_neg (by decide), if_neg (by decide), if_neg (by decide), if_neg (by decide), if_pos rfl, nam1_eq p hp e s, Option.bind_some]
include hl0 hl in
theorem parse_loop (n : Nat) (lb : Str) (op : Int) (many : Nat) (h3 : many ≤ 3) : ∀ (M m i : Nat) (p : Nat) (e : Int) (s : Sm), i + m = many → m < M → p ≤ 8000000 + 10 * i → (odL s.k op).length = many →
  stmt_Parse.l13 n M l lb op (many : Int) (many : Int) (i : Int) s.k s.o s.a s.b s.c s.u s.e s.nm l p e = some (finR l lb (loopR l op many m i (p, e, s))) := by
 intro M
 induction M with
 | zero => intro m i p e s _ h; omega
 | succ M ih =>
  intro m i p e s him hm hp hk
  rw [stmt_Parse.l13]
  simp only [dt]
  cases m with
  | zero =>
   rw [if_neg (by omega), check_eq, Option.bind_some]
   dsimp only [loopR]
   unfold stmt_Parse.j22 finR outR
   simp only [dt]
   have : decide ((l.length : Int) ≤ (p : Int)) = decide (l.length ≤ p) := by
    rw [Bool.eq_iff_iff, decide_eq_true_eq, decide_eq_true_eq]; omega
   rw [this]
   split <;> rfl
  | succ m =>
   rw [if_pos (by omega)]
   dsimp only [loopR]
   have hsk := step_k (l := l) op many i p e s
   have hsp := step_p (l := l) op many i p e s
   have nxt := fun h => ih m (i + 1) (stepR l op many i p e s).1 (stepR l op many i p e s).2.1 (stepR l op many i p e s).2.2 (by omega) (by omega) (by omega) h
   rw [hsk] at nxt
   have nxt := nxt hk
   have J : ∀ (p1 : Nat) (e1 : Int), p1 ≤ 9000000 → p1 = (if 0 < i then p + 1 else p) → e1 = (if 0 < i then chk (decide (pk 3 l p e = [44])) e else e) →
     stmt_Parse.j17 n (stmt_Parse.l13 n M) l lb op (many : Int) (i : Int) (many : Int) (i : Int) s.k s.o s.a s.b s.c s.u s.e s.nm l p1 e1 = some (finR l lb (loopR l op many m (i + 1) (stepR l op many i p e s))) := by
    intro p1 e1 hp1 hp1' he1'
    have fin : ∀ s1 : Sm, s1 = (if i + 1 = many then { s with k := chK l p1 e1 s } else s) → stmt_Parse.j19 n (stmt_Parse.l13 n M) l lb op (many : Int) (i : Int) (many : Int) (i : Int) s1.k s1.o s1.a s1.b s1.c s1.u s1.e s1.nm l p1 e1 = some (finR l lb (loopR l op many m (i + 1) (stepR l op many i p e s))) := by
     intro s1 hs1
     have hlen : (odL s1.k op).length = many := by
      rw [hs1]
      split
      ·rw [← hk]; exact chK_len _ _ s op
      ·exact hk
     obtain ⟨d, hd⟩ : ∃ d, (odL s1.k op)[i]? = some d := ⟨_, List.getElem?_eq_getElem (by omega)⟩
     have hst : stepR l op many i p e s = rd l p1 e1 s1 d := by
      unfold stepR
      dsimp only
      rw [← hp1', ← he1', ← hs1, hd]
     rw [j19_eq hl0 hl n _ lb op many i p1 hp1 e1 s1 d hd, ← hst]
     unfold stmt_Parse.j20
     rw [w64 (by omega), show (i : Int) + 1 = ((i + 1 : Nat) : Int) by omega]
     exact nxt
    unfold stmt_Parse.j17
    simp only [dt]
    have hw : IntKind.i64.wrap ((many : Int) - 1) = (many : Int) - 1 := w64 (by omega)
    rw [hw]
    by_cases hlast : i + 1 = many
    ·rw [if_pos (by omega), choose_eq hl p1 e1 s, Option.bind_some]
     exact fin { s with k := chK l p1 e1 s } (by rw [if_pos hlast])
    ·rw [if_neg (by omega)]
     exact fin s (by rw [if_neg hlast])
   by_cases h0 : 0 < i
   ·rw [if_pos (by omega), take_eq 3 l p e (by omega), Option.bind_some]
    dsimp only
    rw [check_eq, Option.bind_some]
    exact J (p + 1) _ (by omega) (by rw [if_pos h0]) (by rw [if_pos h0])
   ·rw [if_neg (by omega)]
    exact J p e (by omega) (by rw [if_neg h0]) (by rw [if_neg h0])
def headR (l : List TokL) (lb : Str) (p : Nat) (e : Int) : PR :=
 if e = 0 ∧ p < l.length then
  let t := l.getD p dTok
  let w := L.ofR t.2.2.1
  let ok := w.2.2.2.1 && (decide (t.1 = 4) == decide (w.1 = 9 ∨ w.1 = 10)) && (decide (t.1 = 4) || decide (t.1 = 1))
  finR l lb (loopR l w.2.1 (odL w.1 w.2.1).length (odL w.1 w.2.1).length 0 (p + 1, chk ok e, ⟨w.1, w.2.1, 0, 0, 0, w.2.2.1, [], []⟩))
 else outR lb e ⟨0, 0, 0, 0, 0, false, [], []⟩
def parseS (l : List TokL) : PR :=
 if 1 < l.length ∧ (l.getD 0 dTok).1 = 1 ∧ isSg l 1 58 = true then headR l (l.getD 0 dTok).2.2.1 2 (chk (labelOk (l.getD 0 dTok).2.2.1) 0) else headR l [] 0 0
include hl0 hl in
theorem head_ok (n : Nat) (hn : 10 ≤ n) (lb : Str) (p : Nat) (hp : p ≤ 2) (e : Int) : stmt_Parse.j5 n l lb 0 0 0 0 0 false [] [] l p e = some (headR l lb p e) := by
 unfold stmt_Parse.j5 headR
 simp only [dt]
 by_cases he : e = 0
 ·rw [if_pos he]
  by_cases hp' : p < l.length
  ·rw [if_pos (by omega), if_pos (by omega), if_pos ⟨he, hp'⟩, Int.toNat_natCast]
   unfold L.nameOfO
   rw [Option.bind_some]
   generalize l.getD p dTok = t
   generalize L.ofR t.2.2.1 = w
   have J9 : ∀ ok : Bool, stmt_Parse.j9 n l lb w.1 w.2.1 w.2.2.1 0 0 0 0 0 false [] [] l (p : Int) (chk ok e) = some (finR l lb (loopR l w.2.1 (odL w.1 w.2.1).length (odL w.1 w.2.1).length 0 (p + 1, chk ok e, ⟨w.1, w.2.1, 0, 0, 0, w.2.2.1, [], []⟩))) := fun ok => by
    unfold stmt_Parse.j9
    have hlen : ((L.opsR w.1 w.2.1).length : Int) = ((odL w.1 w.2.1).length : Int) := by rw [opsR_eq, List.length_map]
    rw [hlen, w64 (by omega)]
    have h3 := odL_len w.1 w.2.1
    exact parse_loop hl0 hl n lb w.2.1 (odL w.1 w.2.1).length h3 n (odL w.1 w.2.1).length 0 (p + 1) (chk ok e) ⟨w.1, w.2.1, 0, 0, 0, w.2.2.1, [], []⟩ (by omega) (by omega) (by omega) rfl
   cases hok : w.2.2.2.1 with
   | false =>
    rw [if_neg (by decide), check_eq, Option.bind_some]
    exact J9 false
   | true =>
    rw [if_pos rfl, dotted_eq, Option.bind_some]
    dsimp only
    cases hq : (decide (t.1 = 4) == decide (w.1 = 9 ∨ w.1 = 10)) with
    | false =>
     rw [if_neg (by decide), check_eq, Option.bind_some]
     exact J9 false
    | true =>
     rw [if_pos rfl]
     by_cases h4 : t.1 = 4
     ·rw [if_neg (by simp [h4]), check_eq, Option.bind_some, decide_eq_true h4]
      exact J9 true
     ·rw [if_pos (by simp [h4]), check_eq, Option.bind_some, decide_eq_false h4]
      exact J9 _
  ·rw [if_neg (by omega), if_neg (fun g => hp' g.2)]
   unfold stmt_Parse.j22 outR
   simp only [dt]
   split <;> rfl
 ·rw [if_neg he, if_neg (fun g => he g.1)]
  unfold stmt_Parse.j22 outR
  simp only [dt]
  split <;> rfl
include hl0 hl in
theorem parse_eq' : stmt_Parse.g l = some (parseS l) := by
 unfold stmt_Parse.g
 have hn : 10 ≤ 1000 + l.length := by omega
 generalize 1000 + l.length = n at hn
 unfold stmt_Parse.f parseS
 have H := head_ok hl0 hl n hn
 have H0 := H [] 0 (by decide) 0
 rw [show ((0 : Nat) : Int) = 0 from rfl] at H0
 simp only [dt]
 have t0 : ((0 : Int)).toNat = 0 := rfl
 have t1 : ((1 : Int)).toNat = 1 := rfl
 rw [t0, t1]
 by_cases h1 : 1 < l.length
 ·rw [if_pos (by omega), if_pos (by omega)]
  by_cases k0 : (l.getD 0 dTok).1 = 1
  ·rw [if_pos k0, if_pos (by omega)]
   by_cases k1 : (l.getD 1 dTok).1 = 3
   ·rw [if_pos k1, if_pos (by omega)]
    by_cases k2 : (l.getD 1 dTok).2.2.1 = [58]
    ·rw [if_pos k2, if_pos (by omega), label_eq, Option.bind_some]
     dsimp only
     rw [check_eq, Option.bind_some, if_pos ⟨h1, k0, isSg_iff.2 ⟨h1, k1, k2⟩⟩]
     exact H _ 2 (by decide) _
    ·rw [if_neg k2, if_neg (fun g => k2 (isSg_iff.1 g.2.2).2.2)]; exact H0
   ·rw [if_neg k1, if_neg (fun g => k1 (isSg_iff.1 g.2.2).2.1)]; exact H0
  ·rw [if_neg k0, if_neg (fun g => k0 g.2.1)]; exact H0
 ·rw [if_neg (by omega), if_neg (fun g => h1 g.1)]; exact H0
end
end Rv
namespace Rv
open Go
theorem regOf_rn {a : Int} (h : rg a) : regOf (rn a) = (a, true) := by
 have : ∀ k : Nat, k < 16 → regOf (regN k) = ((k : Int), true) := by decide +kernel
 have h2 := this a.toNat (by have := h.1; have := h.2; omega)
 unfold rn
 rw [h2]
 have := h.1
 rw [show ((a.toNat : Nat) : Int) = a by omega]
theorem regOf_nil : regOf [] = (0, false) := by decide +kernel
theorem regOf_label {s : Str} (h : labelOk s = true) : (regOf s).2 = false := by
 unfold regOf
 cases hf : (List.range 16).find? (fun k => regN k == s) with
 | none => rfl
 | some k =>
  obtain ⟨h1, h2⟩ := regOf_some hf
  have : ∀ k : Nat, k < 16 → labelOk (regN k) = false := by decide +kernel
  rw [← h2, this k h1] at h
  cases h
theorem pk_at {l : List TokL} {p : Nat} {kd : Int} {tx : Str} {v : Int} {k : List Bt} (h : At l p ((kd, tx, v) :: k)) : pk kd l p 0 = tx := by
 obtain ⟨h1, h2, _⟩ := At.cons h
 simp only [bare, Prod.mk.injEq] at h2
 unfold pk
 rw [if_pos ⟨rfl, h1, h2.1⟩, h2.2.1]
theorem pk_other {l : List TokL} {p : Nat} {kd : Int} {b : Bt} {k : List Bt} (h : At l p (b :: k)) (hb : b.1 ≠ kd) : pk kd l p 0 = [] := by
 obtain ⟨h1, h2, _⟩ := At.cons h
 unfold pk
 rw [if_neg (fun g => hb (by rw [← h2]; exact g.2.2))]
theorem rd_A {l : List TokL} {p : Nat} {k : List Bt} {a : Int} (ha : rg a) (h : At l p ((1, rn a, 0) :: k)) (s : Sm) : rd l p 0 s .A = (p + 1, 0, { s with a := a }) := by
 show (p + 1, chk (regOf (pk 1 l p 0)).2 0, { s with a := (regOf (pk 1 l p 0)).1 }) = _
 rw [pk_at h, regOf_rn ha]; rfl
theorem rd_B {l : List TokL} {p : Nat} {k : List Bt} {a : Int} (ha : rg a) (h : At l p ((1, rn a, 0) :: k)) (s : Sm) : rd l p 0 s .B = (p + 1, 0, { s with b := a }) := by
 show (p + 1, chk (regOf (pk 1 l p 0)).2 0, { s with b := (regOf (pk 1 l p 0)).1 }) = _
 rw [pk_at h, regOf_rn ha]; rfl
theorem rd_C {l : List TokL} {p : Nat} {k : List Bt} {a : Int} (ha : rg a) (h : At l p ((1, rn a, 0) :: k)) (s : Sm) : rd l p 0 s .C = (p + 1, 0, { s with c := a }) := by
 show (p + 1, chk (regOf (pk 1 l p 0)).2 0, { s with c := (regOf (pk 1 l p 0)).1 }) = _
 rw [pk_at h, regOf_rn ha]; rfl
theorem rd_N {l : List TokL} {p : Nat} {k : List Bt} {nm : Str} (hn : nameOk nm = true) (h : At l p ((1, nm, 0) :: k)) (s : Sm) : rd l p 0 s .N = (p + 1, 0, { s with nm := nm }) := by
 show (p + 1, chk (nameOk (pk 1 l p 0)) 0, { s with nm := pk 1 l p 0 }) = _
 rw [pk_at h, hn]; rfl
def deepR (x : Tr) (p : Nat) (s : Sm) : Nat × Int × Sm := if x.dep ≤ 8 then (p + x.toks.length, 0, { s with e := x.post }) else (0, 24, { s with e := [] })
theorem rd_E {l : List TokL} (hl : l.length ≤ 1000000) {p : Nat} {x : Tr} (hx : okT' x) {K : List Bt} (hK : noS sMul K ∧ noS sAdd K) (h : At l p (x.toks ++ K)) (s : Sm) : rd l p 0 s .E = deepR x p s := by
 obtain ⟨g1, g2⟩ := eparse_eq hx.1 l p K hl hx.2.2.2 h hK.1 hK.2
 rw [parseX_eq l hl p] at g1 g2
 show rdE l p 0 s = _
 unfold rdE deepR
 rw [if_pos rfl]
 by_cases hd : x.dep ≤ 8
 ·rw [if_pos hd, Option.some.inj (g1 hd)]
  dsimp only
  rw [Int.toNat_natCast]
 ·rw [if_neg hd, Option.some.inj (g2 hd)]; rfl
theorem rd_Q {l : List TokL} (hl : l.length ≤ 1000000) {p : Nat} {x : Tr} (hx : okT' x) {K : List Bt} (hK : noS sMul K ∧ noS sAdd K) (h : At l p ((3, [61], 0) :: (x.toks ++ K))) (s : Sm) : rd l p 0 s .Q = deepR x (p + 1) s := by
 obtain ⟨_, _, h2⟩ := At.cons h
 rw [← rd_E hl hx hK h2 s]
 show rdE l (p + 1) (chk (decide (pk 3 l p 0 = [61])) 0) s = rdE l (p + 1) 0 s
 rw [pk_at h]; rfl
theorem brk_head (b : Bool) {l : List Bt} (h : ∃ b r, l = b :: r ∧ (b.1 = 1 → labelOk b.2.1 = true) ∧ b.2.1 ≠ [58]) : ∃ x r, brk b l = x :: r ∧ (x.1 = 1 → labelOk x.2.1 = true) ∧ x.2.1 ≠ [58] := by
 unfold brk
 split
 ·exact ⟨tLp, _, rfl, fun h => (by cases h), by decide⟩
 ·exact h
theorem toks_head : ∀ t : Tr, t.ok → ∃ b r, t.toks = b :: r ∧ (b.1 = 1 → labelOk b.2.1 = true) ∧ b.2.1 ≠ [58]
 | .num n, h => by
  refine ⟨_, _, rfl, fun h => (by cases h), fun e => ?_⟩
  have e : Lib.itoa n = [58] := e
  obtain ⟨m, rfl⟩ : ∃ m : Nat, n = m := ⟨n.toNat, by have := h.1; omega⟩
  have hi : Lib.itoa (m : Int) = Lib.decDigits m := by unfold Lib.itoa; rw [if_neg (by omega)]; rfl
  have := (dec_all m).1
  rw [← hi, e] at this
  exact absurd this (by decide)
 | .nam s, h => by
  refine ⟨_, _, rfl, fun _ => h, fun e => ?_⟩
  have h : labelOk s = true := h
  have e : s = [58] := e
  rw [e] at h
  exact absurd h (by decide)
 | .neg x, _ => ⟨tNeg, _, rfl, fun h => (by cases h), by decide⟩
 | .br x, _ => ⟨tLp, _, rfl, fun h => (by cases h), by decide⟩
 | .bin o a b, h => by
  obtain ⟨x, r, h1, h2, h3⟩ := brk_head (decide (a.tight < o.tight)) (toks_head a h.1)
  exact ⟨x, _, by show brk _ _ ++ _ = _; rw [h1]; rfl, h2, h3⟩
theorem no_reg {l : List TokL} {p : Nat} {x : Tr} (hx : x.ok) {k : List Bt} (h : At l p (x.toks ++ k)) : (regOf (pk 1 l p 0)).2 = false := by
 obtain ⟨b, r, h1, h2, _⟩ := toks_head x hx
 rw [h1] at h
 by_cases hb : b.1 = 1
 ·obtain ⟨b1, b2, b3⟩ := b
  have hb : b1 = 1 := hb
  subst hb
  rw [pk_at h]
  exact regOf_label (h2 rfl)
 ·rw [pk_other h hb, regOf_nil]
theorem st_first {l : List TokL} {op : Int} {many p : Nat} {s : Sm} {d : Od} (hm : many ≠ 1) (hd : (odL s.k op)[0]? = some d) : stepR l op many 0 p 0 s = rd l p 0 s d := by
 unfold stepR
 dsimp only
 rw [if_neg (by omega), if_neg (by omega), if_neg (by omega), hd]
theorem st_mid {l : List TokL} {op : Int} {many i p : Nat} {s : Sm} {d : Od} {k : List Bt} (h0 : 0 < i) (hm : i + 1 ≠ many) (hd : (odL s.k op)[i]? = some d) (h : At l p ((3, [44], 0) :: k)) : stepR l op many i p 0 s = rd l (p + 1) 0 s d := by
 unfold stepR
 dsimp only
 rw [if_pos h0, if_pos h0, if_neg hm, hd, pk_at h]; rfl
theorem st_last {l : List TokL} {op : Int} {many i p : Nat} {s : Sm} {d : Od} {k : List Bt} {K : Int} (h0 : 0 < i) (hm : i + 1 = many) (hK : chK l (p + 1) 0 s = K) (hd : (odL K op)[i]? = some d) (h : At l p ((3, [44], 0) :: k)) : stepR l op many i p 0 s = rd l (p + 1) 0 { s with k := K } d := by
 unfold stepR
 have hc : chk (decide (pk 3 l p 0 = [44])) 0 = 0 := by rw [pk_at h]; rfl
 dsimp only
 rw [if_pos h0, if_pos h0, if_pos hm, hc, hK]
 dsimp only
 rw [hd]
theorem st_only {l : List TokL} {op : Int} {many p : Nat} {s : Sm} {d : Od} {K : Int} (hm : many = 1) (hK : chK l p 0 s = K) (hd : (odL K op)[0]? = some d) : stepR l op many 0 p 0 s = rd l p 0 { s with k := K } d := by
 subst hm
 unfold stepR
 dsimp only
 rw [if_neg (show ¬ 0 < 0 by decide), if_neg (show ¬ 0 < 0 by decide), if_pos (show 0 + 1 = 1 from rfl), hK]
 dsimp only
 rw [hd]
def endR (q : Nat) (s : Sm) (t : Option Tr) (r : Nat × Int × Sm) : Prop :=
 ((∀ x, t = some x → x.dep ≤ 8) → r = (q, 0, s)) ∧ ((∃ x, t = some x ∧ ¬ x.dep ≤ 8) → ∃ s', r = (0, 24, s'))
theorem end_none {q : Nat} {s : Sm} {p : Nat} (hp : p = q) : endR q s none (p, 0, s) := ⟨fun _ => by rw [hp], fun ⟨x, h, _⟩ => by cases h⟩
theorem end_some {q : Nat} {s s' : Sm} {x : Tr} {p : Nat} (hp : p + x.toks.length = q) (hs : { s' with e := x.post } = s) : endR q s (some x) (deepR x p s') := by
 unfold deepR
 constructor
 ·intro h
  rw [if_pos (h x rfl), hs, hp]
 ·rintro ⟨y, hy, hd⟩
  obtain rfl := Option.some.inj hy
  rw [if_neg hd]
  exact ⟨_, rfl⟩
theorem At.end {l : List TokL} {p : Nat} (h : At l p []) (hp : p ≤ l.length) : p = l.length := by
 unfold At at h
 have := congrArg List.length h
 simp at this
 omega
theorem At.tot {l : List TokL} {p : Nat} {k : List Bt} (h : At l p k) (hp : p ≤ l.length) : p + k.length = l.length := by
 unfold At at h
 have := congrArg List.length h
 simp at this
 omega
theorem chK_self {l : List TokL} {p : Nat} {e : Int} {s : Sm} (h1 : s.k ≠ 1) (h7 : s.k ≠ 7) : chK l p e s = s.k := by
 unfold chK
 rw [if_neg (fun g => h1 g.1), if_neg (fun g => h7 g.1)]
theorem loop_good {l : List TokL} (hl : l.length ≤ 1000000) {s : Sm} {t : Option Tr} (h : GoodS s t) (h0 : s.k ≠ 0) {K : List Bt} (hK : noS sMul K ∧ noS sAdd K) {p : Nat} (hp : p ≤ l.length) (hat : At l p (joinB ((odL s.k s.o).map (wtk s t)) ++ K)) :
  endR (l.length - K.length) s t (loopR l s.o (odL (hk s.k) s.o).length (odL (hk s.k) s.o).length 0 (p, 0, ⟨hk s.k, s.o, 0, 0, 0, s.u, [], []⟩)) := by
 cases h with
 | none => exact absurd rfl h0
 | ins0 h hk0 =>
  cases h with
  | reg q1 q2 ha hb hc hu =>
   rename_i o a b c u
   dsimp only at hat ⊢
   rw [odL_reg q1] at hat
   have hat : At l p ((1, rn a, 0) :: (3, [44], 0) :: (1, rn b, 0) :: (3, [44], 0) :: (1, rn c, 0) :: K) := hat
   obtain ⟨_, _, a1⟩ := At.cons hat
   obtain ⟨_, _, a2⟩ := At.cons a1
   obtain ⟨_, _, a3⟩ := At.cons a2
   obtain ⟨_, _, a4⟩ := At.cons a3
   rw [show hk 1 = 1 from rfl, odL_reg q1]
   show endR _ _ _ (loopR l o 3 3 0 (p, 0, _))
   simp only [loopR]
   rw [st_first (d := .A) (by decide) (by rw [odL_reg q1]; rfl), rd_A ha hat]
   dsimp only
   rw [st_mid (d := .B) (by decide) (by decide) (by rw [odL_reg q1]; rfl) a1, rd_B hb a2]
   dsimp only
   rw [st_last (K := 1) (d := .C) (by decide) (by decide) (by
    unfold chK
    rw [pk_at a4, regOf_rn hc, if_neg (by rintro ⟨_, h | h⟩; cases h; have := h.2; dsimp only at this; omega), if_neg (by rintro ⟨h, _⟩; exact absurd (show (1 : Int) = 7 from h) (by decide))]) (by rw [odL_reg q1]; rfl) a3, rd_C hc a4]
   exact end_none (by have := At.tot hat hp; simp at this; omega)
  | mov ha hc =>
   rename_i a c
   have hat : At l p ((1, rn a, 0) :: (3, [44], 0) :: (1, rn c, 0) :: K) := hat
   obtain ⟨_, _, a1⟩ := At.cons hat
   obtain ⟨_, _, a2⟩ := At.cons a1
   show endR _ _ _ (loopR l 0 2 2 0 (p, 0, _))
   simp only [loopR]
   rw [st_first (d := .A) (by decide) rfl, rd_A ha hat]
   dsimp only
   rw [st_last (K := 1) (d := .C) (by decide) (by decide) (by
    unfold chK
    rw [pk_at a2, regOf_rn hc, if_neg (by rintro ⟨_, h | h⟩; cases h; exact absurd (show false = true from h.1) (by decide)), if_neg (by rintro ⟨h, _⟩; exact absurd (show (1 : Int) = 7 from h) (by decide))]; rfl) rfl a1, rd_C hc a2]
   exact end_none (by have := At.tot hat hp; simp at this; omega)
  | hi ha =>
   rename_i a
   have hat : At l p ((1, rn a, 0) :: K) := hat
   show endR _ _ _ (loopR l 0 1 1 0 (p, 0, _))
   simp only [loopR]
   rw [st_only (K := 3) (d := .A) rfl (chK_self (show (3 : Int) ≠ 1 by decide) (show (3 : Int) ≠ 7 by decide)) rfl, rd_A ha hat]
   exact end_none (by have := At.tot hat hp; simp at this; omega)
  | fl ha =>
   rename_i a
   have hat : At l p ((1, rn a, 0) :: K) := hat
   show endR _ _ _ (loopR l 0 1 1 0 (p, 0, _))
   simp only [loopR]
   rw [st_only (K := 4) (d := .A) rfl (chK_self (show (4 : Int) ≠ 1 by decide) (show (4 : Int) ≠ 7 by decide)) rfl, rd_A ha hat]
   exact end_none (by have := At.tot hat hp; simp at this; omega)
  | br ho hc =>
   rename_i o c u
   have hat : At l p ((1, rn c, 0) :: K) := hat
   show endR _ _ _ (loopR l o 1 1 0 (p, 0, _))
   simp only [loopR]
   rw [st_only (K := 6) (d := .C) rfl (by
    unfold chK
    rw [pk_at hat, regOf_rn hc, if_neg (by rintro ⟨h, _⟩; exact absurd (show (7 : Int) = 1 from h) (by decide)), if_pos ⟨rfl, rfl⟩]) rfl, rd_C hc hat]
   exact end_none (by have := At.tot hat hp; simp at this; omega)
  | imm => simp at hk0
  | movi => simp at hk0
  | mem => simp at hk0
  | jmp => simp at hk0
 | @ins1 _ _ _ _ _ _ x h hk0 hx =>
  cases h with
  | imm q1 q2 ha hb hu =>
   rename_i o a b u
   dsimp only at hat ⊢
   rw [odL_imm q1] at hat
   have hat : At l p ((1, rn a, 0) :: (3, [44], 0) :: (1, rn b, 0) :: (3, [44], 0) :: (x.toks ++ K)) := by rw [← List.append_nil x.toks]; exact hat
   obtain ⟨_, _, a1⟩ := At.cons hat
   obtain ⟨_, _, a2⟩ := At.cons a1
   obtain ⟨_, _, a3⟩ := At.cons a2
   obtain ⟨_, _, a4⟩ := At.cons a3
   rw [show hk 2 = 1 from rfl, odL_reg q1]
   show endR _ _ _ (loopR l o 3 3 0 (p, 0, _))
   simp only [loopR]
   rw [st_first (d := .A) (by decide) (by rw [odL_reg q1]; rfl), rd_A ha hat]
   dsimp only
   rw [st_mid (d := .B) (by decide) (by decide) (by rw [odL_reg q1]; rfl) a1, rd_B hb a2]
   dsimp only
   rw [st_last (K := 2) (d := .E) (by decide) (by decide) (by
    unfold chK
    rw [no_reg hx.1 a4, if_pos ⟨rfl, .inl rfl⟩]) (by rw [odL_imm q1]; rfl) a3, rd_E hl hx hK a4]
   exact end_some (by have := At.tot hat hp; simp at this; omega) rfl
  | movi ha =>
   rename_i a u
   have hat : At l p ((1, rn a, 0) :: (3, [44], 0) :: (x.toks ++ K)) := by rw [← List.append_nil x.toks]; exact hat
   obtain ⟨_, _, a1⟩ := At.cons hat
   obtain ⟨_, _, a2⟩ := At.cons a1
   show endR _ _ _ (loopR l 0 2 2 0 (p, 0, _))
   simp only [loopR]
   rw [st_first (d := .A) (by decide) rfl, rd_A ha hat]
   dsimp only
   rw [st_last (K := 2) (d := .E) (by decide) (by decide) (by
    unfold chK
    rw [no_reg hx.1 a2, if_pos ⟨rfl, .inl rfl⟩]) rfl a1, rd_E hl hx hK a2]
   exact end_some (by have := At.tot hat hp; simp at this; omega) rfl
  | mem q1 q2 ha hb =>
   rename_i o a b
   have hat : At l p ((1, rn a, 0) :: (3, [44], 0) :: (1, rn b, 0) :: (3, [44], 0) :: (x.toks ++ K)) := by rw [← List.append_nil x.toks]; exact hat
   obtain ⟨_, _, a1⟩ := At.cons hat
   obtain ⟨_, _, a2⟩ := At.cons a1
   obtain ⟨_, _, a3⟩ := At.cons a2
   obtain ⟨_, _, a4⟩ := At.cons a3
   show endR _ _ _ (loopR l o 3 3 0 (p, 0, _))
   simp only [loopR]
   rw [st_first (d := .A) (by decide) rfl, rd_A ha hat]
   dsimp only
   rw [st_mid (d := .B) (by decide) (by decide) rfl a1, rd_B hb a2]
   dsimp only
   rw [st_last (K := 5) (d := .E) (by decide) (by decide) (chK_self (show (5 : Int) ≠ 1 by decide) (show (5 : Int) ≠ 7 by decide)) rfl a3, rd_E hl hx hK a4]
   exact end_some (by have := At.tot hat hp; simp at this; omega) rfl
  | jmp ho =>
   rename_i o u
   have hat : At l p (x.toks ++ K) := by rw [← List.append_nil x.toks]; exact hat
   show endR _ _ _ (loopR l o 1 1 0 (p, 0, _))
   simp only [loopR]
   rw [st_only (K := 7) (d := .E) rfl (by
    unfold chK
    rw [no_reg hx.1 hat, if_neg (by rintro ⟨h, _⟩; exact absurd (show (7 : Int) = 1 from h) (by decide)), if_neg (by rintro ⟨_, h⟩; cases h)]; rfl) rfl, rd_E hl hx hK hat]
   exact end_some (by have := At.tot hat hp; simp at this; omega) rfl
  | reg => simp at hk0
  | mov => simp at hk0
  | hi => simp at hk0
  | fl => simp at hk0
  | br => simp at hk0
 | @load a x ha hx =>
  have hat : At l p ((1, rn a, 0) :: (3, [44], 0) :: (3, [61], 0) :: (x.toks ++ K)) := by rw [← List.append_nil x.toks]; exact hat
  obtain ⟨_, _, a1⟩ := At.cons hat
  obtain ⟨_, _, a2⟩ := At.cons a1
  show endR _ _ _ (loopR l 0 2 2 0 (p, 0, _))
  simp only [loopR]
  rw [st_first (d := .A) (by decide) rfl, rd_A ha hat]
  dsimp only
  rw [st_last (K := 8) (d := .Q) (by decide) (by decide) (chK_self (show (8 : Int) ≠ 1 by decide) (show (8 : Int) ≠ 7 by decide)) rfl a1, rd_Q hl hx hK a2]
  exact end_some (by have := At.tot hat hp; simp at this; omega) rfl
 | @word x hx =>
  have hat : At l p (x.toks ++ K) := by rw [← List.append_nil x.toks]; exact hat
  show endR _ _ _ (loopR l 0 1 1 0 (p, 0, _))
  simp only [loopR]
  rw [st_only (K := 9) (d := .E) rfl (chK_self (show (9 : Int) ≠ 1 by decide) (show (9 : Int) ≠ 7 by decide)) rfl, rd_E hl hx hK hat]
  exact end_some (by have := At.tot hat hp; simp at this; omega) rfl
 | @exp nm hn =>
  have hat : At l p ((1, nm, 0) :: K) := hat
  show endR _ _ _ (loopR l 0 1 1 0 (p, 0, _))
  simp only [loopR]
  rw [st_only (K := 10) (d := .N) rfl (chK_self (show (10 : Int) ≠ 1 by decide) (show (10 : Int) ≠ 7 by decide)) rfl, rd_N hn hat]
  exact end_none (by have := At.tot hat hp; simp at this; omega)
end Rv
namespace Rv
open Go
theorem hk_dot (k : Int) : (hk k = 9 ∨ hk k = 10) ↔ (k = 9 ∨ k = 10) := by
 unfold hk
 split
 ·omega
 ·split <;> omega
def smP (lb : Str) (s : Sm) : PR := (lb, s.k, s.o, s.a, s.b, s.c, s.u, s.e, s.nm, 0, ())
def noP (e : Int) : PR := ([], 0, 0, 0, 0, 0, false, [], [], e, ())
def deepOk (t : Option Tr) : Prop := ∀ x, t = some x → x.dep ≤ 8
theorem chk_stick {b : Bool} {e : Int} (h : e ≠ 0) : chk b e = e := by unfold chk; rw [if_neg (fun g => h g.2)]
theorem rd_stick {l : List TokL} {p : Nat} {e : Int} {s : Sm} (h : e ≠ 0) (d : Od) : (rd l p e s d).2.1 = e := by
 have hE : ∀ p, (rdE l p e s).2.1 = e := fun p => by unfold rdE; rw [if_neg h]
 cases d with
 | E => exact hE p
 | Q =>
  show (rdE l (p + 1) (chk (decide (pk 3 l p e = [61])) e) s).2.1 = e
  rw [chk_stick h]; exact hE _
 | _ => exact chk_stick h
theorem step_stick {l : List TokL} {op : Int} {many i p : Nat} {e : Int} {s : Sm} (h : e ≠ 0) : (stepR l op many i p e s).2.1 = e := by
 unfold stepR
 dsimp only
 have : (if 0 < i then chk (decide (pk 3 l p e = [44])) e else e) = e := by
  split
  ·exact chk_stick h
  ·rfl
 rw [this]
 split
 ·exact rd_stick h _
 ·rfl
theorem loop_stick {l : List TokL} {op : Int} {many : Nat} {e : Int} (h : e ≠ 0) : ∀ (m i : Nat) (r : Nat × Int × Sm), r.2.1 = e → (loopR l op many m i r).2.1 = e
 | 0, _, _, hr => hr
 | m + 1, i, r, hr => loop_stick h m (i + 1) _ (by rw [hr]; exact step_stick h)
theorem fin_stick {l : List TokL} {lb : Str} {r : Nat × Int × Sm} {e : Int} (h : e ≠ 0) (hr : r.2.1 = e) : finR l lb r = noP e := by
 unfold finR outR
 rw [hr, chk_stick h, if_pos h]; rfl
abbrev noGo (K : List Bt) : Prop := noS sMul K ∧ noS sAdd K
theorem noGo_nil : noGo [] := ⟨noS_nil _, noS_nil _⟩
theorem noGo_comma : noGo [(3, [44], 0)] := by
 constructor <;> (intro b r h g; obtain ⟨rfl, _⟩ := List.cons.inj h; exact absurd g.2 (by decide))
theorem head_wrong {l : List TokL} {lb : Str} {p : Nat} (hp : p < l.length) (h : (L.ofR (l.getD p dTok).2.2.1).2.2.2.1 = false) : headR l lb p 0 = noP 22 := by
 unfold headR
 rw [if_pos ⟨rfl, hp⟩]
 dsimp only
 rw [h]
 exact fin_stick (by decide) (loop_stick (by decide) _ _ _ rfl)
theorem head_goodK {l : List TokL} (hl : l.length ≤ 1000000) {s : Sm} {t : Option Tr} (h : GoodS s t) {lb : Str} {K : List Bt} (hK : K = [] ∨ K = [(3, [44], 0)]) {p : Nat} (hp : p ≤ l.length) (hat : At l p (stk s t ++ K)) :
  (deepOk t → headR l lb p 0 = if K = [] then smP lb s else noP 22) ∧ (¬ deepOk t → headR l lb p 0 = noP 24) := by
 have hKe : noGo K := by rcases hK with rfl | rfl; exact noGo_nil; exact noGo_comma
 by_cases h0 : s.k = 0
 ·have hs : s = ⟨0, 0, 0, 0, 0, false, [], []⟩ ∧ t = none := by
   cases h with
   | none => exact ⟨rfl, rfl⟩
   | ins0 h hk => dsimp only at h0; omega
   | ins1 h hk _ => dsimp only at h0; omega
   | load _ _ => exact absurd (show (8 : Int) = 0 from h0) (by decide)
   | word _ => exact absurd (show (9 : Int) = 0 from h0) (by decide)
   | exp _ => exact absurd (show (10 : Int) = 0 from h0) (by decide)
  obtain ⟨rfl, rfl⟩ := hs
  refine ⟨fun _ => ?_, fun g => absurd (fun x hx => by cases hx) g⟩
  rcases hK with rfl | rfl
  ·have hat : At l p [] := hat
   have he := At.end hat hp
   rw [if_pos rfl]
   unfold headR
   rw [if_neg (fun g => by omega)]
   rfl
  ·have hat : At l p [(3, [44], 0)] := hat
   obtain ⟨a1, a2, _⟩ := At.cons hat
   rw [if_neg (by simp)]
   refine head_wrong a1 ?_
   simp only [bare, Prod.mk.injEq] at a2
   rw [a2.2.1]
   decide +kernel
 ·have hstk : stk s t = mtk s :: joinB ((odL s.k s.o).map (wtk s t)) := by unfold stk; rw [if_neg h0]
  rw [hstk] at hat
  obtain ⟨a1, a2, a3⟩ := At.cons hat
  have hm := good_mnem h h0
  have hof := (mnem_of hm).1
  simp only [bare, mtk, Prod.mk.injEq] at a2
  have hk10 := good_kr h
  have hloop := loop_good hl h h0 hKe (by omega) a3
  unfold headR
  rw [if_pos ⟨rfl, a1⟩]
  dsimp only
  rw [a2.2.1, hof, a2.1]
  dsimp only
  have hok : (true && (decide ((if s.k = 9 ∨ s.k = 10 then (4 : Int) else 1) = 4) == decide (hk s.k = 9 ∨ hk s.k = 10)) && (decide ((if s.k = 9 ∨ s.k = 10 then (4 : Int) else 1) = 4) || decide ((if s.k = 9 ∨ s.k = 10 then (4 : Int) else 1) = 1))) = true := by
   by_cases hd : s.k = 9 ∨ s.k = 10
   ·rw [if_pos hd, decide_eq_true ((hk_dot s.k).2 hd)]; rfl
   ·rw [if_neg hd, decide_eq_false (fun g => hd ((hk_dot s.k).1 g))]; rfl
  rw [hok, show chk true 0 = 0 from rfl]
  generalize loopR l s.o (odL (hk s.k) s.o).length (odL (hk s.k) s.o).length 0 (p + 1, 0, ⟨hk s.k, s.o, 0, 0, 0, s.u, [], []⟩) = r at hloop
  obtain ⟨e1, e2⟩ := hloop
  constructor
  ·intro hd
   rw [e1 hd]
   unfold finR
   dsimp only
   rcases hK with rfl | rfl
   ·rw [decide_eq_true (show l.length ≤ l.length - ([] : List Bt).length from Nat.le_refl _)]
    rfl
   ·rw [decide_eq_false (show ¬ l.length ≤ l.length - ([(3, [44], 0)] : List Bt).length by simp; omega), if_neg (by simp)]
    rfl
  ·intro hd
   obtain ⟨s', e⟩ := e2 (by
    apply Classical.byContradiction
    intro hc
    exact hd fun x hx => Classical.byContradiction fun hx2 => hc ⟨x, hx, hx2⟩)
   rw [e]
   exact fin_stick (by decide) rfl
theorem stk_second {s : Sm} {t : Option Tr} (h : GoodS s t) {b c : Bt} {r : List Bt} (e : stk s t = b :: c :: r) : c.2.1 ≠ [58] := by
 have hod := good_od h
 have hname : ∀ n : Str, labelOk n = true → n ≠ [58] := fun n hn e => by rw [e] at hn; exact absurd hn (by decide)
 have hreg : ∀ a, rg a → rn a ≠ [58] := fun a ha e => by
  have := rn_word ha
  rw [e] at this
  exact absurd this (by decide)
 have first : ∀ d : Od, okOd s t d → ∀ x y, wtk s t d = x :: y → x.2.1 ≠ [58] := by
  intro d hd x y he
  cases d with
  | A => obtain ⟨rfl, _⟩ := List.cons.inj he; exact hreg _ hd
  | B => obtain ⟨rfl, _⟩ := List.cons.inj he; exact hreg _ hd
  | C => obtain ⟨rfl, _⟩ := List.cons.inj he; exact hreg _ hd
  | N => obtain ⟨rfl, _⟩ := List.cons.inj he; exact hname _ (name_label hd)
  | Q => obtain ⟨rfl, _⟩ := List.cons.inj he; decide
  | E =>
   obtain ⟨z, rfl, hz, _⟩ := hd
   obtain ⟨b', r', h1, _, h3⟩ := toks_head z hz.1
   have he : z.toks = x :: y := he
   rw [h1] at he
   obtain ⟨rfl, _⟩ := List.cons.inj he
   exact h3
 have ne : ∀ d : Od, okOd s t d → wtk s t d ≠ [] := by
  intro d hd
  cases d with
  | E => obtain ⟨z, rfl, hz, _⟩ := hd; exact toks_ne z
  | _ => simp [wtk]
 unfold stk at e
 split at e
 ·cases e
 ·have e2 := (List.cons.inj e).2
  cases hl : odL s.k s.o with
  | nil => rw [hl] at e2; cases e2
  | cons d ds =>
   rw [hl] at e2 hod
   have hd := hod d (List.mem_cons_self ..)
   cases hw : wtk s t d with
   | nil => exact absurd hw (ne d hd)
   | cons x y =>
    have e3 : wtk s t d ++ ((ds.map (wtk s t)).map ((3, [44], 0) :: ·)).flatten = c :: r := e2
    rw [hw] at e3
    obtain ⟨rfl, _⟩ := List.cons.inj e3
    exact first d hd x y hw
theorem toks_len : ∀ x : Tr, x.ok → ∀ b ∈ x.toks, b.2.1.length ≤ 1000 := by
 have hb : ∀ (q : Bool) (l : List Bt), (∀ b ∈ l, b.2.1.length ≤ 1000) → ∀ b ∈ brk q l, b.2.1.length ≤ 1000 := by
  intro q l h b hm
  unfold brk at hm
  split at hm
  ·simp only [List.mem_cons, List.mem_append, List.not_mem_nil, or_false] at hm
   rcases hm with rfl | hm | rfl
   ·decide
   ·exact h b hm
   ·decide
  ·exact h b hm
 intro x
 induction x with
 | num n =>
  intro h b hm
  have hm : b ∈ [((2 : Int), Lib.itoa n, n)] := hm
  simp only [List.mem_singleton] at hm
  subst hm
  have := txt_len (.num n) h trivial
  exact Nat.le_trans this (show 20 * 1 ≤ 1000 by decide)
 | nam s =>
  intro h b hm
  have hm : b ∈ [((1 : Int), s, (0 : Int))] := hm
  simp only [List.mem_singleton] at hm
  subst hm
  have := txt_len (.nam s) h trivial
  exact Nat.le_trans this (show 20 * 1 ≤ 1000 by decide)
 | neg x ih =>
  intro h b hm
  have hm : b ∈ tNeg :: brk (decide (x.tight < 2)) x.toks := hm
  simp only [List.mem_cons] at hm
  rcases hm with rfl | hm
  ·decide
  ·exact hb _ _ (ih h) b hm
 | br x ih => intro h b hm; exact hb true _ (ih h) b hm
 | bin o a c iha ihc =>
  intro h b hm
  have hm : b ∈ brk (decide (a.tight < o.tight)) a.toks ++ tOp o :: brk (decide (c.tight < o.tight + 1)) c.toks := hm
  simp only [List.mem_append, List.mem_cons] at hm
  rcases hm with hm | rfl | hm
  ·exact hb _ _ (iha h.1) b hm
  ·show ([o.byte] : Str).length ≤ 1000; simp
  ·exact hb _ _ (ihc h.2) b hm
theorem label_len {lb : Str} (h : labelOk lb = true) : lb.length ≤ 12 := by
 unfold labelOk at h
 simp only [Bool.and_eq_true, decide_eq_true_eq] at h
 exact h.1.1.1.2
theorem stk_len {s : Sm} {t : Option Tr} (h : GoodS s t) : ∀ b ∈ stk s t, b.2.1.length ≤ 1000 := by
 have hod := good_od h
 have hr : ∀ a, (rn a).length ≤ 1000 := fun a => Nat.le_trans (regN_len _) (by decide)
 have one : ∀ d : Od, okOd s t d → ∀ b ∈ wtk s t d, b.2.1.length ≤ 1000 := by
  intro d hd b hb
  cases d with
  | A => simp only [wtk, List.mem_singleton] at hb; subst hb; exact hr _
  | B => simp only [wtk, List.mem_singleton] at hb; subst hb; exact hr _
  | C => simp only [wtk, List.mem_singleton] at hb; subst hb; exact hr _
  | N => simp only [wtk, List.mem_singleton] at hb; subst hb; exact Nat.le_trans (label_len (name_label hd)) (by decide)
  | E => obtain ⟨z, rfl, hz, _⟩ := hd; exact toks_len z hz.1 b hb
  | Q =>
   obtain ⟨z, rfl, hz, _⟩ := hd
   simp only [wtk, List.mem_cons] at hb
   rcases hb with rfl | hb
   ·decide
   ·exact toks_len z hz.1 b hb
 intro b hb
 unfold stk at hb
 split at hb
 ·cases hb
 ·simp only [List.mem_cons] at hb
  rcases hb with rfl | hb
  ·exact Nat.le_trans (mnem_len _ _ _) (by decide)
  ·cases hl : odL s.k s.o with
   | nil => rw [hl] at hb; cases hb
   | cons d ds =>
    rw [hl] at hb hod
    have hb : b ∈ wtk s t d ++ ((ds.map (wtk s t)).map ((3, [44], 0) :: ·)).flatten := hb
    simp only [List.mem_append, List.mem_flatten, List.mem_map] at hb
    rcases hb with hb | ⟨l, ⟨l', ⟨d', hd', rfl⟩, rfl⟩, hb⟩
    ·exact one d (hod d (List.mem_cons_self ..)) b hb
    ·simp only [List.mem_cons] at hb
     rcases hb with rfl | hb
     ·decide
     ·exact one d' (hod d' (List.mem_cons_of_mem _ hd')) b hb
theorem bare_len {l : List TokL} {k : List Bt} (hb : l.map bare = k) (h : ∀ b ∈ k, b.2.1.length ≤ 1000) : ∀ t ∈ l, t.2.2.1.length ≤ 1000000 := by
 intro t ht
 have := h (bare t) (by rw [← hb]; exact List.mem_map.2 ⟨t, ht, rfl⟩)
 exact Nat.le_trans this (by decide)
theorem ltk_lens {s : Sm} {t : Option Tr} (h : GoodS s t) {lb : Str} (hlb : lb = [] ∨ labelOk lb = true) : ∀ b ∈ ltk lb s t, b.2.1.length ≤ 1000 := by
 intro b hb
 unfold ltk at hb
 split at hb
 ·exact stk_len h b hb
 ·rename_i hne
  simp only [List.mem_cons] at hb
  rcases hb with rfl | rfl | hb
  ·exact Nat.le_trans (label_len (hlb.resolve_left hne)) (by decide)
  ·decide
  ·exact stk_len h b hb
theorem no_colon {l : List TokL} {s : Sm} {t : Option Tr} (h : GoodS s t) {K : List Bt} (hK : K = [] ∨ K = [(3, [44], 0)]) (hat : At l 0 (stk s t ++ K)) : ¬ (1 < l.length ∧ (l.getD 0 dTok).1 = 1 ∧ isSg l 1 58 = true) := by
 rintro ⟨h1, _, h3⟩
 obtain ⟨h1, _, h3⟩ := isSg_iff.1 h3
 have tot := At.tot hat (by omega)
 match hs : stk s t with
 | [] => rcases hK with rfl | rfl <;> (rw [hs] at tot; simp at tot; omega)
 | [b] =>
  rw [hs] at tot hat
  rcases hK with rfl | rfl
  ·simp at tot; omega
  ·obtain ⟨_, _, a1⟩ := At.cons hat
   obtain ⟨_, a2, _⟩ := At.cons a1
   have : (bare (l.getD (0 + 1) dTok)).2.1 = [44] := by rw [a2]
   rw [show (bare (l.getD (0 + 1) dTok)).2.1 = (l.getD 1 dTok).2.2.1 from rfl, h3] at this
   exact absurd this (by decide)
 | b :: c :: r =>
  rw [hs] at hat
  obtain ⟨_, _, a1⟩ := At.cons hat
  obtain ⟨_, a2, _⟩ := At.cons a1
  exact stk_second h hs (by rw [← a2]; exact h3)
theorem parse_goodK {l : List TokL} (hl : l.length ≤ 1000000) {s : Sm} {t : Option Tr} (h : GoodS s t) {lb : Str} (hlb : lb = [] ∨ labelOk lb = true) {K : List Bt} (hK : K = [] ∨ K = [(3, [44], 0)]) (hb : l.map bare = ltk lb s t ++ K) :
  (deepOk t → stmt_Parse.g l = some (if K = [] then smP lb s else noP 22)) ∧ (¬ deepOk t → stmt_Parse.g l = some (noP 24)) := by
 have hlen : ∀ t ∈ l, t.2.2.1.length ≤ 1000000 := by
  refine bare_len hb fun b hb => ?_
  rcases List.mem_append.1 hb with hb | hb
  ·exact ltk_lens h hlb b hb
  ·rcases hK with rfl | rfl
   ·cases hb
   ·rw [List.mem_singleton] at hb; subst hb; decide
 rw [parse_eq' hl hlen]
 have hat0 : At l 0 (ltk lb s t ++ K) := by unfold At; rw [List.drop_zero]; exact hb
 unfold parseS
 by_cases hne : lb = []
 ·subst hne
  have hat : At l 0 (stk s t ++ K) := hat0
  rw [if_neg (no_colon h hK hat)]
  obtain ⟨g1, g2⟩ := head_goodK hl h (lb := []) hK (Nat.zero_le _) hat
  exact ⟨fun hd => by rw [g1 hd], fun hd => by rw [g2 hd]⟩
 ·have hok := hlb.resolve_left hne
  have hat : At l 0 ((1, lb, 0) :: (3, [58], 0) :: (stk s t ++ K)) := by unfold ltk at hat0; rw [if_neg hne] at hat0; exact hat0
  obtain ⟨b0, b1, a1⟩ := At.cons hat
  obtain ⟨b2, b3, a2⟩ := At.cons a1
  simp only [bare, Prod.mk.injEq] at b1 b3
  rw [if_pos ⟨b2, b1.1, isSg_iff.2 ⟨b2, b3.1, b3.2.1⟩⟩, b1.2.1, hok, show chk true 0 = 0 from rfl]
  obtain ⟨g1, g2⟩ := head_goodK hl h (lb := lb) hK (show 0 + 1 + 1 ≤ l.length from b2) a2
  exact ⟨fun hd => by rw [← g1 hd], fun hd => by rw [← g2 hd]⟩
theorem parse_good {l : List TokL} (hl : l.length ≤ 1000000) {s : Sm} {t : Option Tr} (h : GoodS s t) {lb : Str} (hlb : lb = [] ∨ labelOk lb = true) (hb : l.map bare = ltk lb s t) :
  (deepOk t → stmt_Parse.g l = some (smP lb s)) ∧ (¬ deepOk t → stmt_Parse.g l = some (noP 24)) := by
 have := parse_goodK hl h hlb (.inl rfl) (by rw [List.append_nil]; exact hb)
 rw [if_pos rfl] at this
 exact this
theorem text_good {s : Sm} {t : Option Tr} (h : GoodS s t) {lb : Str} (hlb : lb = [] ∨ labelOk lb = true) :
  ∃ ts : List TokL, ts.map bare = ltk lb s t ∧ ts.length ≤ 5000 ∧ scan_Line.g (ltx lb s t) = some (ts, 0, ()) ∧ (deepOk t → stmt_Parse.g ts = some (smP lb s)) ∧ (¬ deepOk t → stmt_Parse.g ts = some (noP 24)) := by
 have hlen := ltx_len h hlb
 obtain ⟨ts, h1, h2⟩ := scans_line (scans_ltx h hlb) (by omega)
 have hts : ts.length ≤ 5000 := by
  have := (lineOut_len (k := 0) (s := ltx lb s t))
  rw [line_eq _ (by omega)] at h2
  have := congrArg (fun o => (Option.map (fun y : List TokL × Int × Unit => y.1.length) o).getD 0) h2
  simp at this
  omega
 obtain ⟨g1, g2⟩ := parse_good (by omega) h hlb h1
 exact ⟨ts, h1, hts, h2, g1, g2⟩
end Rv
namespace Rv
open Go
theorem good_elen {s : Sm} {t : Option Tr} (h : GoodS s t) : s.e.length ≤ 64 ∧ s.e = postO t ∧ (∀ x, t = some x → okT' x) := by
 cases h with
 | none => exact ⟨by simp, rfl, fun x h => by cases h⟩
 | ins0 _ _ => exact ⟨by simp, rfl, fun x h => by cases h⟩
 | ins1 _ _ ht => exact ⟨ht.2.2.2, rfl, fun x h => by obtain rfl := Option.some.inj h; exact ht⟩
 | load _ ht => exact ⟨ht.2.2.2, rfl, fun x h => by obtain rfl := Option.some.inj h; exact ht⟩
 | word ht => exact ⟨ht.2.2.2, rfl, fun x h => by obtain rfl := Option.some.inj h; exact ht⟩
 | exp _ => exact ⟨by simp, rfl, fun x h => by cases h⟩
end Rv
namespace Rv
open Go
theorem shown17 : rivetlaw17_shown.g = some (true, ()) := by decide +kernel
end Rv
namespace Rv
open Go
theorem chk_zero {b : Bool} {e : Int} (h : chk b e = 0) : e = 0 ∧ b = true := by
 unfold chk at h
 split at h
 ·exact absurd h (by decide)
 ·rename_i g
  refine ⟨h, ?_⟩
  cases b
  ·exact absurd ⟨rfl, h⟩ g
  ·rfl
def okErr (e : Int) : Prop := e = 0 ∨ e = 22 ∨ e = 23 ∨ e = 24
theorem okErr_chk {b : Bool} {e : Int} (h : okErr e) : okErr (chk b e) := by
 unfold chk
 split
 ·exact .inr (.inl rfl)
 ·exact h
theorem regOf_rg {s : Str} (h : (regOf s).2 = true) : rg (regOf s).1 := by
 unfold regOf at h ⊢
 cases hf : (List.range 16).find? (fun k => regN k == s) with
 | none => rw [hf] at h; cases h
 | some k => have := (regOf_some hf).1; exact ⟨by dsimp only; omega, by dsimp only; omega⟩
section
variable {l : List TokL} (hw : ∀ t ∈ l, 0 ≤ t.2.2.2.1 ∧ t.2.2.2.1 ≤ 4294967295)
theorem parseX_err (p : Nat) : okErr (parseX l p).2.2.1 := by
 unfold parseX
 have hg := goodX_S (goodX_pF l 9) p
 cases hx : xS l (pF l 9) p with
 | error e => rw [hx] at hg; rcases hg with rfl | rfl; exact .inr (.inr (.inl rfl)); exact .inr (.inr (.inr rfl))
 | ok r => dsimp only; split; exact .inr (.inr (.inr rfl)); exact .inl rfl
include hw in
theorem parseX_tree {p : Nat} (h : (parseX l p).2.2.1 = 0) : ∃ t, okT' t ∧ (parseX l p).1 = t.post := by
 unfold parseX at h ⊢
 have hg := goodX_S (goodX_pF l 9) p
 cases hx : xS l (pF l 9) p with
 | error e =>
  rw [hx] at h hg
  have h : e = 0 := h
  rcases hg with rfl | rfl <;> cases h
 | ok r =>
  rw [hx] at h hg
  dsimp only at h ⊢
  split at h
  ·cases h
  ·rename_i h64
   rw [if_neg h64]
   obtain ⟨t, h1, h2, h3⟩ := tree_of hg.well (hg.good hw)
   exact ⟨t, ⟨h2, h3, by rw [h1]; exact hg.well, by rw [h1]; omega⟩, h1.symm⟩
theorem rd_err {p : Nat} {e : Int} {s : Sm} {d : Od} (h : (rd l p e s d).2.1 = 0) : e = 0 := by
 have hE : ∀ p e, (rdE l p e s).2.1 = 0 → e = 0 := fun p e h => by
  unfold rdE at h
  split at h
  ·assumption
  ·exact h
 cases d with
 | A => exact (chk_zero h).1
 | B => exact (chk_zero h).1
 | C => exact (chk_zero h).1
 | N => exact (chk_zero h).1
 | E => exact hE _ _ h
 | Q => exact (chk_zero (hE _ _ h)).1
theorem rd_ok {p : Nat} {e : Int} {s : Sm} {d : Od} (h : okErr e) : okErr (rd l p e s d).2.1 := by
 have hE : ∀ p e, okErr e → okErr (rdE l p e s).2.1 := fun p e h => by
  unfold rdE
  split
  ·exact parseX_err p
  ·exact h
 cases d with
 | A => exact okErr_chk h
 | B => exact okErr_chk h
 | C => exact okErr_chk h
 | N => exact okErr_chk h
 | E => exact hE _ _ h
 | Q => exact hE _ _ (okErr_chk h)
theorem step_ok {op : Int} {many i p : Nat} {e : Int} {s : Sm} (h : okErr e) : okErr (stepR l op many i p e s).2.1 := by
 unfold stepR
 dsimp only
 have h1 : okErr (if 0 < i then chk (decide (pk 3 l p e = [44])) e else e) := by split; exact okErr_chk h; exact h
 split
 ·exact rd_ok h1
 ·exact h1
theorem loop_ok {op : Int} {many : Nat} : ∀ (m i : Nat) (r : Nat × Int × Sm), okErr r.2.1 → okErr (loopR l op many m i r).2.1
 | 0, _, _, h => h
 | m + 1, i, r, h => loop_ok m (i + 1) _ (step_ok h)
theorem step_err {op : Int} {many i p : Nat} {e : Int} {s : Sm} (h : (stepR l op many i p e s).2.1 = 0) : e = 0 := by
 unfold stepR at h
 dsimp only at h
 have h1 : (if 0 < i then chk (decide (pk 3 l p e = [44])) e else e) = 0 → e = 0 := fun h => by
  split at h
  ·exact (chk_zero h).1
  ·exact h
 split at h
 ·exact h1 (rd_err h)
 ·exact h1 h
theorem rdA_ok {p : Nat} {s : Sm} (h : (rd l p 0 s .A).2.1 = 0) : ∃ a, rg a ∧ (rd l p 0 s .A).2.2 = { s with a := a } := ⟨_, regOf_rg (chk_zero h).2, rfl⟩
theorem rdB_ok {p : Nat} {s : Sm} (h : (rd l p 0 s .B).2.1 = 0) : ∃ a, rg a ∧ (rd l p 0 s .B).2.2 = { s with b := a } := ⟨_, regOf_rg (chk_zero h).2, rfl⟩
theorem rdC_ok {p : Nat} {e : Int} {s : Sm} (h : (rd l p e s .C).2.1 = 0) : ∃ a, rg a ∧ (rd l p e s .C).2.2 = { s with c := a } := ⟨_, regOf_rg (chk_zero h).2, rfl⟩
theorem rdN_ok {p : Nat} {s : Sm} (h : (rd l p 0 s .N).2.1 = 0) : ∃ a, nameOk a = true ∧ (rd l p 0 s .N).2.2 = { s with nm := a } := ⟨_, (chk_zero h).2, rfl⟩
include hw in
theorem rdE_ok {p : Nat} {e : Int} {s : Sm} (h : (rdE l p e s).2.1 = 0) : ∃ t, okT' t ∧ (rdE l p e s).2.2 = { s with e := t.post } := by
 unfold rdE at h ⊢
 split at h
 ·rename_i he
  rw [if_pos he]
  obtain ⟨t, h1, h2⟩ := parseX_tree hw h
  exact ⟨t, h1, by dsimp only; rw [h2]⟩
 ·rename_i he; exact absurd h he
theorem sk_first {op : Int} {many p : Nat} {s : Sm} {d : Od} (hm : many ≠ 1) (hd : (odL s.k op)[0]? = some d) : stepR l op many 0 p 0 s = rd l p 0 s d := st_first hm hd
theorem sk_mid {op : Int} {many i p : Nat} {s : Sm} {d : Od} (h0 : 0 < i) (hm : i + 1 ≠ many) (hd : (odL s.k op)[i]? = some d) (h : (stepR l op many i p 0 s).2.1 = 0) : stepR l op many i p 0 s = rd l (p + 1) 0 s d := by
 have key : stepR l op many i p 0 s = rd l (p + 1) (chk (decide (pk 3 l p 0 = [44])) 0) s d := by
  unfold stepR
  dsimp only
  rw [if_pos h0, if_pos h0, if_neg hm, hd]
 rw [key] at h ⊢
 rw [rd_err h]
theorem sk_last {op : Int} {many i p : Nat} {s : Sm} (h0 : 0 < i) (hm : i + 1 = many) (hl : i < (odL s.k op).length) (h : (stepR l op many i p 0 s).2.1 = 0) : ∃ K d, chK l (p + 1) 0 s = K ∧ (odL K op)[i]? = some d ∧ stepR l op many i p 0 s = rd l (p + 1) 0 { s with k := K } d := by
 obtain ⟨d, hd⟩ : ∃ d, (odL (chK l (p + 1) (chk (decide (pk 3 l p 0 = [44])) 0) s) op)[i]? = some d := ⟨_, List.getElem?_eq_getElem (by rw [chK_len]; exact hl)⟩
 have key : stepR l op many i p 0 s = rd l (p + 1) (chk (decide (pk 3 l p 0 = [44])) 0) { s with k := chK l (p + 1) (chk (decide (pk 3 l p 0 = [44])) 0) s } d := by
  unfold stepR
  dsimp only
  rw [if_pos h0, if_pos h0, if_pos hm]
  dsimp only
  rw [hd]
 have he : chk (decide (pk 3 l p 0 = [44])) 0 = 0 := by rw [key] at h; exact rd_err h
 rw [he] at key hd
 exact ⟨_, d, rfl, hd, key⟩
theorem sk_only {op : Int} {p : Nat} {s : Sm} (hl : 0 < (odL s.k op).length) : ∃ K d, chK l p 0 s = K ∧ (odL K op)[0]? = some d ∧ stepR l op 1 0 p 0 s = rd l p 0 { s with k := K } d := by
 obtain ⟨d, hd⟩ : ∃ d, (odL (chK l p 0 s) op)[0]? = some d := ⟨_, List.getElem?_eq_getElem (by rw [chK_len]; exact hl)⟩
 exact ⟨_, d, rfl, hd, st_only rfl rfl hd⟩
theorem chK_one {p : Nat} {s : Sm} (h : s.k = 1) : chK l p 0 s = 2 ∨ (chK l p 0 s = 1 ∧ ¬ (s.u = true ∧ s.o = 0)) := by
 unfold chK
 split
 ·exact .inl rfl
 ·rename_i g
  rw [if_neg (fun q => by omega)]
  exact .inr ⟨h, fun q => g ⟨h, .inr q⟩⟩
theorem chK_seven {p : Nat} {s : Sm} (h : s.k = 7) : chK l p 0 s = 6 ∨ chK l p 0 s = 7 := by
 unfold chK
 rw [if_neg (fun q => by omega)]
 split
 ·exact .inl rfl
 ·exact .inr h
theorem nt_good : ∀ e ∈ L.nameTbl, (e.2.1.1 = 1 ∧ 0 ≤ e.2.1.2.1 ∧ e.2.1.2.1 < 12 ∧ (e.2.1.2.2 = true → e.2.1.2.1 = 0 ∨ 8 ≤ e.2.1.2.1 ∧ e.2.1.2.1 ≤ 10)) ∨ ((e.2.1.1 = 3 ∨ e.2.1.1 = 4 ∨ e.2.1.1 = 8 ∨ e.2.1.1 = 9 ∨ e.2.1.1 = 10) ∧ e.2.1.2.1 = 0 ∧ e.2.1.2.2 = false) ∨ (e.2.1.1 = 5 ∧ 0 ≤ e.2.1.2.1 ∧ e.2.1.2.1 < 4 ∧ e.2.1.2.2 = false) ∨ (e.2.1.1 = 7 ∧ 0 ≤ e.2.1.2.1 ∧ e.2.1.2.1 < 16) := by decide +kernel
theorem of_found {s : Str} (h : (L.ofR s).2.2.2.1 = true) : ∃ k o u, L.ofR s = (k, o, u, true, ()) ∧ ((k = 1 ∧ 0 ≤ o ∧ o < 12 ∧ (u = true → o = 0 ∨ 8 ≤ o ∧ o ≤ 10)) ∨ ((k = 3 ∨ k = 4 ∨ k = 8 ∨ k = 9 ∨ k = 10) ∧ o = 0 ∧ u = false) ∨ (k = 5 ∧ 0 ≤ o ∧ o < 4 ∧ u = false) ∨ (k = 7 ∧ 0 ≤ o ∧ o < 16)) := by
 unfold L.ofR at h ⊢
 cases hf : L.nameTbl.find? fun e => e.2.2 == s with
 | none => rw [hf] at h; cases h
 | some e => exact ⟨e.2.1.1, e.2.1.2.1, e.2.1.2.2, rfl, nt_good e (List.mem_of_find?_eq_some hf)⟩
include hw in
theorem taken_loop {k o : Int} {u : Bool} (hk : (k = 1 ∧ 0 ≤ o ∧ o < 12 ∧ (u = true → o = 0 ∨ 8 ≤ o ∧ o ≤ 10)) ∨ ((k = 3 ∨ k = 4 ∨ k = 8 ∨ k = 9 ∨ k = 10) ∧ o = 0 ∧ u = false) ∨ (k = 5 ∧ 0 ≤ o ∧ o < 4 ∧ u = false) ∨ (k = 7 ∧ 0 ≤ o ∧ o < 16)) (p : Nat) {e : Int}
  (h : (loopR l o (odL k o).length (odL k o).length 0 (p, e, ⟨k, o, 0, 0, 0, u, [], []⟩)).2.1 = 0) : ∃ t, GoodS (loopR l o (odL k o).length (odL k o).length 0 (p, e, ⟨k, o, 0, 0, 0, u, [], []⟩)).2.2 t := by
 have hnil : ∀ {α : Type} {x : α} {i : Nat}, ([] : List α)[i]? = some x → False := fun h => by simp at h
 rcases hk with ⟨rfl, ho, ho2, hu⟩ | ⟨hk, rfl, rfl⟩ | ⟨rfl, ho, ho2, rfl⟩ | ⟨rfl, ho, ho2⟩
 ·by_cases h0 : o = 0
  ·subst h0
   have e1 : (odL 1 0).length = 2 := rfl
   rw [e1] at h ⊢
   simp only [loopR] at h ⊢
   generalize hr0 : stepR l 0 2 0 p e ⟨1, 0, 0, 0, 0, u, [], []⟩ = r0 at h ⊢
   generalize hr1 : stepR l 0 2 1 r0.1 r0.2.1 r0.2.2 = r1 at h ⊢
   have z0 : r0.2.1 = 0 := by rw [← hr1] at h; exact step_err h
   have ze : e = 0 := by rw [← hr0] at z0; exact step_err z0
   subst ze
   rw [sk_first (d := .A) (by decide) rfl] at hr0
   obtain ⟨a, ha, hs⟩ := rdA_ok (l := l) (p := p) (s := ⟨1, 0, 0, 0, 0, u, [], []⟩) (by rw [hr0]; exact z0)
   rw [hr0] at hs
   rw [z0, hs] at hr1
   obtain ⟨K, d, hK, hd, hst⟩ := sk_last (l := l) (op := 0) (many := 2) (i := 1) (p := r0.1) (s := ⟨1, 0, a, 0, 0, u, [], []⟩) (by decide) rfl (by show 1 < 2; decide) (by rw [hr1]; exact h)
   rw [hst] at hr1
   rcases chK_one (l := l) (p := r0.1 + 1) (s := ⟨1, 0, a, 0, 0, u, [], []⟩) rfl with c | ⟨c, hn⟩
   ·rw [hK] at c
    subst c
    obtain rfl : d = .E := by have hd : some Od.E = some d := hd; exact (Option.some.inj hd).symm
    obtain ⟨t, ht, hs2⟩ := rdE_ok hw (p := r0.1 + 1) (e := 0) (s := ⟨2, 0, a, 0, 0, u, [], []⟩) (by show (rd l (r0.1 + 1) 0 _ .E).2.1 = 0; rw [hr1]; exact h)
    have hs2 : (rd l (r0.1 + 1) 0 ⟨2, 0, a, 0, 0, u, [], []⟩ .E).2.2 = _ := hs2
    rw [hr1] at hs2
    rw [hs2]
    exact ⟨some t, .ins1 (.movi ha) (.inl rfl) ht⟩
   ·rw [hK] at c
    subst c
    obtain rfl : d = .C := by have hd : some Od.C = some d := hd; exact (Option.some.inj hd).symm
    obtain ⟨c, hc, hs2⟩ := rdC_ok (l := l) (p := r0.1 + 1) (e := 0) (s := ⟨1, 0, a, 0, 0, u, [], []⟩) (by rw [hr1]; exact h)
    rw [hr1] at hs2
    rw [hs2]
    have : u = false := by cases u; rfl; exact absurd ⟨rfl, rfl⟩ hn
    subst this
    exact ⟨none, .ins0 (.mov ha hc) (.inl rfl)⟩
  ·have hop : 0 < o := by omega
   have e1 : (odL 1 o).length = 3 := by rw [odL_reg hop]; rfl
   rw [e1] at h ⊢
   simp only [loopR] at h ⊢
   generalize hr0 : stepR l o 3 0 p e ⟨1, o, 0, 0, 0, u, [], []⟩ = r0 at h ⊢
   generalize hr1 : stepR l o 3 1 r0.1 r0.2.1 r0.2.2 = r1 at h ⊢
   generalize hr2 : stepR l o 3 2 r1.1 r1.2.1 r1.2.2 = r2 at h ⊢
   have z1 : r1.2.1 = 0 := by rw [← hr2] at h; exact step_err h
   have z0 : r0.2.1 = 0 := by rw [← hr1] at z1; exact step_err z1
   have ze : e = 0 := by rw [← hr0] at z0; exact step_err z0
   subst ze
   rw [sk_first (d := .A) (by decide) (by rw [odL_reg hop]; rfl)] at hr0
   obtain ⟨a, ha, hs⟩ := rdA_ok (l := l) (p := p) (s := ⟨1, o, 0, 0, 0, u, [], []⟩) (by rw [hr0]; exact z0)
   rw [hr0] at hs
   rw [z0, hs] at hr1
   rw [sk_mid (d := .B) (by decide) (by decide) (by rw [odL_reg hop]; rfl) (by rw [hr1]; exact z1)] at hr1
   obtain ⟨b, hb, hs1⟩ := rdB_ok (l := l) (p := r0.1 + 1) (s := ⟨1, o, a, 0, 0, u, [], []⟩) (by rw [hr1]; exact z1)
   rw [hr1] at hs1
   rw [z1, hs1] at hr2
   obtain ⟨K, d, hK, hd, hst⟩ := sk_last (l := l) (op := o) (many := 3) (i := 2) (p := r1.1) (s := ⟨1, o, a, b, 0, u, [], []⟩) (by decide) rfl (by show 2 < (odL 1 o).length; rw [e1]; decide) (by rw [hr2]; exact h)
   rw [hst] at hr2
   have hu' : u = true → 8 ≤ o ∧ o ≤ 10 := fun q => (hu q).resolve_left h0
   rcases chK_one (l := l) (p := r1.1 + 1) (s := ⟨1, o, a, b, 0, u, [], []⟩) rfl with c | ⟨c, hn⟩
   ·rw [hK] at c
    subst c
    rw [odL_imm hop] at hd
    obtain rfl : d = .E := by have hd : some Od.E = some d := hd; exact (Option.some.inj hd).symm
    obtain ⟨t, ht, hs2⟩ := rdE_ok hw (p := r1.1 + 1) (e := 0) (s := ⟨2, o, a, b, 0, u, [], []⟩) (by show (rd l (r1.1 + 1) 0 _ .E).2.1 = 0; rw [hr2]; exact h)
    have hs2 : (rd l (r1.1 + 1) 0 ⟨2, o, a, b, 0, u, [], []⟩ .E).2.2 = _ := hs2
    rw [hr2] at hs2
    rw [hs2]
    exact ⟨some t, .ins1 (.imm hop ho2 ha hb hu') (.inl rfl) ht⟩
   ·rw [hK] at c
    subst c
    rw [odL_reg hop] at hd
    obtain rfl : d = .C := by have hd : some Od.C = some d := hd; exact (Option.some.inj hd).symm
    obtain ⟨c, hc, hs2⟩ := rdC_ok (l := l) (p := r1.1 + 1) (e := 0) (s := ⟨1, o, a, b, 0, u, [], []⟩) (by rw [hr2]; exact h)
    rw [hr2] at hs2
    rw [hs2]
    exact ⟨none, .ins0 (.reg hop ho2 ha hb hc hu') (.inl rfl)⟩
 ·rcases hk with rfl | rfl | rfl | rfl | rfl
  ·have e1 : (odL 3 0).length = 1 := rfl
   rw [e1] at h ⊢
   simp only [loopR] at h ⊢
   have ze : e = 0 := step_err h
   subst ze
   obtain ⟨K, d, hK, hd, hst⟩ := sk_only (l := l) (op := 0) (p := p) (s := ⟨3, 0, 0, 0, 0, false, [], []⟩) (by show 0 < 1; decide)
   rw [chK_self (show (3 : Int) ≠ 1 by decide) (show (3 : Int) ≠ 7 by decide)] at hK
   have hK : 3 = K := hK
   subst hK
   obtain rfl : d = .A := by have hd : some Od.A = some d := hd; exact (Option.some.inj hd).symm
   rw [hst] at h ⊢
   obtain ⟨a, ha, hs⟩ := rdA_ok h
   rw [hs]
   exact ⟨none, .ins0 (.hi ha) (.inr (.inl rfl))⟩
  ·have e1 : (odL 4 0).length = 1 := rfl
   rw [e1] at h ⊢
   simp only [loopR] at h ⊢
   have ze : e = 0 := step_err h
   subst ze
   obtain ⟨K, d, hK, hd, hst⟩ := sk_only (l := l) (op := 0) (p := p) (s := ⟨4, 0, 0, 0, 0, false, [], []⟩) (by show 0 < 1; decide)
   rw [chK_self (show (4 : Int) ≠ 1 by decide) (show (4 : Int) ≠ 7 by decide)] at hK
   have hK : 4 = K := hK
   subst hK
   obtain rfl : d = .A := by have hd : some Od.A = some d := hd; exact (Option.some.inj hd).symm
   rw [hst] at h ⊢
   obtain ⟨a, ha, hs⟩ := rdA_ok h
   rw [hs]
   exact ⟨none, .ins0 (.fl ha) (.inr (.inr (.inl rfl)))⟩
  ·have e1 : (odL 8 0).length = 2 := rfl
   rw [e1] at h ⊢
   simp only [loopR] at h ⊢
   generalize hr0 : stepR l 0 2 0 p e ⟨8, 0, 0, 0, 0, false, [], []⟩ = r0 at h ⊢
   generalize hr1 : stepR l 0 2 1 r0.1 r0.2.1 r0.2.2 = r1 at h ⊢
   have z0 : r0.2.1 = 0 := by rw [← hr1] at h; exact step_err h
   have ze : e = 0 := by rw [← hr0] at z0; exact step_err z0
   subst ze
   rw [sk_first (d := .A) (by decide) rfl] at hr0
   obtain ⟨a, ha, hs⟩ := rdA_ok (l := l) (p := p) (s := ⟨8, 0, 0, 0, 0, false, [], []⟩) (by rw [hr0]; exact z0)
   rw [hr0] at hs
   rw [z0, hs] at hr1
   obtain ⟨K, d, hK, hd, hst⟩ := sk_last (l := l) (op := 0) (many := 2) (i := 1) (p := r0.1) (s := ⟨8, 0, a, 0, 0, false, [], []⟩) (by decide) rfl (by show 1 < 2; decide) (by rw [hr1]; exact h)
   rw [hst] at hr1
   rw [chK_self (show (8 : Int) ≠ 1 by decide) (show (8 : Int) ≠ 7 by decide)] at hK
   have hK : 8 = K := hK
   subst hK
   obtain rfl : d = .Q := by have hd : some Od.Q = some d := hd; exact (Option.some.inj hd).symm
   obtain ⟨t, ht, hs2⟩ := rdE_ok hw (p := r0.1 + 1 + 1) (e := chk (decide (pk 3 l (r0.1 + 1) 0 = [61])) 0) (s := ⟨8, 0, a, 0, 0, false, [], []⟩) (by show (rd l (r0.1 + 1) 0 _ .Q).2.1 = 0; rw [hr1]; exact h)
   have hs2 : (rd l (r0.1 + 1) 0 ⟨8, 0, a, 0, 0, false, [], []⟩ .Q).2.2 = _ := hs2
   rw [hr1] at hs2
   rw [hs2]
   exact ⟨some t, .load ha ht⟩
  ·have e1 : (odL 9 0).length = 1 := rfl
   rw [e1] at h ⊢
   simp only [loopR] at h ⊢
   have ze : e = 0 := step_err h
   subst ze
   obtain ⟨K, d, hK, hd, hst⟩ := sk_only (l := l) (op := 0) (p := p) (s := ⟨9, 0, 0, 0, 0, false, [], []⟩) (by show 0 < 1; decide)
   rw [chK_self (show (9 : Int) ≠ 1 by decide) (show (9 : Int) ≠ 7 by decide)] at hK
   have hK : 9 = K := hK
   subst hK
   obtain rfl : d = .E := by have hd : some Od.E = some d := hd; exact (Option.some.inj hd).symm
   rw [hst] at h ⊢
   obtain ⟨t, ht, hs⟩ := rdE_ok hw (p := p) (e := 0) (s := ⟨9, 0, 0, 0, 0, false, [], []⟩) h
   have hs : (rd l p 0 ⟨9, 0, 0, 0, 0, false, [], []⟩ .E).2.2 = _ := hs
   rw [hs]
   exact ⟨some t, .word ht⟩
  ·have e1 : (odL 10 0).length = 1 := rfl
   rw [e1] at h ⊢
   simp only [loopR] at h ⊢
   have ze : e = 0 := step_err h
   subst ze
   obtain ⟨K, d, hK, hd, hst⟩ := sk_only (l := l) (op := 0) (p := p) (s := ⟨10, 0, 0, 0, 0, false, [], []⟩) (by show 0 < 1; decide)
   rw [chK_self (show (10 : Int) ≠ 1 by decide) (show (10 : Int) ≠ 7 by decide)] at hK
   have hK : 10 = K := hK
   subst hK
   obtain rfl : d = .N := by have hd : some Od.N = some d := hd; exact (Option.some.inj hd).symm
   rw [hst] at h ⊢
   obtain ⟨a, ha, hs⟩ := rdN_ok h
   rw [hs]
   exact ⟨none, .exp ha⟩
 ·have e1 : (odL 5 o).length = 3 := rfl
  rw [e1] at h ⊢
  simp only [loopR] at h ⊢
  generalize hr0 : stepR l o 3 0 p e ⟨5, o, 0, 0, 0, false, [], []⟩ = r0 at h ⊢
  generalize hr1 : stepR l o 3 1 r0.1 r0.2.1 r0.2.2 = r1 at h ⊢
  generalize hr2 : stepR l o 3 2 r1.1 r1.2.1 r1.2.2 = r2 at h ⊢
  have z1 : r1.2.1 = 0 := by rw [← hr2] at h; exact step_err h
  have z0 : r0.2.1 = 0 := by rw [← hr1] at z1; exact step_err z1
  have ze : e = 0 := by rw [← hr0] at z0; exact step_err z0
  subst ze
  rw [sk_first (d := .A) (by decide) rfl] at hr0
  obtain ⟨a, ha, hs⟩ := rdA_ok (l := l) (p := p) (s := ⟨5, o, 0, 0, 0, false, [], []⟩) (by rw [hr0]; exact z0)
  rw [hr0] at hs
  rw [z0, hs] at hr1
  rw [sk_mid (d := .B) (by decide) (by decide) rfl (by rw [hr1]; exact z1)] at hr1
  obtain ⟨b, hb, hs1⟩ := rdB_ok (l := l) (p := r0.1 + 1) (s := ⟨5, o, a, 0, 0, false, [], []⟩) (by rw [hr1]; exact z1)
  rw [hr1] at hs1
  rw [z1, hs1] at hr2
  obtain ⟨K, d, hK, hd, hst⟩ := sk_last (l := l) (op := o) (many := 3) (i := 2) (p := r1.1) (s := ⟨5, o, a, b, 0, false, [], []⟩) (by decide) rfl (by show 2 < (odL 5 o).length; rw [e1]; decide) (by rw [hr2]; exact h)
  rw [hst] at hr2
  rw [chK_self (show (5 : Int) ≠ 1 by decide) (show (5 : Int) ≠ 7 by decide)] at hK
  have hK : 5 = K := hK
  subst hK
  obtain rfl : d = .E := by have hd : some Od.E = some d := hd; exact (Option.some.inj hd).symm
  obtain ⟨t, ht, hs2⟩ := rdE_ok hw (p := r1.1 + 1) (e := 0) (s := ⟨5, o, a, b, 0, false, [], []⟩) (by show (rd l (r1.1 + 1) 0 _ .E).2.1 = 0; rw [hr2]; exact h)
  have hs2 : (rd l (r1.1 + 1) 0 ⟨5, o, a, b, 0, false, [], []⟩ .E).2.2 = _ := hs2
  rw [hr2] at hs2
  rw [hs2]
  exact ⟨some t, .ins1 (.mem ho ho2 ha hb) (.inr (.inl rfl)) ht⟩
 ·have e1 : (odL 7 o).length = 1 := rfl
  rw [e1] at h ⊢
  simp only [loopR] at h ⊢
  have ze : e = 0 := step_err h
  subst ze
  obtain ⟨K, d, hK, hd, hst⟩ := sk_only (l := l) (op := o) (p := p) (s := ⟨7, o, 0, 0, 0, u, [], []⟩) (by show 0 < 1; decide)
  rw [hst] at h ⊢
  rcases chK_seven (l := l) (p := p) (s := ⟨7, o, 0, 0, 0, u, [], []⟩) rfl with c | c
  ·rw [hK] at c
   subst c
   obtain rfl : d = .C := by have hd : some Od.C = some d := hd; exact (Option.some.inj hd).symm
   obtain ⟨c, hc, hs⟩ := rdC_ok h
   rw [hs]
   exact ⟨none, .ins0 (.br ⟨ho, ho2⟩ hc) (.inr (.inr (.inr rfl)))⟩
  ·rw [hK] at c
   subst c
   obtain rfl : d = .E := by have hd : some Od.E = some d := hd; exact (Option.some.inj hd).symm
   obtain ⟨t, ht, hs⟩ := rdE_ok hw (p := p) (e := 0) (s := ⟨7, o, 0, 0, 0, u, [], []⟩) h
   have hs : (rd l p 0 ⟨7, o, 0, 0, 0, u, [], []⟩ .E).2.2 = _ := hs
   rw [hs]
   exact ⟨some t, .ins1 (.jmp ⟨ho, ho2⟩) (.inr (.inr rfl)) ht⟩
end
end Rv
namespace Rv
open Go
abbrev wfT (l : List TokL) : Prop := ∀ t ∈ l, 0 ≤ t.2.2.2.1 ∧ t.2.2.2.1 ≤ 4294967295
def cutT (t : TokL) : TokL := (t.1, t.2.1, t.2.2.1.take 20, t.2.2.2.1, ())
theorem short_loop (l : List TokL) (hl : ∀ t ∈ l, t.2.2.1.length ≤ 9223372036854775807) (n : Nat) : ∀ (m i : Nat) (out : List TokL), i ≤ l.length → i ≤ 40 → 41 - i < m → out.length = i →
  rivetlaw17_short.l3 n m l out (i : Int) = some (out ++ (((l.take 40).drop i).map cutT), ()) := by
 intro m
 induction m with
 | zero => intro i out _ h40 h; omega
 | succ m ih =>
  intro i out hi h40 hm ho
  rw [rivetlaw17_short.l3]
  simp only [dt, Int.toNat_natCast]
  by_cases h : i < l.length ∧ i < 40
  ·obtain ⟨h1, h2⟩ := h
   have hd : (l.take 40).drop i = l.getD i dTok :: (l.take 40).drop (i + 1) := by
    rw [List.drop_eq_getElem_cons (by simp; omega), List.getD_eq_getElem?_getD, List.getElem?_eq_getElem h1]; simp
   have hmem := hl _ (getD_memT h1)
   rw [if_pos (by omega), if_pos (by omega), if_pos (by omega), hd]
   generalize l.getD i dTok = t at hmem
   have hmn : mn (t.2.2.1.length : Int) 20 = ((min t.2.2.1.length 20 : Nat) : Int) := by unfold mn; split <;> omega
   rw [hmn, if_pos (by omega), Int.toNat_natCast, List.drop_zero, if_pos (by simp; omega), w64 (by omega), show (i : Int) + 1 = ((i + 1 : Nat) : Int) by omega]
   have hcut : t.2.2.1.take (min t.2.2.1.length 20) = t.2.2.1.take 20 := by
    rcases Nat.le_total t.2.2.1.length 20 with h | h
    ·rw [Nat.min_eq_left h, List.take_length, List.take_of_length_le h]
    ·rw [Nat.min_eq_right h]
   rw [hcut, ih (i + 1) _ (by omega) (by omega) (by omega) (by simp [ho]), List.map_cons, List.append_assoc]
   rfl
  ·have he : (l.take 40).drop i = [] := List.drop_eq_nil_of_le (by simp; omega)
   rw [he]
   by_cases h1 : i < l.length
   ·rw [if_pos (by omega), if_neg (by omega)]; simp
   ·rw [if_neg (by omega)]; simp
theorem short_eq (l : List TokL) (hl : ∀ t ∈ l, t.2.2.1.length ≤ 9223372036854775807) : rivetlaw17_short.g l = some ((l.take 40).map cutT, ()) := by
 unfold rivetlaw17_short.g rivetlaw17_short.f
 have := short_loop l hl (1000 + l.length) (1000 + l.length) 0 [] (by omega) (by omega) (by omega) rfl
 rw [show ((0 : Nat) : Int) = 0 from rfl, List.drop_zero, List.nil_append] at this
 exact this
theorem fin_taken {l : List TokL} {lb : Str} {r : Nat × Int × Sm} (he : okErr r.2.1) : (∃ e, (e = 22 ∨ e = 23 ∨ e = 24) ∧ finR l lb r = noP e) ∨ (r.2.1 = 0 ∧ finR l lb r = smP lb r.2.2) := by
 unfold finR outR
 have h := okErr_chk (b := decide (l.length ≤ r.1)) he
 generalize hx : chk (decide (l.length ≤ r.1)) r.2.1 = e' at h
 by_cases h0 : e' = 0
 ·subst h0
  rw [if_neg (by decide)]
  exact .inr ⟨(chk_zero hx).1, rfl⟩
 ·rw [if_pos h0]
  exact .inl ⟨e', h.resolve_left h0, rfl⟩
theorem head_taken {l : List TokL} (hw : wfT l) {lb : Str} {p : Nat} {e : Int} (he : e = 0 ∨ e = 22) : (∃ x, (x = 22 ∨ x = 23 ∨ x = 24) ∧ headR l lb p e = noP x) ∨ (e = 0 ∧ ∃ s t, GoodS s t ∧ headR l lb p e = smP lb s) := by
 unfold headR
 by_cases h : e = 0 ∧ p < l.length
 ·rw [if_pos h]
  obtain ⟨rfl, hp⟩ := h
  dsimp only
  generalize l.getD p dTok = t
  by_cases hf : (L.ofR t.2.2.1).2.2.2.1 = true
  ·obtain ⟨k, o, u, e1, hk⟩ := of_found hf
   rw [e1]
   dsimp only
   generalize hq : chk (true && (decide (t.1 = 4) == decide (k = 9 ∨ k = 10)) && (decide (t.1 = 4) || decide (t.1 = 1))) 0 = q
   have hqe : okErr q := by rw [← hq]; exact okErr_chk (.inl rfl)
   rcases fin_taken (l := l) (lb := lb) (loop_ok (l := l) (op := o) (many := (odL k o).length) (odL k o).length 0 (p + 1, q, ⟨k, o, 0, 0, 0, u, [], []⟩) hqe) with h | ⟨h1, h2⟩
   ·exact .inl h
   ·obtain ⟨t', ht⟩ := taken_loop hw hk (p + 1) h1
    exact .inr ⟨rfl, _, t', ht, h2⟩
  ·have hf : (L.ofR t.2.2.1).2.2.2.1 = false := by simpa using hf
   rw [hf]
   have hq : chk (false && (decide (t.1 = 4) == decide ((L.ofR t.2.2.1).1 = 9 ∨ (L.ofR t.2.2.1).1 = 10)) && (decide (t.1 = 4) || decide (t.1 = 1))) 0 = 22 := rfl
   rw [hq]
   rcases fin_taken (l := l) (lb := lb) (loop_ok (l := l) (op := (L.ofR t.2.2.1).2.1) (many := (odL (L.ofR t.2.2.1).1 (L.ofR t.2.2.1).2.1).length) (odL (L.ofR t.2.2.1).1 (L.ofR t.2.2.1).2.1).length 0 (p + 1, 22, ⟨(L.ofR t.2.2.1).1, (L.ofR t.2.2.1).2.1, 0, 0, 0, (L.ofR t.2.2.1).2.2.1, [], []⟩) (.inr (.inl rfl))) with h | ⟨h1, _⟩
   ·exact .inl h
   ·exfalso
    have sticky : ∀ (m i : Nat) (r : Nat × Int × Sm) (op : Int) (many : Nat), (loopR l op many m i r).2.1 = 0 → r.2.1 = 0 := by
     intro m
     induction m with
     | zero => intro i r op many h; exact h
     | succ m ih => intro i r op many h; exact step_err (ih (i + 1) _ op many h)
    have h9 : (22 : Int) = 0 := sticky _ _ _ _ _ h1
    exact absurd h9 (by decide)
 ·rw [if_neg h]
  unfold outR
  rcases he with rfl | rfl
  ·rw [if_neg (by decide)]; exact .inr ⟨rfl, _, _, .none, rfl⟩
  ·rw [if_pos (by decide)]; exact .inl ⟨22, .inl rfl, rfl⟩
theorem parse_taken {l : List TokL} (hw : wfT l) : (∃ e, (e = 22 ∨ e = 23 ∨ e = 24) ∧ parseS l = noP e) ∨ (∃ lb s t, (lb = [] ∨ labelOk lb = true) ∧ GoodS s t ∧ parseS l = smP lb s) := by
 unfold parseS
 split
 ·cases hL : labelOk (l.getD 0 dTok).2.2.1 with
  | true =>
   rcases head_taken hw (lb := (l.getD 0 dTok).2.2.1) (p := 2) (e := chk true 0) (.inl rfl) with h | ⟨_, s, t, h1, h2⟩
   ·exact .inl h
   ·exact .inr ⟨_, s, t, .inr hL, h1, h2⟩
  | false =>
   rcases head_taken hw (lb := (l.getD 0 dTok).2.2.1) (p := 2) (e := chk false 0) (.inr rfl) with h | ⟨h, _⟩
   ·exact .inl h
   ·exact absurd h (by decide)
 ·rcases head_taken hw (lb := []) (p := 0) (e := 0) (.inl rfl) with h | ⟨_, s, t, h1, h2⟩
  ·exact .inl h
  ·exact .inr ⟨_, s, t, .inl rfl, h1, h2⟩
theorem taken_law (l : List TokL) (hl : ∀ t ∈ l, t.2.2.1.length ≤ 9223372036854775807) (hw : wfT l) : rivetlaw17_StmtTaken.g l = some (true, ()) := by
 unfold rivetlaw17_StmtTaken.g rivetlaw17_StmtTaken.f
 rw [shown17, Option.bind_some, short_eq l hl, Option.bind_some]
 dsimp only
 have h1 : ((l.take 40).map cutT).length ≤ 1000000 := by simp; omega
 have h2 : ∀ t ∈ (l.take 40).map cutT, t.2.2.1.length ≤ 1000000 := fun t ht => by
  obtain ⟨t', _, rfl⟩ := List.mem_map.1 ht
  show (t'.2.2.1.take 20).length ≤ 1000000
  rw [List.length_take]; omega
 have h3 : wfT ((l.take 40).map cutT) := fun t ht => by
  obtain ⟨t', ht', rfl⟩ := List.mem_map.1 ht
  exact hw t' (List.mem_of_mem_take ht')
 rw [parse_eq' h1 h2, Option.bind_some]
 rcases parse_taken h3 with ⟨e, he, hp⟩ | ⟨lb, s, t, hlb, hg, hp⟩
 ·rw [hp]
  unfold noP
  dsimp only
  have h0 : e ≠ 0 := by rcases he with rfl | rfl | rfl <;> decide
  have hs := same_refl ⟨0, 0, 0, 0, 0, false, [], []⟩ (by simp)
  dsimp only at hs
  rw [if_pos (by simpa using h0), if_pos rfl, if_pos (show decide (([] : Str) = []) = true from rfl), hs, Option.bind_some]
  rcases he with rfl | rfl | rfl <;> rfl
 ·rw [hp]
  unfold smP
  dsimp only
  obtain ⟨ts, hb, hts, hsc, g1, g2⟩ := text_good hg hlb
  have hpr : stmt_Print.g lb s.k s.o s.a s.b s.c s.u s.e s.nm = some (ltx lb s t, 0, ()) := print_good hg hlb
  have hm : stmt_May.g s.k s.o s.a s.b s.c s.u s.e s.nm = some (true, ()) := may_good hg
  rw [if_neg (show ¬ decide ((0 : Int) ≠ 0) = true by decide), hpr, Option.bind_some]
  dsimp only
  rw [hsc, Option.bind_some]
  dsimp only
  by_cases hd : deepOk t
  ·rw [g1 hd, Option.bind_some]
   unfold smP
   dsimp only
   rw [if_pos (show true = true from rfl), hm, Option.bind_some]
   dsimp only
   rw [if_pos (show true = true from rfl), if_pos (show decide ((0 : Int) = 0) = true from rfl), if_pos (show decide ((0 : Int) = 0) = true from rfl), if_pos (show decide ((0 : Int) = 24) = false from rfl), if_pos (show decide ((0 : Int) = 0) = true from rfl), if_pos (by simp), same_refl s (by have := (good_elen hg).1; omega), Option.bind_some]
  ·rw [g2 hd, Option.bind_some, hm]
   rfl
theorem taken_wf {l : List TokL} (h : (l.length ≤ maxLen ∧ ∀ x ∈ l, (Lit.int .i64 x.1).wf = true ∧ (Lit.int .i64 x.2.1).wf = true ∧ x.2.2.1.length ≤ maxLen ∧ (Lit.int .u32 x.2.2.2.1).wf = true ∧ True) ∧ True) : rivetlaw17_StmtTaken.g l = some (true, ()) :=
 taken_law l (fun t ht => wfLen (h.1.2 t ht).2.2.1) (fun t ht => wfU32 (h.1.2 t ht).2.2.2.1)
end Rv
