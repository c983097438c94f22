/- The parser takes a tree's tokens for its items. -/
import Derived.Test.YtchahhlcmabmaaaDoorPParse
set_option linter.all false
namespace Rv
open Go

theorem fail_err (x : Int) (l : List TokL) (p : Int) (out : List Item) (e : Int) (he : e ≠ 0) : expr_parser_fail.g x l p out e = some (l, p, out, e, ()) := by
  unfold expr_parser_fail.g expr_parser_fail.f
  rw [if_neg (by simpa using he)]

theorem l52_err (n : Nat) (r : Rec_expr_parser_sum) (m : Nat) (l : List TokL) (p : Int) (out : List Item) (e d : Int) (he : e ≠ 0) : expr_parser_row_c52.l1 n r (m + 1) sMul l p out e d = some (l, p, out, e, (), d, ()) := by
  rw [expr_parser_row_c52.l1, sign_err sMul (by simp) l p out e he, Option.bind_some]
  rfl

theorem l51_err (n : Nat) (r : Rec_expr_parser_sum) (m : Nat) (l : List TokL) (p : Int) (out : List Item) (e d : Int) (he : e ≠ 0) : expr_parser_row_c51.l1 n r (m + 1) sAdd l p out e d = some (l, p, out, e, (), d, ()) := by
  rw [expr_parser_row_c51.l1, sign_err sAdd (by simp) l p out e he, Option.bind_some]
  rfl

theorem l52_exit (n : Nat) (r : Rec_expr_parser_sum) (m : Nat) {l : List TokL} {p : Nat} {k : List Bt} (h : At l p k) (hs : noS sMul k) (out : List Item) (d : Int) : expr_parser_row_c52.l1 n r (m + 1) sMul l p out 0 d = some (l, (p : Int), out, 0, (), d, ()) := by
  rw [expr_parser_row_c52.l1, sign_no sMul (by simp) h hs out, Option.bind_some]
  rfl

theorem l51_exit (n : Nat) (r : Rec_expr_parser_sum) (m : Nat) {l : List TokL} {p : Nat} {k : List Bt} (h : At l p k) (hs : noS sAdd k) (out : List Item) (d : Int) : expr_parser_row_c51.l1 n r (m + 1) sAdd l p out 0 d = some (l, (p : Int), out, 0, (), d, ()) := by
  rw [expr_parser_row_c51.l1, sign_no sAdd (by simp) h hs out, Option.bind_some]
  rfl

theorem F_deep (q : Nat) (l : List TokL) (p : Int) (out : List Item) : (R (q + 1)).expr_parser_factor 9 l p out 0 = some (l, p, out, 24, ()) := by
  show expr_parser_factor.h (R q) 9 l p out 0 = _
  unfold expr_parser_factor.h expr_parser_factor.f
  rw [if_neg (by decide), if_pos (by decide), fail_eq, Option.bind_some]

theorem F_intro {t : Tr} (H : ∀ (l : List TokL) (p : Nat) (out : List Item) (rest : List Bt) (d q : Nat), l.length ≤ 1000000 → out.length + t.post.length ≤ 1000000 → At l p (t.toksA 2 ++ rest) → d ≤ 8 → 6 * (9 - d) ≤ q →
    (d + t.depA 2 ≤ 8 → expr_parser_factor.h (R q) (d : Int) l p out 0 = some (l, ((p + (t.toksA 2).length : Nat) : Int), out ++ t.post, 0, ())) ∧
    (¬ d + t.depA 2 ≤ 8 → ∃ (p' : Int) (out' : List Item), expr_parser_factor.h (R q) (d : Int) l p out 0 = some (l, p', out', 24, ()) ∧ out'.length ≤ out.length + t.post.length)) : okF t := by
  intro l p out rest d q hl ho hat hd hq
  obtain ⟨q, rfl⟩ : ∃ q', q = q' + 1 := ⟨q - 1, by omega⟩
  by_cases h9 : d = 9
  · subst h9
    refine ⟨fun h => absurd h (by omega), fun _ => ⟨(p : Int), out, F_deep q l p out, by omega⟩⟩
  · exact H l p out rest d q hl ho hat (by omega) (by omega)

theorem noS_kind {all : List Str} {b : Bt} {r : List Bt} (h : b.1 ≠ 3) : noS all (b :: r) := fun b' r' e h' => by cases e; exact h h'.1
theorem noS_text {all : List Str} {b : Bt} {r : List Bt} (h : b.2.1 ∉ all) : noS all (b :: r) := fun b' r' e h' => by cases e; exact h h'.2

theorem F_num (n : Int) : okF (.num n) := F_intro fun l p out rest d q hl ho hat hd hq => by
  have hat : At l p ((2, Lib.itoa n, n) :: rest) := hat
  obtain ⟨h1, h2, _⟩ := At.cons hat
  simp only [bare, Prod.mk.injEq] at h2
  refine ⟨fun _ => ?_, fun h => absurd (show d + (Tr.num n).depA 2 ≤ 8 from hd) h⟩
  unfold expr_parser_factor.h expr_parser_factor.f
  rw [if_neg (by decide), if_neg (by simp; omega), sign_no [[45], [40]] (by simp) hat (noS_kind (show (2 : Int) ≠ 3 by decide)) out, Option.bind_some]
  dsimp only
  rw [if_neg (show ¬ decide (([] : Str) = [45]) = true by decide), if_neg (show ¬ decide (([] : Str) = [40]) = true by decide), next_at l p out h1, Option.bind_some]
  dsimp only
  rw [if_pos rfl, if_pos (by rw [h2.1]; decide), h2.2.2, put_eq _ _ _ _ _ _ _ (by omega), Option.bind_some]
  unfold expr_parser_factor.j19
  dsimp only
  rw [w64 (by omega)]
  rfl

theorem F_nam {s : Str} (hs : labelOk s = true) : okF (.nam s) := F_intro fun l p out rest d q hl ho hat hd hq => by
  have hat : At l p ((1, s, 0) :: rest) := hat
  obtain ⟨h1, h2, _⟩ := At.cons hat
  simp only [bare, Prod.mk.injEq] at h2
  refine ⟨fun _ => ?_, fun h => absurd (show d + (Tr.nam s).depA 2 ≤ 8 from hd) h⟩
  unfold expr_parser_factor.h expr_parser_factor.f
  rw [if_neg (by decide), if_neg (by simp; omega), sign_no [[45], [40]] (by simp) hat (noS_kind (show (1 : Int) ≠ 3 by decide)) out, Option.bind_some]
  dsimp only
  rw [if_neg (show ¬ decide (([] : Str) = [45]) = true by decide), if_neg (show ¬ decide (([] : Str) = [40]) = true by decide), next_at l p out h1, Option.bind_some]
  dsimp only
  rw [if_pos rfl, if_neg (by rw [h2.1]; decide), if_pos rfl, if_pos (by rw [h2.1]; decide), h2.2.1, label_eq, hs, Option.bind_some]
  dsimp only
  rw [if_pos rfl, put_eq _ _ _ _ _ _ _ (by omega), Option.bind_some]
  unfold expr_parser_factor.j19
  dsimp only
  rw [w64 (by omega)]
  rfl

theorem F_neg {x : Tr} (hx : okF x) : okF (.neg x) := F_intro fun l p out rest d q hl ho hat hd hq => by
  have hat : At l p (tNeg :: (x.toksA 2 ++ rest)) := by
    have e : (Tr.neg x).toksA 2 ++ rest = tNeg :: (x.toksA 2 ++ rest) := rfl
    rw [e] at hat; exact hat
  obtain ⟨h1, _, hat2⟩ := At.cons hat
  have hpost : (Tr.neg x).post = x.post ++ [(3, 0, [], ())] := rfl
  have hdep : (Tr.neg x).depA 2 = 1 + x.depA 2 := rfl
  have htl : ((Tr.neg x).toksA 2).length = 1 + (x.toksA 2).length := by
    show (tNeg :: x.toksA 2).length = _
    rw [List.length_cons, Nat.add_comm]
  rw [hpost] at ho
  simp only [List.length_append, List.length_cons, List.length_nil] at ho
  obtain ⟨g1, g2⟩ := hx l (p + 1) out rest (d + 1) q hl (by omega) hat2 (by omega) (by omega)
  rw [hdep, htl, hpost]
  unfold expr_parser_factor.h expr_parser_factor.f
  rw [if_neg (by decide), if_neg (by simp; omega), sign_yes [[45], [40]] (by simp) hat hl (by simp) out, Option.bind_some]
  dsimp only
  rw [if_pos (show decide (([45] : Str) = [45]) = true by decide), w64 (by omega), show (d : Int) + 1 = ((d + 1 : Nat) : Int) by omega]
  constructor
  · intro h
    rw [g1 (by omega), Option.bind_some]
    dsimp only
    rw [put_eq _ _ _ _ _ _ _ (by simp; omega), Option.bind_some]
    dsimp only
    rw [List.append_assoc, Nat.add_assoc]
  · intro h
    obtain ⟨p', out', g3, g4⟩ := g2 (by omega)
    rw [g3, Option.bind_some]
    dsimp only
    rw [put_eq _ _ _ _ _ _ _ (by omega), Option.bind_some]
    exact ⟨p', _, rfl, by simp; omega⟩

theorem brk_len (b : Bool) (l : List Bt) : l.length ≤ (brk b l).length := by unfold brk; split <;> simp <;> omega

theorem mc_toks : ∀ t : Tr, mc t ≤ t.toks.length
  | .num _ => Nat.zero_le _
  | .nam _ => Nat.zero_le _
  | .neg _ => Nat.zero_le _
  | .bin .mul a b => by
    have h1 := mc_toks a
    have h2 := brk_len (decide (a.tight < Opr.mul.tight)) a.toks
    simp only [mc, Tr.toks, List.length_append, List.length_cons]; omega
  | .bin .add _ _ => Nat.zero_le _
  | .bin .sub _ _ => Nat.zero_le _
  | .br _ => Nat.zero_le _

theorem ac_toks : ∀ t : Tr, ac t ≤ t.toks.length
  | .num _ => Nat.zero_le _
  | .nam _ => Nat.zero_le _
  | .neg _ => Nat.zero_le _
  | .bin .mul _ _ => Nat.zero_le _
  | .bin .add a b => by
    have h1 := ac_toks a
    have h2 := brk_len (decide (a.tight < Opr.add.tight)) a.toks
    simp only [ac, Tr.toks, List.length_append, List.length_cons]; omega
  | .bin .sub a b => by
    have h1 := ac_toks a
    have h2 := brk_len (decide (a.tight < Opr.sub.tight)) a.toks
    simp only [ac, Tr.toks, List.length_append, List.length_cons]; omega
  | .br _ => Nat.zero_le _

theorem toks_ne (t : Tr) : t.toks ≠ [] := by cases t <;> simp [Tr.toks]
theorem toksA_ne (lv : Nat) (t : Tr) : t.toksA lv ≠ [] := by
  intro h
  have h1 := brk_len (decide (t.tight < lv)) t.toks
  have h2 : (t.toksA lv).length = 0 := by rw [h]; rfl
  have h3 : t.toks.length ≠ 0 := fun h => toks_ne t (List.length_eq_zero_iff.1 h)
  unfold Tr.toksA at h2
  omega

/-- A term, whole. -/
theorem W_of_T {t : Tr} (hT : okT t) (l : List TokL) (p : Nat) (out : List Item) (rest : List Bt) (d q : Nat) (hl : l.length ≤ 1000000) (ho : out.length + t.post.length ≤ 1000000) (hat : At l p (t.toksA 1 ++ rest)) (hr : noS sMul rest) (hd : d ≤ 9) (hq : 6 * (9 - d) + 4 ≤ q) :
    (d + t.depA 1 ≤ 8 → (R q).expr_parser_sum_1 (d : Int) l p out 0 = some ((), (d : Int), l, ((p + (t.toksA 1).length : Nat) : Int), out ++ t.post, 0, ())) ∧
    (¬ d + t.depA 1 ≤ 8 → ∃ (p' : Int) (out' : List Item), (R q).expr_parser_sum_1 (d : Int) l p out 0 = some ((), (d : Int), l, p', out', 24, ()) ∧ out'.length ≤ out.length + t.post.length) := by
  obtain ⟨q, rfl⟩ : ∃ q', q = q' + 2 := ⟨q - 2, by omega⟩
  have hmc := mc_le t
  show (_ → expr_parser_sum_1.h (R (q + 1)) d l p out 0 = _) ∧ (_ → ∃ p' out', expr_parser_sum_1.h (R (q + 1)) d l p out 0 = _ ∧ _)
  unfold expr_parser_sum_1.h expr_parser_sum_1.f
  have e : (R (q + 1)).expr_parser_row_c52 sMul l (p : Int) out 0 (d : Int) = expr_parser_row_c52.h (R q) sMul l (p : Int) out 0 (d : Int) := rfl
  rw [e]
  unfold expr_parser_row_c52.h expr_parser_row_c52.f
  have hN : ∃ N, 1000 + sMul.length + l.length + (p : Int).toNat + out.length + (0 : Int).toNat + (d : Int).toNat = N := ⟨_, rfl⟩
  obtain ⟨N, hN⟩ := hN
  rw [hN]
  have hlen := At.len hat (toksA_ne 1 t)
  have h1 := mc_toks t
  have h2 := brk_len (decide (t.tight < 1)) t.toks
  have hbig : mc t < N := by unfold Tr.toksA at hlen; omega
  obtain ⟨g1, g2⟩ := hT l p out rest d q N N hl ho hat hd (by omega) hbig
  constructor
  · intro h
    rw [g1 h]
    obtain ⟨m, hm⟩ : ∃ m, N - mc t = m + 1 := ⟨N - mc t - 1, by omega⟩
    rw [hm, l52_exit N (R q) m (At.app' hat) hr, Option.bind_some]
  · intro h
    obtain ⟨p', out', g3, g4⟩ := g2 h
    rw [g3, Option.bind_some]
    exact ⟨p', out', rfl, g4⟩

/-- A term that is one factor. -/
theorem T_of_F {t : Tr} (hF : okF t) (hA : t.toksA 1 = t.toksA 2) (hD : t.depA 1 = t.depA 2) (hm0 : mc t = 0) : okT t := by
  intro l p out rest d q m n hl ho hat hd hq hm
  obtain ⟨q, rfl⟩ : ∃ q', q = q' + 1 := ⟨q - 1, by omega⟩
  rw [hA] at hat
  obtain ⟨g1, g2⟩ := hF l p out rest d q hl ho hat hd (by omega)
  have e : (R (q + 1)).expr_parser_sum_1_1 (d : Int) l (p : Int) out 0 = expr_parser_sum_1_1.h (R q) (d : Int) l (p : Int) out 0 := rfl
  rw [e, hA, hD, hm0]
  unfold expr_parser_sum_1_1.h expr_parser_sum_1_1.f
  constructor
  · intro h
    rw [g1 h, Option.bind_some, Option.bind_some]
    rfl
  · intro h
    obtain ⟨p', out', g3, g4⟩ := g2 h
    rw [g3, Option.bind_some, Option.bind_some]
    obtain ⟨m, rfl⟩ : ∃ m', m = m' + 1 := ⟨m - 1, by omega⟩
    exact ⟨p', out', l52_err n (R (q + 1)) m l p' out' 24 d (by decide), g4⟩

theorem mx1 {d x y : Nat} (h : d + max x y ≤ 8) : d + x ≤ 8 := by omega
theorem mx2 {d x y : Nat} (h : d + max x y ≤ 8) : d + y ≤ 8 := by omega
theorem mx3 {d x y : Nat} (h : ¬ d + max x y ≤ 8) (h1 : d + x ≤ 8) : ¬ d + y ≤ 8 := by omega

theorem T_mul {a b : Tr} (ha : okT a) (hb : okF b) : okT (.bin .mul a b) := by
  intro l p out rest d q m n hl ho hat hd hq hm
  have hA : (Tr.bin .mul a b).toksA 1 = a.toksA 1 ++ tOp .mul :: b.toksA 2 := rfl
  have hP : (Tr.bin .mul a b).post = a.post ++ b.post ++ [(6, 0, [], ())] := rfl
  have hD : (Tr.bin .mul a b).depA 1 = max (a.depA 1) (b.depA 2) := rfl
  have hM : mc (Tr.bin .mul a b) = mc a + 1 := rfl
  rw [hA, List.append_assoc, List.cons_append] at hat
  rw [hM] at hm
  rw [hP] at ho
  simp only [List.length_append, List.length_cons, List.length_nil] at ho
  obtain ⟨g1, g2⟩ := ha l p out (tOp .mul :: (b.toksA 2 ++ rest)) d q m n hl (by omega) hat hd hq (by omega)
  rw [hA, hP, hD, hM]
  clear hD
  have hat1 := At.app' hat
  obtain ⟨_, _, hat2⟩ := At.cons hat1
  by_cases h1 : d + a.depA 1 ≤ 8
  · rw [g1 h1]
    obtain ⟨m', hm'⟩ : ∃ m', m - mc a = m' + 1 := ⟨m - mc a - 1, by omega⟩
    rw [hm', expr_parser_row_c52.l1, sign_yes sMul (by simp) hat1 hl (by simp [tOp, Opr.byte]) _, Option.bind_some]
    dsimp only
    rw [if_neg (show ¬ (!true) = true by decide)]
    obtain ⟨q, rfl⟩ : ∃ q', q = q' + 1 := ⟨q - 1, by omega⟩
    obtain ⟨k1, k2⟩ := hb l (p + (a.toksA 1).length + 1) (out ++ a.post) rest d q hl (by simp; omega) hat2 hd (by omega)
    have e : (R (q + 1)).expr_parser_sum_1_1 (d : Int) l ((p + (a.toksA 1).length + 1 : Nat) : Int) (out ++ a.post) 0 = expr_parser_sum_1_1.h (R q) (d : Int) l ((p + (a.toksA 1).length + 1 : Nat) : Int) (out ++ a.post) 0 := rfl
    rw [e]
    unfold expr_parser_sum_1_1.h expr_parser_sum_1_1.f
    constructor
    · intro h
      rw [k1 (mx2 h), Option.bind_some, Option.bind_some]
      dsimp only
      rw [put_eq _ _ _ _ _ _ _ (by simp; omega), Option.bind_some]
      dsimp only
      have e1 : m - (mc a + 1) = m' := by clear g1 g2 k1 k2; omega
      have e2 : p + (a.toksA 1).length + 1 + (b.toksA 2).length = p + (a.toksA 1 ++ tOp Opr.mul :: b.toksA 2).length := by simp; omega
      rw [e1, e2, List.append_assoc (out ++ a.post), List.append_assoc out, ← List.append_assoc a.post]
      rfl
    · intro h
      obtain ⟨p', out', k3, k4⟩ := k2 (mx3 h h1)
      rw [k3, Option.bind_some, Option.bind_some]
      dsimp only
      simp only [List.length_append] at k4
      rw [put_eq _ _ _ _ _ _ _ (by omega), Option.bind_some]
      dsimp only
      obtain ⟨m'', rfl⟩ : ∃ k, m' = k + 1 := ⟨m' - 1, by clear g1 g2 k1 k2; omega⟩
      exact ⟨p', _, l52_err n (R (q + 1)) m'' l p' _ 24 d (by decide), by clear g1 g2 k1 k2; simp; omega⟩
  · constructor
    · intro h
      exact absurd (mx1 h) h1
    · intro h
      obtain ⟨p', out', g3, g4⟩ := g2 h1
      exact ⟨p', out', g3, by simp; omega⟩

/-- A sum that is one term. -/
theorem S_of_T {t : Tr} (hT : okT t) (hA : t.toks = t.toksA 1) (hD : t.dep = t.depA 1) (hm0 : ac t = 0) : okS t := by
  intro l p out rest d q m n hl ho hat hr hd hq hm
  rw [hA] at hat
  obtain ⟨g1, g2⟩ := W_of_T hT l p out rest d q hl ho hat hr hd hq
  rw [hA, hD, hm0]
  constructor
  · intro h
    rw [g1 h, Option.bind_some]
    rfl
  · intro h
    obtain ⟨p', out', g3, g4⟩ := g2 h
    rw [g3, Option.bind_some]
    obtain ⟨m, rfl⟩ : ∃ m', m = m' + 1 := ⟨m - 1, by clear g1 g2; omega⟩
    exact ⟨p', out', l51_err n (R q) m l p' out' 24 d (by decide), g4⟩

theorem S_add {o : Opr} (ho' : o = .add ∨ o = .sub) {a b : Tr} (ha : okS a) (hb : okT b) (haA : a.toksA 0 = a.toks) : okS (.bin o a b) := by
  intro l p out rest d q m n hl ho hat hr hd hq hm
  have hA : (Tr.bin o a b).toks = a.toks ++ tOp o :: b.toksA 1 := by
    rcases ho' with rfl | rfl <;> (rw [← haA]; rfl)
  have hP : (Tr.bin o a b).post = a.post ++ b.post ++ [(o.kind, 0, [], ())] := rfl
  have hD : (Tr.bin o a b).dep = max a.dep (b.depA 1) := by
    rcases ho' with rfl | rfl
    · show max (a.dep + if a.tight < 0 then 1 else 0) (b.dep + if b.tight < 0 + 1 then 1 else 0) = _
      rw [if_neg (Nat.not_lt_zero _)]; rfl
    · show max (a.dep + if a.tight < 0 then 1 else 0) (b.dep + if b.tight < 0 + 1 then 1 else 0) = _
      rw [if_neg (Nat.not_lt_zero _)]; rfl
  have hM : ac (Tr.bin o a b) = ac a + 1 := by rcases ho' with rfl | rfl <;> rfl
  have hin : [o.byte] ∈ sAdd := by rcases ho' with rfl | rfl <;> decide
  have hno : noS sMul (tOp o :: (b.toksA 1 ++ rest)) := noS_text (by rcases ho' with rfl | rfl <;> decide)
  have hk : (L.kinds [o.byte]).1 = o.kind := by rcases ho' with rfl | rfl <;> rfl
  rw [hA, List.append_assoc, List.cons_append] at hat
  rw [hM] at hm
  rw [hP] at ho
  simp only [List.length_append, List.length_cons, List.length_nil] at ho
  obtain ⟨g1, g2⟩ := ha l p out (tOp o :: (b.toksA 1 ++ rest)) d q m n hl (by omega) hat hno hd hq (by omega)
  rw [hA, hP, hD, hM]
  clear hD
  have hat1 := At.app' hat
  obtain ⟨_, _, hat2⟩ := At.cons hat1
  by_cases h1 : d + a.dep ≤ 8
  · rw [g1 h1]
    obtain ⟨m', hm'⟩ : ∃ m', m - ac a = m' + 1 := ⟨m - ac a - 1, by clear g1 g2; omega⟩
    rw [hm', expr_parser_row_c51.l1, sign_yes sAdd (by simp) hat1 hl hin _, Option.bind_some]
    dsimp only
    rw [if_neg (show ¬ (!true) = true by decide), hk]
    obtain ⟨k1, k2⟩ := W_of_T hb l (p + a.toks.length + 1) (out ++ a.post) rest d q hl (by simp; clear g1 g2; omega) hat2 hr hd hq
    constructor
    · intro h
      rw [k1 (mx2 h), Option.bind_some]
      dsimp only
      rw [put_eq _ _ _ _ _ _ _ (by clear g1 g2 k1 k2; simp; omega), Option.bind_some]
      dsimp only
      have e1 : m - (ac a + 1) = m' := by clear g1 g2 k1 k2; omega
      have e2 : p + a.toks.length + 1 + (b.toksA 1).length = p + (a.toks ++ tOp o :: b.toksA 1).length := by clear g1 g2 k1 k2; simp; omega
      rw [e1, e2, List.append_assoc (out ++ a.post), List.append_assoc out, ← List.append_assoc a.post]
    · intro h
      obtain ⟨p', out', k3, k4⟩ := k2 (mx3 h h1)
      rw [k3, Option.bind_some]
      dsimp only
      simp only [List.length_append] at k4
      rw [put_eq _ _ _ _ _ _ _ (by clear g1 g2 k1 k2; omega), Option.bind_some]
      dsimp only
      obtain ⟨m'', rfl⟩ : ∃ k, m' = k + 1 := ⟨m' - 1, by clear g1 g2 k1 k2; omega⟩
      exact ⟨p', _, l51_err n (R q) m'' l p' _ 24 d (by decide), by clear g1 g2 k1 k2; simp; omega⟩
  · constructor
    · intro h
      exact absurd (mx1 h) h1
    · intro h
      obtain ⟨p', out', g3, g4⟩ := g2 h1
      exact ⟨p', out', g3, by clear g1 g2; simp; omega⟩

/-- A sum, whole. -/
theorem sum_of_S {t : Tr} (hS : okS t) (l : List TokL) (p : Nat) (out : List Item) (rest : List Bt) (d q : Nat) (hl : l.length ≤ 1000000) (ho : out.length + t.post.length ≤ 1000000) (hat : At l p (t.toks ++ rest)) (hr : noS sMul rest) (hr2 : noS sAdd rest) (hd : d ≤ 9) (hq : 6 * (9 - d) + 6 ≤ q) :
    (d + t.dep ≤ 8 → (R q).expr_parser_sum (d : Int) l p out 0 = some (l, ((p + t.toks.length : Nat) : Int), out ++ t.post, 0, ())) ∧
    (¬ d + t.dep ≤ 8 → ∃ (p' : Int) (out' : List Item), (R q).expr_parser_sum (d : Int) l p out 0 = some (l, p', out', 24, ()) ∧ out'.length ≤ out.length + t.post.length) := by
  obtain ⟨q, rfl⟩ : ∃ q', q = q' + 2 := ⟨q - 2, by omega⟩
  show (_ → expr_parser_sum.h (R (q + 1)) d l p out 0 = _) ∧ (_ → ∃ p' out', expr_parser_sum.h (R (q + 1)) d l p out 0 = _ ∧ _)
  unfold expr_parser_sum.h expr_parser_sum.f
  have e : (R (q + 1)).expr_parser_row_c51 sAdd l (p : Int) out 0 (d : Int) = expr_parser_row_c51.h (R q) sAdd l (p : Int) out 0 (d : Int) := rfl
  rw [e]
  unfold expr_parser_row_c51.h expr_parser_row_c51.f
  obtain ⟨N, hN⟩ : ∃ N, 1000 + sAdd.length + l.length + (p : Int).toNat + out.length + (0 : Int).toNat + (d : Int).toNat = N := ⟨_, rfl⟩
  rw [hN]
  have hlen := At.len hat (toks_ne t)
  have h1 := ac_toks t
  have hbig : ac t < N := by omega
  obtain ⟨g1, g2⟩ := hS l p out rest d q N N hl ho hat hr hd (by omega) hbig
  constructor
  · intro h
    rw [g1 h]
    obtain ⟨m, hm⟩ : ∃ m, N - ac t = m + 1 := ⟨N - ac t - 1, by clear g1 g2; omega⟩
    rw [hm, l51_exit N (R q) m (At.app' hat) hr2, Option.bind_some]
  · intro h
    obtain ⟨p', out', g3, g4⟩ := g2 h
    rw [g3, Option.bind_some]
    exact ⟨p', out', rfl, g4⟩

/-- A sum within brackets is a factor. -/
theorem F_paren {x : Tr} (hS : okS x) (l : List TokL) (p : Nat) (out : List Item) (rest : List Bt) (d q : Nat) (hl : l.length ≤ 1000000) (ho : out.length + x.post.length ≤ 1000000) (hat : At l p (tLp :: (x.toks ++ tRp :: rest))) (hd : d ≤ 8) (hq : 6 * (9 - d) ≤ q) :
    (d + (x.dep + 1) ≤ 8 → expr_parser_factor.h (R q) (d : Int) l p out 0 = some (l, ((p + (x.toks.length + 2) : Nat) : Int), out ++ x.post, 0, ())) ∧
    (¬ d + (x.dep + 1) ≤ 8 → ∃ (p' : Int) (out' : List Item), expr_parser_factor.h (R q) (d : Int) l p out 0 = some (l, p', out', 24, ()) ∧ out'.length ≤ out.length + x.post.length) := by
  obtain ⟨_, _, hat2⟩ := At.cons hat
  have hn1 : noS sMul (tRp :: rest) := noS_text (by decide)
  have hn2 : noS sAdd (tRp :: rest) := noS_text (by decide)
  obtain ⟨g1, g2⟩ := sum_of_S hS l (p + 1) out (tRp :: rest) (d + 1) q hl ho hat2 hn1 hn2 (by omega) (by omega)
  unfold expr_parser_factor.h expr_parser_factor.f
  rw [if_neg (by decide), if_neg (by simp; omega), sign_yes [[45], [40]] (by simp) hat hl (by simp) out, Option.bind_some]
  dsimp only
  rw [if_neg (show ¬ decide (([40] : Str) = [45]) = true by decide), if_pos (show decide (([40] : Str) = [40]) = true by decide), w64 (by omega), show (d : Int) + 1 = ((d + 1 : Nat) : Int) by omega]
  constructor
  · intro h
    rw [g1 (by clear g1 g2; omega), Option.bind_some]
    dsimp only
    rw [sign_yes [[41]] (by simp) (At.app' hat2) hl (by simp) _, Option.bind_some]
    dsimp only
    rw [if_neg (show ¬ (!true) = true by decide), show p + 1 + x.toks.length + 1 = p + (x.toks.length + 2) by clear g1 g2; omega]
  · intro h
    obtain ⟨p', out', g3, g4⟩ := g2 (by clear g1 g2; omega)
    rw [g3, Option.bind_some]
    dsimp only
    rw [sign_err [[41]] (by simp) l p' out' 24 (by decide), Option.bind_some]
    dsimp only
    rw [if_pos (show (!false) = true by decide), fail_err 23 l p' out' 24 (by decide), Option.bind_some]
    exact ⟨p', out', rfl, g4⟩

theorem F_low {x : Tr} (hS : okS x) (ht : x.tight < 2) : okF x := F_intro fun l p out rest d q hl ho hat hd hq => by
  have hA : x.toksA 2 = tLp :: (x.toks ++ [tRp]) := by unfold Tr.toksA brk; rw [if_pos (by simpa using ht)]
  have hD : x.depA 2 = x.dep + 1 := by unfold Tr.depA; rw [if_pos ht]
  rw [hA] at hat ⊢
  rw [hD]
  have hat' : At l p (tLp :: (x.toks ++ tRp :: rest)) := by
    have e : tLp :: (x.toks ++ [tRp]) ++ rest = tLp :: (x.toks ++ tRp :: rest) := by simp
    rw [e] at hat; exact hat
  have := F_paren hS l p out rest d q hl ho hat' hd hq
  have e : (tLp :: (x.toks ++ [tRp])).length = x.toks.length + 2 := by simp
  rw [e]
  exact this

theorem F_br {x : Tr} (hS : okS x) : okF (.br x) := F_intro fun l p out rest d q hl ho hat hd hq => by
  have hA : (Tr.br x).toksA 2 = tLp :: (x.toks ++ [tRp]) := rfl
  have hD : (Tr.br x).depA 2 = x.dep + 1 := by show 1 + x.dep + (if (2 : Nat) < 2 then 1 else 0) = _; rw [if_neg (by omega)]; omega
  have hP : (Tr.br x).post = x.post := rfl
  rw [hP] at ho ⊢
  rw [hA] at hat ⊢
  rw [hD]
  have hat' : At l p (tLp :: (x.toks ++ tRp :: rest)) := by
    have e : tLp :: (x.toks ++ [tRp]) ++ rest = tLp :: (x.toks ++ tRp :: rest) := by simp
    rw [e] at hat; exact hat
  have := F_paren hS l p out rest d q hl ho hat' hd hq
  have e : (tLp :: (x.toks ++ [tRp])).length = x.toks.length + 2 := by simp
  rw [e]
  exact this

theorem T_of_F2 {t : Tr} (hF : okF t) (ht : t.tight = 2) (hm0 : mc t = 0) : okT t :=
  T_of_F hF (by unfold Tr.toksA; rw [ht]; rfl) (by unfold Tr.depA; rw [ht]; rfl) hm0

theorem S_of_T1 {t : Tr} (hT : okT t) (ht : 1 ≤ t.tight) (ha0 : ac t = 0) : okS t :=
  S_of_T hT (by unfold Tr.toksA brk; rw [if_neg (by simp; omega)]) (by unfold Tr.depA; rw [if_neg (by omega), Nat.add_zero]) ha0

theorem parse_ok : ∀ t : Tr, t.ok → okF t ∧ okT t ∧ okS t
  | .num n, _ => by
    have hF := F_num n
    have hT := T_of_F2 hF rfl rfl
    exact ⟨hF, hT, S_of_T1 hT (show 1 ≤ 2 by decide) rfl⟩
  | .nam s, h => by
    have hF := F_nam h
    have hT := T_of_F2 hF rfl rfl
    exact ⟨hF, hT, S_of_T1 hT (show 1 ≤ 2 by decide) rfl⟩
  | .neg x, h => by
    have hF := F_neg (parse_ok x h).1
    have hT := T_of_F2 hF rfl rfl
    exact ⟨hF, hT, S_of_T1 hT (show 1 ≤ 2 by decide) rfl⟩
  | .br x, h => by
    have hF := F_br (parse_ok x h).2.2
    have hT := T_of_F2 hF rfl rfl
    exact ⟨hF, hT, S_of_T1 hT (show 1 ≤ 2 by decide) rfl⟩
  | .bin .mul a b, h => by
    have hT := T_mul (parse_ok a h.1).2.1 (parse_ok b h.2).1
    have hS := S_of_T1 hT (show 1 ≤ 1 by decide) rfl
    exact ⟨F_low hS (show 1 < 2 by decide), hT, hS⟩
  | .bin .add a b, h => by
    have hS := S_add (.inl rfl) (parse_ok a h.1).2.2 (parse_ok b h.2).2.1 (by unfold Tr.toksA brk; rw [if_neg (by simp)])
    have hF := F_low hS (show 0 < 2 by decide)
    exact ⟨hF, T_of_F hF rfl rfl rfl, hS⟩
  | .bin .sub a b, h => by
    have hS := S_add (.inr rfl) (parse_ok a h.1).2.2 (parse_ok b h.2).2.1 (by unfold Tr.toksA brk; rw [if_neg (by simp)])
    have hF := F_low hS (show 0 < 2 by decide)
    exact ⟨hF, T_of_F hF rfl rfl rfl, hS⟩

/-- What Parse tells of a tree's tokens. -/
theorem eparse_eq {t : Tr} (ht : t.ok) (l : List TokL) (p : Nat) (rest : List Bt) (hl : l.length ≤ 1000000) (hpost : t.post.length ≤ 64) (hat : At l p (t.toks ++ rest)) (hr : noS sMul rest) (hr2 : noS sAdd rest) :
    (t.dep ≤ 8 → expr_Parse.g l p = some (t.post, ((p + t.toks.length : Nat) : Int), 0, ())) ∧ (¬ t.dep ≤ 8 → expr_Parse.g l p = some ([], 0, 24, ())) := by
  unfold expr_Parse.g expr_Parse.f expr_parser_sum.g
  obtain ⟨g1, g2⟩ := sum_of_S (parse_ok t ht).2.2 l p [] rest 0 (1000 + (0 : Int).toNat + l.length + (p : Int).toNat + ([] : List Item).length + (0 : Int).toNat) hl (by simp; omega) hat hr hr2 (by omega) (by omega)
  constructor
  · intro h
    have := g1 (by clear g1 g2; omega)
    rw [show ((0 : Nat) : Int) = 0 from rfl] at this
    rw [this, Option.bind_some]
    dsimp only
    rw [if_pos (show decide ((0 : Int) = 0) = true by decide), if_neg (by clear g1 g2 this; simp; omega), List.nil_append]
    unfold expr_Parse.j5
    rw [if_neg (show ¬ decide ((0 : Int) ≠ 0) = true by decide)]
  · intro h
    obtain ⟨p', out', g3, g4⟩ := g2 (by clear g1 g2; omega)
    rw [show ((0 : Nat) : Int) = 0 from rfl] at g3
    rw [g3, Option.bind_some]
    dsimp only
    rw [if_neg (show ¬ decide ((24 : Int) = 0) = true by decide)]
    unfold expr_Parse.j5
    rw [if_pos (show decide ((24 : Int) ≠ 0) = true by decide)]

end Rv
