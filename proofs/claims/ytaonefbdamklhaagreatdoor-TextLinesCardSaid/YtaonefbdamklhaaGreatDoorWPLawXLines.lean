/- Texts put together. -/
import Derived.Test.YtaonefbdamklhaaGreatDoorW2
import Derived.Test.YtaonefbdamklhaaGreatDoorWPBare
set_option linter.all false
namespace Rv
open Go
def Way (d : List Ln) (e i : Int) (t : Nat) (rest : List Str) : Prop :=
 (e = 0 ∧ i = 0 ∧ ∃ r, eachR t rest = .ok r ∧ d.drop t = r ∧ t ≤ d.length) ∨ (d = [] ∧ ∃ N E, eachR t rest = .error (N, E) ∧ e = (N : Int) ∧ i = E ∧ E ≠ 0)
structure Made (d : List Ln) (i : Int) (t k : Nat) (j : Str) : Prop where
 len : j.length ≤ 600 * t + k
 le : t ≤ k
 lines : ∃ LL, (∀ y, linesR (j ++ y) = LL ++ linesR y) ∧ (i = 0 → eachR 0 LL = .ok (d.take t)) ∧ LL.length = t
theorem xlines_fin (n m : Nat) {b c : Str} {d : List Ln} {e i : Int} {j : Str} {k t o : Nat} (ho : c.length < o) (hk : k ≤ 501) (hd : d.length ≤ 1000) (hs : ∀ x ∈ d, shortL x) (hw : Way d e i t []) (hm : Made d i t k j) :
  rivetlaw18_TextLines.l15 n (m + 1) true b c d e i j (k : Int) (t : Int) (o : Int) = some (true, ()) := by
 rcases hw with ⟨rfl, rfl, r, h1, h2, h3⟩ | ⟨_, N, E, h, _⟩
 ·rw [eachR] at h1; cases h1
  have ht : t = d.length := by have := List.drop_eq_nil_iff.1 h2; omega
  obtain ⟨LL, l1, l2, l3⟩ := hm.lines
  have l2 := l2 rfl
  have hlines : linesR j = LL := by have := l1 []; rw [List.append_nil, linesR, List.append_nil] at this; exact this
  have hj := hm.len
  have htk := hm.le
  rw [rivetlaw18_TextLines.l15, if_neg (by simp; omega), parseT_eq _ (by omega), Option.bind_some, if_pos rfl, if_pos (by decide), if_pos (by decide), if_pos (by simp [ht])]
  by_cases hbig : 262144 < j.length
  ·have e1 : parseT j = ([], 0, 2, ()) := by unfold parseT; rw [if_pos hbig]
   rw [e1]
   dsimp only
   rw [if_pos (by decide), if_pos (by simp; omega), if_pos (by decide), if_neg (by decide)]
  ·have e1 : parseT j = (d, 0, 0, ()) := by
    unfold parseT
    rw [if_neg hbig, hlines, if_neg (by omega), l2, ht, List.take_length]
    simp [outE]
   rw [e1]
   dsimp only
   rw [if_neg (show ¬ decide ((0 : Int) = 0) = false by decide), if_pos (show decide ((0 : Int) = 0) = true by decide), if_pos (show decide ((0 : Int) ≠ 0) = false by decide), same18_refl d (by omega) hs, Option.bind_some]
 ·rw [eachR] at h; cases h
theorem xlines_j27 (n : Nat) (rl) {b c : Str} (hb : b.length ≤ 500) {d : List Ln} {e i : Int} {j : Str} (hj : j.length ≤ 1000000) {k o : Nat} (hk : k ≤ o) (ho : o ≤ c.length) (hc : c.length ≤ 500) (l : Int) :
  rivetlaw18_TextLines.j27 n rl true b c d e i j (k : Int) l (o : Int) = rl true b c d e i (j ++ (32 :: ((c.take o).drop k ++ 32 :: 59 :: (32 :: b)) ++ [10])) ((o + 1 : Nat) : Int) l ((o + 1 : Nat) : Int) := by
 have hu : ((c.take o).drop k).length ≤ 500 := by rw [List.length_drop, List.length_take]; omega
 unfold rivetlaw18_TextLines.j27
 rw [Int.toNat_natCast, Int.toNat_natCast]
 generalize (c.take o).drop k = u at hu
 rw [if_pos (by simp; omega), if_pos (by omega), if_pos (by omega), if_pos (by simp; omega), if_pos (by simp; omega), if_pos (by simp; omega), if_pos (by simp; omega)]
 unfold rivetlaw18_TextLines.j16
 rw [w64 (by omega), show (o : Int) + 1 = ((o + 1 : Nat) : Int) by omega]
 have e : j ++ [32] ++ u ++ [32, 59, 32] ++ b ++ [10] = j ++ (32 :: (u ++ 32 :: 59 :: 32 :: b) ++ [10]) := by simp
 rw [e]
theorem xlines_j18 (n : Nat) (rl) {b c : Str} (hb : b.length ≤ 500) (hb10 : 10 ∉ b) (hc : c.length ≤ 500) {d : List Ln} (hd : d.length ≤ 1000) (hs : ∀ x ∈ d, shortL x) {e i : Int} {j : Str} {k t o : Nat} (hk : k ≤ o) (ho : o ≤ c.length) (hu10 : 10 ∉ (c.take o).drop k) {rest : List Str} (hw : Way d e i t ((c.take o).drop k :: rest)) (hm : Made d i t k j)
  (next : ∀ j', Way d e i (t + 1) rest → Made d i (t + 1) (o + 1) j' → rl true b c d e i j' ((o + 1 : Nat) : Int) ((t + 1 : Nat) : Int) ((o + 1 : Nat) : Int) = some (true, ())) :
  rivetlaw18_TextLines.j18 n rl true b c d e i j (k : Int) (t : Int) (o : Int) = some (true, ()) := by
 have hu : ((c.take o).drop k).length = o - k := by rw [List.length_drop, List.length_take]; omega
 have hj := hm.len
 have htk := hm.le
 have J := fun e i l => xlines_j27 n rl (b := b) (c := c) hb (d := d) (e := e) (i := i) (j := j) (by omega) hk ho hc l
 unfold rivetlaw18_TextLines.j18
 rw [Int.toNat_natCast, Int.toNat_natCast, if_pos (by omega), if_pos (by omega)]
 generalize (c.take o).drop k = u at *
 rw [line_eq u (by omega), Option.bind_some, one_parse u (by omega), Option.bind_some, w64 (by omega), show (t : Int) + 1 = ((t + 1 : Nat) : Int) by omega]
 have hone : oneR u = if (lineOut [] (lineR 0 u)).2.1 ≠ 0 then noP (lineOut [] (lineR 0 u)).2.1 else parseS (lineOut [] (lineR 0 u)).1 := rfl
 generalize lineOut [] (lineR 0 u) = y at hone
 have made : errP (oneR u) = 0 ∧ (i = 0 → t < d.length ∧ d.getD t zL = lnP (oneR u)) → Made d i (t + 1) (o + 1) (j ++ (32 :: (u ++ 32 :: 59 :: 32 :: b) ++ [10])) := fun ⟨g1, g2⟩ => by
  obtain ⟨LL, l1, l2, l3⟩ := hm.lines
  refine ⟨by simp; omega, by omega, LL ++ [32 :: (u ++ 32 :: 59 :: 32 :: b)], fun z => ?_, fun hi => ?_, by simp [l3]⟩
  ·rw [List.append_assoc, l1, List.append_assoc, List.append_assoc]
   congr 1
   have e : (32 :: (u ++ 32 :: 59 :: 32 :: b)) ++ ([10] ++ z) = (32 :: (u ++ 32 :: 59 :: 32 :: b)) ++ 10 :: z := rfl
   rw [e, lines_one _ z (by simp; exact ⟨hu10, hb10⟩)]
   rfl
  ·obtain ⟨q1, q2⟩ := g2 hi
   rw [each_app, l2 hi]
   dsimp only
   rw [eachR, one_long u (32 :: b), if_neg (by simpa using g1), eachR]
   dsimp only
   rw [← q2, List.take_succ_eq_append_getElem q1, List.getD_eq_getElem?_getD, List.getElem?_eq_getElem q1]
   rfl
 have J23 : ∀ (f : Int) (p : PR), f = errP (oneR u) → (f = 0 → p = oneR u) → rivetlaw18_TextLines.j23 n rl true b c d e i j (k : Int) ((t + 1 : Nat) : Int) (o : Int) f p.1 p.2.1 p.2.2.1 p.2.2.2.1 p.2.2.2.2.1 p.2.2.2.2.2.1 p.2.2.2.2.2.2.1 p.2.2.2.2.2.2.2.1 p.2.2.2.2.2.2.2.2.1 = some (true, ()) := by
  intro f p hf hp
  unfold rivetlaw18_TextLines.j23
  rcases hw with ⟨rfl, rfl, r, h1, h2, h3⟩ | ⟨rfl, N, E, h1, rfl, rfl, h4⟩
  ·rw [eachR] at h1
   split at h1
   ·cases h1
   ·rename_i hne
    have h0 : errP (oneR u) = 0 := by simpa using hne
    have hf0 : f = 0 := by rw [hf, h0]
    have hp0 := hp hf0
    cases hr : eachR (t + 1) rest with
    | error x => rw [hr] at h1; cases h1
    | ok q =>
     rw [hr] at h1
     have h1 := (Except.ok.inj h1).symm
     rw [h1] at h2
     have hlt : t < d.length := by
      apply Classical.byContradiction
      intro hc
      rw [List.drop_eq_nil_of_le (by omega)] at h2; cases h2
     rw [List.drop_eq_getElem_cons hlt] at h2
     obtain ⟨g1, g2⟩ := List.cons.inj h2
     have hget : d.getD t zL = lnP (oneR u) := by rw [← g1, List.getD_eq_getElem?_getD, List.getElem?_eq_getElem hlt]; rfl
     have hsl : (d.take (t + 1)).drop t = [lnP (oneR u)] := by
      rw [List.take_succ_eq_append_getElem hlt, List.drop_append_of_le_length (by simp; omega), List.drop_eq_nil_of_le (by simp; omega), g1]; rfl
     have hsh : shortL (lnP (oneR u)) := by rw [← g1]; exact hs _ (List.getElem_mem hlt)
     have hsm := same18_refl [lnP (oneR u)] (by simp) (fun x hx => by rw [List.mem_singleton] at hx; subst hx; exact hsh)
     have hW : IntKind.i64.wrap (((t + 1 : Nat) : Int) - 1) = (t : Int) := by rw [w64 (by omega)]; omega
     rw [hf0, if_neg (by decide), if_pos (by decide), if_pos (by simp; omega), if_pos (by omega), hW, if_pos (by omega), Int.toNat_natCast, Int.toNat_natCast, hsl]
     have e : [(p.1, (p.2.1, p.2.2.1, p.2.2.2.1, p.2.2.2.2.1, p.2.2.2.2.2.1, p.2.2.2.2.2.2.1, p.2.2.2.2.2.2.2.1, p.2.2.2.2.2.2.2.2.1, ()), ())] = [lnP (oneR u)] := by rw [hp0]
     rw [e, hsm, Option.bind_some, if_neg (by decide), J]
     exact next _ (.inl ⟨rfl, rfl, q, hr, g2, by omega⟩) (made ⟨h0, fun _ => ⟨hlt, hget⟩⟩)
  ·rw [eachR] at h1
   split at h1
   ·rename_i hne
    have h1 := Except.error.inj h1
    simp only [Prod.mk.injEq] at h1
    obtain ⟨rfl, rfl⟩ := h1
    rw [hf, if_pos (by simpa using hne), if_pos rfl, if_pos (by simp), if_pos (by simp)]
    simp
   ·rename_i hne
    have h0 : errP (oneR u) = 0 := by simpa using hne
    have hf0 : f = 0 := by rw [hf, h0]
    cases hr : eachR (t + 1) rest with
    | ok q => rw [hr] at h1; cases h1
    | error x =>
     rw [hr] at h1
     have h1 := Except.error.inj h1
     subst h1
     rw [hf0, if_neg (by decide), if_neg (by simpa using h4), J]
     exact next _ (.inr ⟨rfl, N, i, hr, rfl, rfl, h4⟩) (made ⟨h0, fun hi => absurd hi h4⟩)
 by_cases hy : y.2.1 = 0
 ·rw [if_neg (fun g => g hy)] at hone
  rw [if_pos (by simpa using hy)]
  exact J23 _ (parseS y.1) (by rw [hone]) (fun _ => hone.symm)
 ·rw [if_pos hy] at hone
  rw [if_neg (by simpa using hy)]
  exact J23 _ (parseS y.1) (by rw [hone]; rfl) (fun h => absurd h hy)
theorem xlines_loop (n : Nat) {b c : Str} (hb : b.length ≤ 500) (hb10 : 10 ∉ b) (hc : c.length ≤ 500) {d : List Ln} (hd : d.length ≤ 1000) (hs : ∀ x ∈ d, shortL x) {e i : Int} : ∀ (m k t o : Nat) (j : Str), k ≤ o → (o ≤ c.length ∨ c.length ≤ k) → o ≤ c.length + 1 → c.length + 1 - o < m → 10 ∉ (c.take o).drop k → Way d e i t (linesR (c.drop k)) → Made d i t k j →
  rivetlaw18_TextLines.l15 n m true b c d e i j (k : Int) (t : Int) (o : Int) = some (true, ()) := by
 intro m
 induction m with
 | zero => intro k t o j _ _ _ h; omega
 | succ m ih =>
  intro k t o j hk hko ho hm h10 hw hM
  have W1 : IntKind.i64.wrap ((o : Int) + 1) = ((o + 1 : Nat) : Int) := by rw [w64 (by omega)]; omega
  by_cases hend : c.length < o
  ·have : c.drop k = [] := List.drop_eq_nil_of_le (by omega)
   rw [this, linesR] at hw
   exact xlines_fin n m hend (by omega) hd hs hw hM
  ·rw [rivetlaw18_TextLines.l15]
   simp only [dt, df]
   rw [if_pos (by omega)]
   by_cases hlt : o < c.length
   ·rw [if_pos (by omega), if_pos (by omega), bt_nat]
    have hsplit : c.drop k = (c.take o).drop k ++ c.getD o 0 :: c.drop (o + 1) := by
     rw [← drop_cons hlt]
     have := List.take_append_drop o c
     conv => lhs; rw [← this]
     rw [List.drop_append_of_le_length (by rw [List.length_take]; omega)]
    by_cases hnl : c.getD o 0 = 10
    ·have hbt : ((c.getD o 0).toNat : Int) = 10 := by rw [hnl]; rfl
     rw [if_pos (by omega), if_neg (by omega)]
     rw [hnl] at hsplit
     rw [hsplit, lines_one _ _ h10] at hw
     exact xlines_j18 n _ hb hb10 hc hd hs hk (by omega) h10 hw hM fun j' g1 g2 => ih (o + 1) (t + 1) (o + 1) j' (Nat.le_refl _) (by omega) (by omega) (by omega) (by rw [List.drop_eq_nil_of_le (by rw [List.length_take]; omega)]; simp) g1 g2
    ·have hbt : ((c.getD o 0).toNat : Int) ≠ 10 := fun g => hnl (by have := (byte_is (c.getD o 0) 10 (by decide)).mp g; simpa using this)
     rw [if_neg (fun g => g hbt)]
     unfold rivetlaw18_TextLines.j16
     rw [W1]
     refine ih k t (o + 1) j (by omega) (by omega) (by omega) (by omega) ?_ hw hM
     rw [List.take_succ_eq_append_getElem hlt, List.drop_append_of_le_length (by rw [List.length_take]; omega)]
     intro g
     rcases List.mem_append.1 g with g | g
     ·exact h10 g
     ·rw [List.mem_singleton] at g
      refine hnl ?_
      rw [List.getD_eq_getElem?_getD, List.getElem?_eq_getElem hlt]
      exact g.symm
   ·obtain rfl : o = c.length := by omega
    rw [if_neg (by omega), if_pos rfl]
    by_cases hkl : k = c.length
    ·subst hkl
     rw [if_pos rfl]
     unfold rivetlaw18_TextLines.j16
     rw [W1]
     exact ih c.length t (c.length + 1) j (by omega) (by omega) (by omega) (by omega) (by rw [List.take_of_length_le (by omega), List.drop_length]; simp) hw hM
    ·rw [if_neg (by omega)]
     have e1 : (c.take c.length).drop k = c.drop k := by rw [List.take_length]
     rw [e1] at h10
     have hne : c.drop k ≠ [] := fun g => by have := List.drop_eq_nil_iff.1 g; omega
     rw [lines_last _ h10 hne] at hw
     exact xlines_j18 n _ hb hb10 hc hd hs hk (by omega) (by rw [e1]; exact h10) (rest := []) (by rw [e1]; exact hw) hM fun j' g1 g2 => ih (c.length + 1) (t + 1) (c.length + 1) j' (Nat.le_refl _) (by omega) (by omega) (by omega) (by rw [List.drop_eq_nil_of_le (by rw [List.length_take]; omega)]; simp) (by rw [List.drop_eq_nil_of_le (by omega), linesR]; exact g1) g2
theorem xlines_note (n : Nat) (a : Str) (d : Str) (hd : d.length ≤ 500) (hd' : ∀ c : Str, c.length ≤ 500 → 10 ∉ c → ∃ r, ((rivetlaw18_few.g a).bind fun y1 => (text_Parse.g y1.1).bind fun y2 => rivetlaw18_TextLines.l15 n n true c y1.1 y2.1 y2.2.1 y2.2.2.1 [] 0 0 0) = some (r, ()) ∧ r = true) : ∀ (m i : Nat) (c : Str), i ≤ d.length → d.length - i < m → c.length ≤ i → 10 ∉ c →
  rivetlaw18_TextLines.l5 n m a true c d (i : Int) = some (true, ()) := by
 intro m
 induction m with
 | zero => intro i c _ h; omega
 | succ m ih =>
  intro i c hi hm hc h10
  rw [rivetlaw18_TextLines.l5]
  unfold rivetlaw18_TextLines.j6
  simp only [dt]
  by_cases h : i < d.length
  ·have W1 : IntKind.i64.wrap ((i : Int) + 1) = ((i + 1 : Nat) : Int) := by rw [w64 (by omega)]; omega
   have hsl : (d.take (i + 1)).drop i = [d.getD i 0] := by
    rw [List.take_succ_eq_append_getElem h, List.drop_append_of_le_length (by simp; omega), List.drop_eq_nil_of_le (by simp; omega), List.getD_eq_getElem?_getD, List.getElem?_eq_getElem h]; rfl
   rw [if_pos (by omega), if_pos (by omega), bt_nat, W1]
   by_cases hnl : d.getD i 0 = 10
   ·have hbt : ((d.getD i 0).toNat : Int) = 10 := by rw [hnl]; rfl
    rw [if_neg (fun g => g hbt)]
    exact ih (i + 1) c (by omega) (by omega) (by omega) h10
   ·have hbt : ((d.getD i 0).toNat : Int) ≠ 10 := fun g => hnl (by have := (byte_is (d.getD i 0) 10 (by decide)).mp g; simpa using this)
    rw [if_pos hbt, if_pos (by omega), if_pos (by omega), Int.toNat_natCast, Int.toNat_natCast, hsl, if_pos (by simp; omega)]
    refine ih (i + 1) (c ++ [d.getD i 0]) (by omega) (by omega) (by simp; omega) ?_
    intro g
    rcases List.mem_append.1 g with g | g
    ·exact h10 g
    ·rw [List.mem_singleton] at g; exact hnl g.symm
  ·rw [if_neg (by omega)]
   obtain ⟨r, g1, g2⟩ := hd' c (by omega) h10
   rw [g1, g2]
theorem xlines_wf {a b : Str} (h : a.length ≤ maxLen ∧ b.length ≤ maxLen ∧ True) : rivetlaw18_TextLines.g a b = some (true, ()) := by
 have ha := wfLen h.1
 have hb := wfLen h.2.1
 unfold rivetlaw18_TextLines.g
 have hn : 1000 ≤ 1000 + a.length + b.length := by omega
 generalize 1000 + a.length + b.length = n at hn
 unfold rivetlaw18_TextLines.f
 rw [shown18, Option.bind_some, few18 b hb, Option.bind_some]
 have lb : (b.take 500).length ≤ 500 := by rw [List.length_take]; omega
 refine xlines_note n a (b.take 500) lb (fun c hc h10 => ⟨true, ?_, rfl⟩) n 0 [] (by omega) (by omega) (by simp) (by simp)
 rw [few18 a ha, Option.bind_some]
 dsimp only
 have la : (a.take 500).length ≤ 500 := by rw [List.length_take]; omega
 generalize a.take 500 = A at la
 rw [parseT_eq A (by omega), Option.bind_some, parseT_small (by omega)]
 have hll := (lines_le A).1
 have start : ∀ d i, Made d i 0 0 [] := fun d i => ⟨by simp, by omega, [], fun y => rfl, fun _ => rfl, rfl⟩
 cases hE : eachR 0 (linesR A) with
 | error x =>
  obtain ⟨g1, _, _⟩ := each_err _ _ _ hE
  exact xlines_loop n hc h10 la (d := []) (by simp) (fun x hx => by cases hx) n 0 0 0 [] (by omega) (by omega) (by omega) (by omega) (by simp) (.inr ⟨rfl, x.1, x.2, hE, rfl, rfl, g1⟩) (start _ _)
 | ok r =>
  have q := each_len _ _ _ hE
  have hs := each_short _ _ _ hE
  unfold outE
  dsimp only
  rw [List.nil_append]
  exact xlines_loop n hc h10 la (d := r) (by omega) hs n 0 0 0 [] (by omega) (by omega) (by omega) (by omega) (by simp) (.inl ⟨rfl, rfl, r, hE, rfl, by omega⟩) (start _ _)
end Rv
