/- Texts put together, part 9 of 18. -/
import Derived.Test.YtaonefbdamklhaaGreatDoorQ8
set_option linter.all false
namespace Rv
open Go
theorem tback_count (t : List TokL) (hl : t.length ≤ 1000000) (n : Nat) : ∀ (m i : Nat) (d : Nat), i ≤ t.length → t.length - i < m → d ≤ i →
  rivetlaw17_StmtBack.l14 n m t (d : Int) (i : Int) = some (decide (8 < d + Tr.cnt ((t.drop i).map bare)), ()) := by
 intro m
 induction m with
 | zero => intro i d _ h; omega
 | succ m ih =>
  intro i d hi hm hd
  rw [rivetlaw17_StmtBack.l14]
  simp only [dt, df, rivetlaw17_StmtBack.j15, Int.toNat_natCast]
  by_cases h : i < t.length
  ·have hx : t.drop i = t.getD i dTok :: t.drop (i + 1) := by
    rw [List.drop_eq_getElem_cons h, List.getD_eq_getElem?_getD, List.getElem?_eq_getElem h]; rfl
   rw [if_pos (by omega), if_pos (by omega), hx, List.map_cons, Tr.cnt_cons]
   have g0 := ih (i + 1) d (by omega) (by omega) (by omega)
   have g1 := ih (i + 1) (d + 1) (by omega) (by omega) (by omega)
   have w1 : IntKind.i64.wrap ((i : Int) + 1) = ((i + 1 : Nat) : Int) := by rw [w64 (by omega)]; omega
   have w2 : IntKind.i64.wrap ((d : Int) + 1) = ((d + 1 : Nat) : Int) := by rw [w64 (by omega)]; omega
   rw [w1, w2, g0, g1]
   have hb : (bare (t.getD i dTok)).2.1 = (t.getD i dTok).2.2.1 := rfl
   rw [hb]
   show (if ¬ (t.getD i dTok).2.2.1 = [45] then (if 0 ≤ (i : Int) ∧ (i : Int) < t.length then (if (t.getD i dTok).2.2.1 = [40] then _ else _) else none) else _) = _
   by_cases h1 : (t.getD i dTok).2.2.1 = [45]
   ·rw [if_neg (by simpa using h1), h1]
    simp
    omega
   ·rw [if_pos h1, if_pos (by omega)]
    by_cases h2 : (t.getD i dTok).2.2.1 = [40]
    ·rw [if_pos h2, h2]
     simp
     omega
    ·rw [if_neg h2, if_neg (show ¬ (decide ((t.getD i dTok).2.2.1 = [45]) || decide ((t.getD i dTok).2.2.1 = [40])) = true by rw [decide_eq_false h1, decide_eq_false h2]; decide)]
     simp
  ·rw [if_neg (by omega), List.drop_eq_nil_of_le (by omega)]
   simp [Tr.cnt]
   omega
theorem tback_j6 (n : Nat) (hn : 1000 ≤ n) {x : Sm} {t : Option Tr} (h : GoodS x t) {lb : Str} (hlb : lb = [] ∨ labelOk lb = true) : rivetlaw17_StmtBack.j6 n true lb x.k x.o x.a x.b x.c x.u x.e x.nm = some (true, ()) := by
 unfold rivetlaw17_StmtBack.j6
 obtain ⟨ts, hb, hts, hs, g1, g2⟩ := text_good h hlb
 have hp : stmt_Print.g lb x.k x.o x.a x.b x.c x.u x.e x.nm = some (ltx lb x t, 0, ()) := print_good h hlb
 have hm : stmt_May.g x.k x.o x.a x.b x.c x.u x.e x.nm = some (true, ()) := may_good h
 rw [hp, Option.bind_some]
 dsimp only
 rw [hs, Option.bind_some]
 dsimp only
 by_cases hd : deepOk t
 ·rw [g1 hd, Option.bind_some, hm]
  simp only [Option.bind_some]
  unfold smP
  dsimp only
  rw [if_pos (show (!true) = false from rfl), if_pos (show (!true) = false from rfl), if_pos (show decide ((0 : Int) ≠ 0) = false from rfl), if_neg (show ¬ decide ((0 : Int) ≠ 0) = true by decide), if_neg (show ¬ decide ((0 : Int) = 24) = true by decide), if_pos (show decide ((0 : Int) = 0) = true from rfl), if_pos (by simp), same_refl x (by have := (good_elen h).1; omega), Option.bind_some]
 ·rw [g2 hd, Option.bind_some, hm]
  simp only [Option.bind_some]
  unfold noP
  dsimp only
  rw [if_pos (show (!true) = false from rfl), if_pos (show (!true) = false from rfl), if_pos (show decide ((0 : Int) ≠ 0) = false from rfl), if_neg (show ¬ decide ((0 : Int) ≠ 0) = true by decide), if_pos (show decide ((24 : Int) = 24) = true from rfl)]
  have hl := ltk_len h lb
  rw [← hb, List.length_map] at hl
  have := tback_count ts (by omega) n n 0 0 (by omega) (by omega) (by omega)
  rw [show ((0 : Nat) : Int) = 0 from rfl] at this
  rw [this, List.drop_zero, hb]
  obtain ⟨y, rfl, hy⟩ := deep_ex hd
  have := cnt_part h (lb := lb)
  simp
  omega
theorem tback_wf {lb : Str} {k o a b c : Int} {u : Bool} {e : List Item} {nm : Str} (h : lb.length ≤ maxLen ∧ (Lit.int .i64 k).wf = true ∧ (Lit.int .i64 o).wf = true ∧ (Lit.int .i64 a).wf = true ∧ (Lit.int .i64 b).wf = true ∧ (Lit.int .i64 c).wf = true ∧ wfE e ∧ nm.length ≤ maxLen ∧ True) :
  rivetlaw17_StmtBack.g lb k o a b c u e nm = some (true, ()) := by
 obtain ⟨h1, _, _, _, _, _, h2, h3, _⟩ := h
 have hw := wfSm_of (k := k) (o := o) (a := a) (b := b) (c := c) (u := u) h2 h3
 obtain ⟨x, t, hf, hg⟩ := fit17 _ hw
 unfold rivetlaw17_StmtBack.g
 have hn : 1000 ≤ 1000 + lb.length + k.toNat + o.toNat + a.toNat + b.toNat + c.toNat + e.length + nm.length := by omega
 generalize 1000 + lb.length + k.toNat + o.toNat + a.toNat + b.toNat + c.toNat + e.length + nm.length = n at hn
 unfold rivetlaw17_StmtBack.f
 rw [shown17, Option.bind_some]
 dsimp only at hf
 rw [hf, Option.bind_some]
 obtain ⟨m1, m2, r, hr, hl⟩ := label_take lb (wfLen h1)
 split
 ·rw [if_pos ⟨m1, m2⟩, hr, Option.bind_some]
  exact tback_j6 n hn hg (.inr hl)
 ·exact tback_j6 n hn hg (.inl rfl)
end Rv
