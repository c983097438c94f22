/- Texts put together, part 12 of 18. -/
import Derived.Test.YtaonefbdamklhaaGreatDoorQ8
set_option linter.all false
namespace Rv
open Go
theorem okT_num {n : Int} (h : 0 ≤ n ∧ n ≤ 4294967295) : okT' (.num n) := ⟨h, trivial, rfl, by show 1 ≤ 64; decide⟩
theorem good_num {s : Sm} {t : Tr} (h : GoodS s (some t)) {n : Int} (hn : 0 ≤ n ∧ n ≤ 4294967295) : GoodS { s with e := [(1, n, [], ())] } (some (.num n)) := by
 cases h with
 | ins1 h hk _ => exact .ins1 (t := .num n) h hk (okT_num hn)
 | load h _ => exact .load (t := .num n) h (okT_num hn)
 | word _ => exact .word (t := .num n) (okT_num hn)
def seven (s : Sm) : Sm := if (0 : Int) < s.e.length then { s with e := [(1, 7, [], ())] } else s
theorem good_seven {s : Sm} {t : Option Tr} (h : GoodS s t) : ∃ t', GoodS (seven s) t' ∧ ∀ x, t' = some x → ∃ n, x = .num n := by
 unfold seven
 cases t with
 | none =>
  have he := (good_elen h).2.1
  rw [he, if_neg (by show ¬ (0 : Int) < ((([] : List Item)).length : Int); decide)]
  exact ⟨none, h, fun x hx => by cases hx⟩
 | some z =>
  have he := (good_elen h).2.1
  have := z.post_pos
  rw [he, if_pos (by show (0 : Int) < (z.post.length : Int); omega)]
  exact ⟨_, good_num h (n := 7) ⟨by decide, by decide⟩, fun x hx => ⟨7, (Option.some.inj hx).symm⟩⟩
theorem deep_num {t : Option Tr} (h : ∀ x, t = some x → ∃ n, x = .num n) : deepOk t := fun x hx => by
 obtain ⟨n, rfl⟩ := h x hx
 exact Nat.zero_le _
theorem may_false {s : Sm} (he : s.e.length ≤ 4611686018427387904) (h : ¬ ((0 ≤ s.k ∧ s.k ≤ 10) ∧ rg s.a ∧ rg s.c ∧ (s.nm = [] ∨ nameOk s.nm = true) ∧ (s.e = [] ∨ well s.e = true))) : mayG s = some (false, ()) := by
 obtain ⟨r, hr, hg⟩ := may_only s he
 cases r with
 | false => exact hr
 | true => exact absurd (hg rfl) h
theorem may_noE {s : Sm} (hk : ¬ (s.k = 2 ∨ s.k = 5 ∨ s.k = 7 ∨ s.k = 8 ∨ s.k = 9)) (hne : s.e ≠ []) : mayG s = some (false, ()) := by
 unfold mayG stmt_May.g
 generalize 1000 + _ + _ + _ + _ + _ + _ + _ = n
 unfold stmt_May.f
 have : decide ((0 : Int) < s.e.length) = true := by have := List.length_pos_iff.2 hne; simp; omega
 simp only [numbered_eq, Option.bind_some]
 rw [decide_eq_false hk, this, if_neg (by decide)]
theorem well_more {e : List Item} (h : wellL e) : well (e ++ [(1, 0, [], ())]) = false := by
 cases hw : well (e ++ [(1, 0, [], ())]) with
 | false => rfl
 | true =>
  exfalso
  unfold well at hw
  rw [Bool.and_eq_true, wellR_enough, enough_app, show enough 0 e = some 1 from h, Option.bind_some] at hw
  exact absurd hw.1 (by decide)
theorem spoilt_e {s : Sm} {t : Option Tr} (h : GoodS s t) : mayG { s with e := s.e ++ [(1, 0, [], ())] } = some (false, ()) := by
 obtain ⟨h1, h2, h3⟩ := good_elen h
 cases t with
 | none =>
  refine may_noE ?_ (by simp)
  cases h with
  | none => decide
  | ins0 _ hk => show ¬ (_ ∨ _); dsimp only; omega
  | exp _ => show ¬ ((10 : Int) = 2 ∨ (10 : Int) = 5 ∨ (10 : Int) = 7 ∨ (10 : Int) = 8 ∨ (10 : Int) = 9); decide
 | some z =>
  refine may_false (by simp; omega) fun g => ?_
  rcases g.2.2.2.2 with g | g
  ·exact absurd g (by simp)
  ·have g : well (s.e ++ [(1, 0, [], ())]) = true := g
   rw [h2, show postO (some z) = z.post from rfl, well_more (h3 z rfl).2.2.1] at g
   cases g
theorem text_comma {s : Sm} {t : Option Tr} (h : GoodS s t) : ∃ ts : List TokL, scan_Line.g (ltx [] s t ++ [32, 44]) = some (ts, 0, ()) ∧ ∃ e, (e = 22 ∨ e = 24) ∧ stmt_Parse.g ts = some (noP e) := by
 have hlen := ltx_len h (.inl rfl)
 have hs : Scans (ltx [] s t ++ [32, 44]) (ltk [] s t ++ [(3, [44], 0)]) :=
  (scans_ltx h (.inl rfl)).app (ScansA.blank.app (ScansA.sig 44 (by decide)).scans) (.inr ⟨32, [44], rfl, by decide⟩)
 obtain ⟨ts, h1, h2⟩ := scans_line hs (by simp; omega)
 have h3 := ltk_len h []
 have hl : ts.length ≤ 1000000 := by rw [← List.length_map (f := bare), h1]; simp; omega
 obtain ⟨g1, g2⟩ := parse_goodK hl h (.inl rfl) (.inr rfl) h1
 rw [if_neg (by simp)] at g1
 by_cases hd : deepOk t
 ·exact ⟨ts, h2, 22, .inl rfl, g1 hd⟩
 ·exact ⟨ts, h2, 24, .inr rfl, g2 hd⟩
end Rv
