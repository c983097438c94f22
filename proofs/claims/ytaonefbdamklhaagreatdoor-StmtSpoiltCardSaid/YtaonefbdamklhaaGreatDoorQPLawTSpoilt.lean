/- Texts put together, part 13 of 18. -/
import Derived.Test.YtaonefbdamklhaaGreatDoorQPStmX
set_option linter.all false
namespace Rv
open Go
theorem spoilt_j16 (n : Nat) {g : Int} (hg : g = 22 ∨ g = 24) {x : Sm} (hx : mayG x = some (false, ())) : rivetlaw17_StmtSpoilt.j16 n true 0 0 g x.k x.o x.a x.b x.c x.u x.e x.nm = some (true, ()) := by
 unfold rivetlaw17_StmtSpoilt.j16
 have h1 : stmt_Print.g [] x.k x.o x.a x.b x.c x.u x.e x.nm = some ([], 22, ()) := print_bad (.inr hx) ⟨_, hx⟩
 have h2 : stmt_Print.g [82, 49] 0 0 0 0 0 false [] [] = some ([], 22, ()) := print_bad (s := ⟨0, 0, 0, 0, 0, false, [], []⟩) (lb := [82, 49]) (.inl ⟨by simp, by decide +kernel⟩) ⟨_, may_good .none⟩
 have h3 : stmt_May.g x.k x.o x.a x.b x.c x.u x.e x.nm = some (false, ()) := hx
 rw [h1, Option.bind_some, h2, Option.bind_some, h3]
 rcases hg with rfl | rfl <;> rfl
theorem spoilt_wf {k o a b c w : Int} {u : Bool} {e : List Item} {nm : Str} (h : (Lit.int .i64 k).wf = true ∧ (Lit.int .i64 o).wf = true ∧ (Lit.int .i64 a).wf = true ∧ (Lit.int .i64 b).wf = true ∧ (Lit.int .i64 c).wf = true ∧ wfE e ∧ nm.length ≤ maxLen ∧ (Lit.int .u8 w).wf = true ∧ True) :
  rivetlaw17_StmtSpoilt.g k o a b c u e nm w = some (true, ()) := by
 obtain ⟨_, _, _, _, _, h2, h3, _, _⟩ := h
 have hw := wfSm_of (k := k) (o := o) (a := a) (b := b) (c := c) (u := u) h2 h3
 obtain ⟨x, t, hf, hg⟩ := fit17 _ hw
 unfold rivetlaw17_StmtSpoilt.g
 generalize 1000 + k.toNat + o.toNat + a.toNat + b.toNat + c.toNat + e.length + nm.length + w.toNat = n
 unfold rivetlaw17_StmtSpoilt.f
 rw [shown17, Option.bind_some]
 dsimp only at hf
 rw [hf, Option.bind_some]
 unfold smF
 dsimp only
 have hp : stmt_Print.g [] x.k x.o x.a x.b x.c x.u x.e x.nm = some (ltx [] x t, 0, ()) := print_good hg (.inl rfl)
 have hlen := ltx_len hg (.inl rfl)
 obtain ⟨ts, hs, E, hE, hq⟩ := text_comma hg
 have hel := (good_elen hg).1
 rw [hp, Option.bind_some]
 dsimp only
 rw [if_pos (by simp; omega), hs, Option.bind_some, hq, Option.bind_some]
 unfold noP
 dsimp only
 split
 ·exact spoilt_j16 n hE (x := { x with a := 16 }) (may_false (by show x.e.length ≤ _; omega) fun g => absurd g.2.1.2 (show ¬ (16 : Int) < 16 by decide))
 ·split
  ·exact spoilt_j16 n hE (x := { x with k := 11 }) (may_false (by show x.e.length ≤ _; omega) fun g => absurd g.1.2 (show ¬ (11 : Int) ≤ 10 by decide))
  ·split
   ·refine spoilt_j16 n hE (x := { x with nm := [82, 49] }) (may_false (by show x.e.length ≤ _; omega) fun g => ?_)
    rcases g.2.2.2.1 with g | g
    ·exact absurd (show ([82, 49] : Str) = [] from g) (by decide)
    ·exact absurd (show nameOk [82, 49] = true from g) (by decide +kernel)
   ·split
    ·rw [List.nil_append, if_pos (by simp; omega), if_pos (by simp; omega)]
     exact spoilt_j16 n hE (x := { x with e := x.e ++ [(1, 0, [], ())] }) (spoilt_e hg)
    ·exact spoilt_j16 n hE (x := { x with c := -1 }) (may_false (by show x.e.length ≤ _; omega) fun g => absurd g.2.2.1.1 (show ¬ (0 : Int) ≤ -1 by decide))
end Rv
