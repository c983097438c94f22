/- Texts put together, part 16 of 18. -/
import Derived.Test.YtaonefbdamklhaaGreatDoorQPStmX
import Derived.Test.YtaonefbdamklhaaGreatDoorQPStmC
set_option linter.all false
namespace Rv
open Go
theorem cuts_loop (n : Nat) {ts : List TokL} (hl : ts.length ≤ 1000000) {s : Sm} {t : Option Tr} (h : GoodS s t) (ht : ∀ x, t = some x → ∃ n, x = .num n) (hb : ts.map bare = stk s t) : ∀ (m k : Nat), 1 ≤ k → ts.length - k < m → k ≤ 1000001 →
  rivetlaw17_StmtCuts.l12 n m ts (k : Int) = some (true, ()) := by
 intro m
 induction m with
 | zero => intro k _ h; omega
 | succ m ih =>
  intro k h1 hm hk
  rw [rivetlaw17_StmtCuts.l12]
  unfold rivetlaw17_StmtCuts.j13
  simp only [dt, Int.toNat_natCast, List.drop_zero]
  by_cases hlt : k < ts.length
  ·have hst : (stk s t).length = ts.length := by rw [← hb, List.length_map]
   obtain ⟨e, he, hp⟩ := parse_cut (l := ts.take k) (by simp; omega) h ht h1 (by omega) (by rw [← hb, List.map_take])
   rw [if_pos (by omega), if_pos (by omega), hp, Option.bind_some, w64 (by omega), show (k : Int) + 1 = ((k + 1 : Nat) : Int) by omega, ih (k + 1) (by omega) (by omega) (by omega)]
   unfold noP
   dsimp only
   rcases he with rfl | rfl <;> rfl
  ·rw [if_neg (by omega)]
theorem cuts_j5 (n : Nat) (hn : 1000 ≤ n) {x : Sm} {t : Option Tr} (h : GoodS x t) (ht : ∀ y, t = some y → ∃ n, y = .num n) : rivetlaw17_StmtCuts.j5 n true x.k x.o x.a x.b x.c x.u x.e x.nm = some (true, ()) := by
 have hd : deepOk t := deep_num ht
 obtain ⟨ts, hb, _, hs, _, _⟩ := text_good h (.inl rfl)
 have hp : stmt_Print.g [] x.k x.o x.a x.b x.c x.u x.e x.nm = some (ltx [] x t, 0, ()) := print_good h (.inl rfl)
 have hlab : labelOk [108, 97, 98] = true := by decide +kernel
 have hsc : Scans ([108, 97, 98] ++ ([58] ++ stx x t)) ([(1, [108, 97, 98], 0)] ++ ([(3, [58], 0)] ++ stk x t)) :=
  (scans_label hlab).app ((ScansA.sig 58 (by decide)).app (scans_stx h)) (.inr ⟨58, stx x t, rfl, by decide⟩)
 have hlen := stx_len h
 obtain ⟨ts2, hb2, hs2⟩ := scans_line hsc (by simp; omega)
 have hl := ltk_len h ([] : Str)
 have hl2 := ltk_len h [108, 97, 98]
 have hb2 : ts2.map bare = ltk [108, 97, 98] x t := hb2
 have hn1 : ts.length ≤ 600 := by rw [← List.length_map (f := bare), hb]; exact hl
 have hn2 : ts2.length ≤ 600 := by rw [← List.length_map (f := bare), hb2]; exact hl2
 obtain ⟨g1, _⟩ := parse_good (by omega) h (.inr hlab) hb2
 have hs2 : scan_Line.g ([108, 97, 98, 58] ++ ltx [] x t) = some (ts2, 0, ()) := hs2
 have hlx : (ltx [] x t).length ≤ 4100 := hlen
 have hsm := same_refl x (by have := (good_elen h).1; omega)
 unfold rivetlaw17_StmtCuts.j5
 rw [hp, Option.bind_some, hs, Option.bind_some]
 dsimp only
 rw [if_pos (by simp; omega), hs2, Option.bind_some]
 dsimp only
 rw [g1 hd, Option.bind_some]
 unfold smP
 dsimp only
 have hloop := cuts_loop n (ts := ts) (by omega) h ht hb n 1 (by omega) (by omega) (by omega)
 rw [show ((1 : Nat) : Int) = 1 from rfl] at hloop
 rw [hsm, Option.bind_some, hloop]
 simp
theorem cuts_wf {k o a b c : Int} {u : Bool} {e : List Item} {nm : Str} (h : (Lit.int .i64 k).wf = true ∧ (Lit.int .i64 o).wf = true ∧ (Lit.int .i64 a).wf = true ∧ (Lit.int .i64 b).wf = true ∧ (Lit.int .i64 c).wf = true ∧ wfE e ∧ nm.length ≤ maxLen ∧ True) :
  rivetlaw17_StmtCuts.g k o a b c u e nm = some (true, ()) := by
 obtain ⟨_, _, _, _, _, h2, h3, _⟩ := h
 have hw := wfSm_of (k := k) (o := o) (a := a) (b := b) (c := c) (u := u) h2 h3
 obtain ⟨x, t, hf, hg⟩ := fit17 _ hw
 unfold rivetlaw17_StmtCuts.g
 have hn : 1000 ≤ 1000 + k.toNat + o.toNat + a.toNat + b.toNat + c.toNat + e.length + nm.length := by omega
 generalize 1000 + k.toNat + o.toNat + a.toNat + b.toNat + c.toNat + e.length + nm.length = n at hn
 unfold rivetlaw17_StmtCuts.f
 rw [shown17, Option.bind_some]
 dsimp only at hf
 rw [hf, Option.bind_some]
 unfold smF
 dsimp only
 obtain ⟨t', hg', ht'⟩ := good_seven hg
 have := cuts_j5 n hn hg' ht'
 unfold seven at this
 simp only [dt]
 split at this
 ·rename_i hc
  rw [if_pos hc]; exact this
 ·rename_i hc
  rw [if_neg hc]; exact this
end Rv
