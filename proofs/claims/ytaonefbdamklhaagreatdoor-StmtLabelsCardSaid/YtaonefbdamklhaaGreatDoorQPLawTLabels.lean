/- Texts put together, part 18 of 18. -/
import Derived.Test.YtaonefbdamklhaaGreatDoorQPStmX
import Derived.Test.YtaonefbdamklhaaGreatDoorQPFitN
set_option linter.all false
namespace Rv
open Go
theorem parse_badlabel {l : List TokL} (hl : l.length ≤ 1000000) {x : Str} (hx : labelOk x = false) (hxl : x.length ≤ 1000) (hb : l.map bare = [(1, x, 0), (3, [58], 0)]) : stmt_Parse.g l = some (noP 22) := by
 have hlen : ∀ t ∈ l, t.2.2.1.length ≤ 1000000 := bare_len hb fun b hb => by
  simp only [List.mem_cons, List.not_mem_nil, or_false] at hb
  rcases hb with rfl | rfl
  ·exact hxl
  ·decide
 rw [parse_eq' hl hlen]
 have hat : At l 0 ((1, x, 0) :: (3, [58], 0) :: []) := by unfold At; rw [List.drop_zero]; exact hb
 obtain ⟨b0, b1, a1⟩ := At.cons hat
 obtain ⟨b2, b3, _⟩ := At.cons a1
 simp only [bare, Prod.mk.injEq] at b1 b3
 unfold parseS
 rw [if_pos ⟨b2, b1.1, isSg_iff.2 ⟨b2, b3.1, b3.2.1⟩⟩, b1.2.1, hx, show chk false 0 = 22 from rfl]
 unfold headR outR
 rw [if_neg (fun g => absurd g.1 (by decide)), if_pos (by decide)]
 rfl
theorem parse_two {l : List TokL} (hl : l.length ≤ 1000000) {x : Str} (hx : labelOk x = true) (hm : (L.ofR x).2.2.2.1 = false) (hb : l.map bare = [(1, x, 0), (3, [58], 0), (1, x, 0), (3, [58], 0)]) : stmt_Parse.g l = some (noP 22) := by
 have hlen : ∀ t ∈ l, t.2.2.1.length ≤ 1000000 := bare_len hb fun b hb => by
  have hxl : x.length ≤ 1000 := Nat.le_trans (label_len hx) (by decide)
  simp only [List.mem_cons, List.not_mem_nil, or_false] at hb
  rcases hb with rfl | rfl | rfl | rfl
  ·exact hxl
  ·decide
  ·exact hxl
  ·decide
 rw [parse_eq' hl hlen]
 have hat : At l 0 ((1, x, 0) :: (3, [58], 0) :: (1, x, 0) :: (3, [58], 0) :: []) := by unfold At; rw [List.drop_zero]; exact hb
 obtain ⟨b0, b1, a1⟩ := At.cons hat
 obtain ⟨b2, b3, a2⟩ := At.cons a1
 obtain ⟨b4, b5, _⟩ := At.cons a2
 simp only [bare, Prod.mk.injEq] at b1 b3 b5
 unfold parseS
 rw [if_pos ⟨b2, b1.1, isSg_iff.2 ⟨b2, b3.1, b3.2.1⟩⟩, b1.2.1, hx, show chk true 0 = 0 from rfl]
 rw [head_wrong b4 (by rw [b5.2.1]; exact hm)]
theorem dig_slice : ∀ a : Nat, a < 10 → (([48, 49, 50, 51, 52, 53, 54, 55, 56, 57] : Str).take (a + 1)).drop a = [UInt8.ofNat (48 + a)] := by decide +kernel
theorem reg_word : ∀ a : Nat, a < 10 → ∀ b : Nat, b < 10 → wordy [82, UInt8.ofNat (48 + a), UInt8.ofNat (48 + b)] = true ∧ labelOk [82, UInt8.ofNat (48 + a), UInt8.ofNat (48 + b)] = false := by decide +kernel
theorem lab_j20 (n : Nat) {lb : Str} (hl : labelOk lb = true) (w : Str) : rivetlaw17_StmtLabels.j20 n true lb (lb ++ [58]) 0 lb 0 w 0 22 22 w 0 0 0 0 0 false [] [] = some (true, ()) := by
 have hsm := same_refl ⟨0, 0, 0, 0, 0, false, [], []⟩ (by simp)
 dsimp only at hsm
 have := label_len hl
 unfold rivetlaw17_StmtLabels.j20
 rw [hsm, Option.bind_some]
 rw [if_pos rfl, if_pos (by decide), if_pos (by simp; omega)]
 simp
theorem lab_j6 (n : Nat) {w : Int} (hw : 0 ≤ w ∧ w ≤ 255) {lb : Str} (hl : labelOk lb = true) (hm : (L.ofR lb).2.2.2.1 = false) {x : Sm} {t : Option Tr} (h : GoodS x t) : rivetlaw17_StmtLabels.j6 n w true lb x.k x.o x.a x.b x.c x.u x.e x.nm = some (true, ()) := by
 have hll := label_len hl
 have hne : lb ≠ [] := by rintro rfl; exact absurd hl (by decide)
 have p1 : stmt_Print.g lb 0 0 0 0 0 false [] [] = some (ltx lb ⟨0, 0, 0, 0, 0, false, [], []⟩ none, 0, ()) := print_good .none (.inr hl)
 have e1 : ltx lb ⟨0, 0, 0, 0, 0, false, [], []⟩ none = lb ++ [58] := by unfold ltx; rw [if_neg hne]; rfl
 rw [e1] at p1
 have s1 : Scans (lb ++ ([32] ++ ([58] ++ [32]))) ([(1, lb, 0)] ++ ([] ++ ([(3, [58], 0)] ++ []))) :=
  (scans_label hl).app (ScansA.blank.appA ((ScansA.sig 58 (by decide)).appA ScansA.blank)).scans (.inr ⟨32, [58, 32], rfl, by decide⟩)
 obtain ⟨t1, b1, l1⟩ := scans_line s1 (by simp; omega)
 have b1 : t1.map bare = [(1, lb, 0), (3, [58], 0)] := b1
 have n1 : t1.length = 2 := by rw [← List.length_map (f := bare), b1]; rfl
 have q1 := (parse_good (l := t1) (by omega) GoodS.none (.inr hl) (by rw [b1]; unfold ltk; rw [if_neg hne]; rfl)).1 (fun x hx => by cases hx)
 have l1 : scan_Line.g (lb ++ [32, 58, 32]) = some (t1, 0, ()) := l1
 have p2 : stmt_Print.g lb x.k x.o x.a x.b x.c x.u x.e x.nm = some (ltx lb x t, 0, ()) := print_good h (.inr hl)
 have p3 : stmt_Print.g [] x.k x.o x.a x.b x.c x.u x.e x.nm = some (ltx [] x t, 0, ()) := print_good h (.inl rfl)
 have hst := stx_len h
 have e3 : ltx [] x t = stx x t := rfl
 obtain ⟨k, rfl⟩ : ∃ k : Nat, w = (k : Int) := ⟨w.toNat, by omega⟩
 have d0 : Int.tdiv (k : Int) 10 = ((k / 10 : Nat) : Int) := by rw [Int.tdiv_eq_ediv_of_nonneg (by omega)]; omega
 have d1 : Int.tmod (IntKind.u8.wrap (Int.tdiv (k : Int) 10)) 10 = ((k / 10 % 10 : Nat) : Int) := by
  rw [d0, w8u (by omega), Int.tmod_eq_emod_of_nonneg (by omega)]; omega
 have d2 : Int.tmod (k : Int) 10 = ((k % 10 : Nat) : Int) := by rw [Int.tmod_eq_emod_of_nonneg (by omega)]; omega
 have ha : k / 10 % 10 < 10 := Nat.mod_lt _ (by decide)
 have hb : k % 10 < 10 := Nat.mod_lt _ (by decide)
 generalize k / 10 % 10 = A at d1 ha
 generalize k % 10 = B at d2 hb
 have w1 : IntKind.u8.wrap ((A : Int) + 1) = ((A + 1 : Nat) : Int) := by rw [w8u (by omega)]; omega
 have w2 : IntKind.u8.wrap ((B : Int) + 1) = ((B + 1 : Nat) : Int) := by rw [w8u (by omega)]; omega
 obtain ⟨r1, r2⟩ := reg_word A ha B hb
 generalize hR : ([82, UInt8.ofNat (48 + A), UInt8.ofNat (48 + B)] : Str) = R at r1 r2
 have s4 : Scans (R ++ [58]) ([(1, R, 0)] ++ [(3, [58], 0)]) := (scans_word r1).app (ScansA.sig 58 (by decide)).scans (.inr ⟨58, [], rfl, by decide⟩)
 obtain ⟨t4, b4, l4⟩ := scans_line s4 (by rw [← hR]; simp)
 have b4 : t4.map bare = [(1, R, 0), (3, [58], 0)] := b4
 have n4 : t4.length = 2 := by rw [← List.length_map (f := bare), b4]; rfl
 have q4 := parse_badlabel (l := t4) (by omega) r2 (by rw [← hR]; simp) b4
 have s5 : Scans (lb ++ ([58] ++ (lb ++ [58]))) ([(1, lb, 0)] ++ ([(3, [58], 0)] ++ ([(1, lb, 0)] ++ [(3, [58], 0)]))) :=
  (scans_label hl).app ((ScansA.sig 58 (by decide)).app ((scans_label hl).app (ScansA.sig 58 (by decide)).scans (.inr ⟨58, [], rfl, by decide⟩))) (.inr ⟨58, lb ++ [58], rfl, by decide⟩)
 obtain ⟨t5, b5, l5⟩ := scans_line s5 (by simp; omega)
 have b5 : t5.map bare = [(1, lb, 0), (3, [58], 0), (1, lb, 0), (3, [58], 0)] := b5
 have n5 : t5.length = 4 := by rw [← List.length_map (f := bare), b5]; rfl
 have q5 := parse_two (l := t5) (by omega) hl hm b5
 have l5 : scan_Line.g (lb ++ [58] ++ lb ++ [58]) = some (t5, 0, ()) := by rw [← l5]; congr 1; simp
 have J := fun v => lab_j20 n hl v
 have c1 : (lb ++ [32, 58, 32]).length ≤ 9223372036854775807 := by simp; omega
 unfold rivetlaw17_StmtLabels.j6
 rw [p1, Option.bind_some]
 dsimp only
 rw [if_pos (by simp; omega), l1, Option.bind_some]
 dsimp only
 rw [q1, Option.bind_some, p2, Option.bind_some]
 dsimp only
 rw [d1, d2, w1, w2]
 simp only [Int.toNat_natCast]
 rw [dig_slice A ha, dig_slice B hb]
 have hR' : ([82] : Str) ++ [UInt8.ofNat (48 + A)] ++ [UInt8.ofNat (48 + B)] = R := hR
 rw [hR']
 rw [if_pos (by simp; omega), if_pos (by omega), if_pos (by simp), if_pos (by simp; omega), if_pos (by omega), if_pos (by simp), if_pos (by rw [← hR]; simp), l4, Option.bind_some]
 dsimp only
 rw [q4, Option.bind_some, if_pos (by simp; omega), if_pos (by simp; omega), if_pos (by simp; omega), l5, Option.bind_some]
 dsimp only
 rw [q5, Option.bind_some, if_pos (by simp; omega), p3, Option.bind_some]
 unfold smP noP
 dsimp only
 by_cases h0 : x.k = 0
 ·have e2 : ltx lb x t = lb ++ [58] := by unfold ltx; rw [if_neg hne, if_pos h0]
  rw [if_neg (by simp [h0]), e2]
  exact J _
 ·have e2 : ltx lb x t = lb ++ [58] ++ [32] ++ ltx [] x t := by unfold ltx; rw [if_neg hne, if_neg h0, if_pos rfl]; simp
  rw [if_pos (by simp [h0]), if_pos (by simp; omega), if_pos (by simp only [List.length_append, List.length_cons, List.length_nil, e3]; omega), ← e2]
  exact J _
theorem labels_wf {s : Str} {k o a b c w : Int} {u : Bool} {e : List Item} {nm : Str} (h : s.length ≤ maxLen ∧ (Lit.int .i64 k).wf = true ∧ (Lit.int .i64 o).wf = true ∧ (Lit.int .i64 a).wf = true ∧ (Lit.int .i64 b).wf = true ∧ (Lit.int .i64 c).wf = true ∧ wfE e ∧ nm.length ≤ maxLen ∧ (Lit.int .u8 w).wf = true ∧ True) :
  rivetlaw17_StmtLabels.g s k o a b c u e nm w = some (true, ()) := by
 obtain ⟨h1, _, _, _, _, _, h2, h3, h4, _⟩ := h
 have hw := wfSm_of (k := k) (o := o) (a := a) (b := b) (c := c) (u := u) h2 h3
 obtain ⟨x, t, hf, hg⟩ := fit17 _ hw
 obtain ⟨m1, m2, r, hr, hl⟩ := label_take s (wfLen h1)
 have hmn : ((mn (s.length : Int) 20)).toNat ≤ 20 := by unfold mn; split <;> omega
 obtain ⟨r', hr', hm⟩ := fit13_noMn ((s.take ((mn (s.length : Int) 20)).toNat).drop 0) (by simp; omega)
 rw [hr] at hr'
 obtain rfl : r = r' := (Prod.mk.inj (Option.some.inj hr')).1
 unfold rivetlaw17_StmtLabels.g
 generalize 1000 + s.length + k.toNat + o.toNat + a.toNat + b.toNat + c.toNat + e.length + nm.length + w.toNat = n
 unfold rivetlaw17_StmtLabels.f
 rw [shown17, Option.bind_some, if_pos ⟨m1, m2⟩, hr, Option.bind_some]
 dsimp only at hf ⊢
 rw [hf, Option.bind_some]
 unfold smF
 dsimp only
 obtain ⟨t', hg', ht'⟩ := good_seven hg
 have := lab_j6 n (wfU8 h4) hl (ofR_noMn hm) hg'
 unfold seven at this
 simp only [dt]
 split at this
 ·rename_i hc
  rw [if_pos hc]; exact this
 ·rename_i hc
  rw [if_neg hc]; exact this
end Rv
