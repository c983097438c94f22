/- Texts put together. -/
import Derived.Test.YtaonefbdamklhaaGreatDoorW2
set_option linter.all false
namespace Rv
open Go
abbrev noLn : Ln := ([], (0, 0, 0, 0, 0, false, [], [], ()), ())
theorem one_nil : oneR [] = noP 0 := by
 unfold oneR
 rw [lineR_nil]
 rfl
theorem one_note (s : Str) : oneR (59 :: s) = noP 0 := by
 unfold oneR
 rw [lineR_cons, if_pos rfl]
 rfl
theorem each_none : ∀ (l : List Str) (i : Nat), (∀ s ∈ l, oneR s = noP 0) → eachR i l = .ok (List.replicate l.length noLn)
 | [], _, _ => rfl
 | s :: l, i, h => by
  rw [eachR, h s (List.mem_cons_self ..), if_neg (show ¬ errP (noP 0) ≠ 0 by decide), each_none l (i + 1) fun x hx => h x (List.mem_cons_of_mem _ hx)]
  rfl
theorem lines_nls : ∀ (k : Nat) (y : Str), linesR (List.replicate k 10 ++ y) = List.replicate k [] ++ linesR y
 | 0, y => rfl
 | k + 1, y => by rw [List.replicate_succ, List.cons_append, linesR, if_pos rfl, lines_nls k y]; rfl
theorem bytes_nl (k : Nat) : bytesOf (List.replicate k (10 : Int)) = List.replicate k 10 := by
 unfold bytesOf
 rw [List.map_replicate]
 rfl
theorem xempty_l17 (n : Nat) {M : Nat} (hM : M ≤ 5000) {c : List Ln} {e : Int} (hc : (M ≤ 4096 ∧ c.length = M ∧ e = 0) ∨ (4096 < M ∧ c = [] ∧ e = 2)) {w : Nat} (hw : w ≤ 100) : ∀ (m i : Nat), i ≤ w → w - i < m →
  rivetlaw18_TextEmpty.l17 text_Parse.g n m true (M : Int) c 0 e (w : Int) (List.replicate w noLn) 0 0 (i : Int) = some (true, ()) := by
 intro m
 induction m with
 | zero => intro i _ h; omega
 | succ m ih =>
  intro i hi hm
  have W1 : IntKind.i64.wrap ((i : Int) + 1) = ((i + 1 : Nat) : Int) := by rw [w64 (by omega)]; omega
  rw [rivetlaw18_TextEmpty.l17, W1]
  by_cases h : i < w
  ·have hsl : ((List.replicate w noLn).take (i + 1)).drop i = [noLn] := by
    rw [List.take_replicate, List.drop_replicate, Nat.min_eq_left (by omega), show i + 1 - i = 1 by omega]; rfl
   have hsm := same18_refl [noLn] (by simp) (fun x hx => by rw [List.mem_singleton] at hx; subst hx; exact Nat.zero_le _)
   rw [if_pos (by simp; omega), if_pos (by simp; omega), if_pos (by omega), Int.toNat_natCast, Int.toNat_natCast, hsl, hsm, Option.bind_some, if_neg (by decide)]
   exact ih (i + 1) (by omega) (by omega)
  ·have hz : (bytesOf (List.replicate ((262145 : Int)).toNat 0)).length = 262145 := by
    unfold bytesOf
    rw [List.length_map, List.length_replicate]; rfl
   have hp : text_Parse.g (bytesOf (List.replicate ((262145 : Int)).toNat 0)) = some ([], 0, 2, ()) := by
    rw [parseT_eq _ (by omega)]
    unfold parseT
    rw [if_pos (by omega)]
   rw [if_neg (by simp; omega), if_pos (by refine ⟨by decide, rfl, by decide, by decide, by decide⟩), hp, Option.bind_some]
   rcases hc with ⟨h1, h2, rfl⟩ | ⟨h1, rfl, rfl⟩
   ·have e1 : decide ((M : Int) ≤ 4096) = true := by simp; omega
    rw [e1, h2]
    simp
   ·have e1 : decide ((M : Int) ≤ 4096) = false := by simp; omega
    rw [e1]
    simp
theorem xempty_j15 (n : Nat) (hn : 1000 ≤ n) {M : Nat} (hM : M ≤ 5000) {c : List Ln} {e : Int} (hc : (M ≤ 4096 ∧ c.length = M ∧ e = 0) ∨ (4096 < M ∧ c = [] ∧ e = 2)) {w : Nat} (hw : w ≤ 100) {s : Str} (hs : s.length ≤ 200) (hp : eachR 0 (linesR s) = .ok (List.replicate w noLn)) :
  rivetlaw18_TextEmpty.j15 text_Parse.g n true (M : Int) c 0 e s (w : Int) = some (true, ()) := by
 unfold rivetlaw18_TextEmpty.j15
 rw [parseT_eq s (by omega), Option.bind_some, parseT_small (by omega), hp]
 have := xempty_l17 n hM hc hw n 0 (by omega) (by omega)
 exact this
theorem xempty_l5 (n : Nat) (hn : 1000 ≤ n) (a : Int) (ha : 0 ≤ a ∧ a ≤ 255) (b : Bool) {M : Nat} (hM : M ≤ 5000) (hM2 : 100 ≤ M) : ∀ (m i : Nat), i ≤ M → M - i < m →
  rivetlaw18_TextEmpty.l5 text_Parse.g n m a b true (M : Int) (List.replicate i 10 ++ List.replicate (M - i) 0) (i : Int) = some (true, ()) := by
 intro m
 induction m with
 | zero => intro i _ h; omega
 | succ m ih =>
  intro i hi hm
  rw [rivetlaw18_TextEmpty.l5]
  by_cases h : i < M
  ·have W1 : IntKind.i64.wrap ((i : Int) + 1) = ((i + 1 : Nat) : Int) := by rw [w64 (by omega)]; omega
   have hset : (List.replicate i (10 : Int) ++ List.replicate (M - i) 0).set i 10 = List.replicate (i + 1) 10 ++ List.replicate (M - (i + 1)) 0 := by
    obtain ⟨q, hq⟩ : ∃ q, M - i = q + 1 := ⟨M - i - 1, by omega⟩
    rw [List.set_append_right _ _ (by simp), List.length_replicate, Nat.sub_self, hq, List.replicate_succ, List.set_cons_zero, show M - (i + 1) = q by omega, List.replicate_succ', List.append_assoc]
    rfl
   rw [if_pos (by simp; omega), if_pos (by simp; omega), Int.toNat_natCast, hset, W1]
   exact ih (i + 1) (by omega) (by omega)
  ·obtain rfl : i = M := by omega
   rw [if_neg (by simp), Nat.sub_self, List.replicate_zero, List.append_nil, bytes_nl]
   have hp : parseT (List.replicate i 10) = if 4096 < i then ([], 0, 2, ()) else (List.replicate i noLn, 0, 0, ()) := by
    unfold parseT
    have hl : linesR (List.replicate i 10) = List.replicate i [] := by have := lines_nls i []; rw [List.append_nil, linesR, List.append_nil] at this; exact this
    rw [if_neg (by simp; omega), hl, List.length_replicate]
    split
    ·rfl
    ·rw [each_none _ 0 (fun s hs => by rw [(List.mem_replicate.1 hs).2]; exact one_nil)]
     simp [outE]
   rw [parseT_eq _ (by simp; omega), Option.bind_some, hp]
   have hk : IntKind.i64.wrap (Int.tmod a 64) = ((a.toNat % 64 : Nat) : Int) := by
    rw [Int.tmod_eq_emod_of_nonneg ha.1, w64 (by omega)]; omega
   have hk2 : a.toNat % 64 < 64 := Nat.mod_lt _ (by decide)
   rw [hk]
   generalize a.toNat % 64 = K at hk2
   have htk : (List.replicate i (10 : Int)).take K = List.replicate K 10 := by rw [List.take_replicate, Nat.min_eq_left (by omega)]
   have hc : ∃ c e, (if 4096 < i then (([] : List Ln), (0 : Int), (2 : Int), ()) else (List.replicate i noLn, 0, 0, ())) = (c, 0, e, ()) ∧ ((i ≤ 4096 ∧ c.length = i ∧ e = 0) ∨ (4096 < i ∧ c = [] ∧ e = 2)) := by
    by_cases h4 : 4096 < i
    ·exact ⟨[], 2, by rw [if_pos h4], .inr ⟨h4, rfl, rfl⟩⟩
    ·exact ⟨List.replicate i noLn, 0, by rw [if_neg h4], .inl ⟨by omega, by simp, rfl⟩⟩
   obtain ⟨c, e, hce, hc⟩ := hc
   rw [hce]
   dsimp only
   rw [if_pos (by simp; omega), Int.toNat_natCast, htk, bytes_nl]
   cases b with
   | true =>
    have W2 : IntKind.i64.wrap ((K : Int) + 1) = ((K + 1 : Nat) : Int) := by rw [w64 (by omega)]; omega
    rw [if_pos rfl, if_pos (by simp; omega), W2]
    refine xempty_j15 n hn hM hc (w := K + 1) (by omega) (by simp; omega) ?_
    have hl : linesR [59, 32, 120] = [[59, 32, 120]] := rfl
    rw [lines_nls, hl, each_none]
    ·simp
    ·intro s hs
     rcases List.mem_append.1 hs with hs | hs
     ·rw [(List.mem_replicate.1 hs).2]; exact one_nil
     ·rw [List.mem_singleton] at hs; subst hs; exact one_note _
   | false =>
    rw [if_neg (by decide)]
    refine xempty_j15 n hn hM hc (w := K) (by omega) (by simp; omega) ?_
    have hl := lines_nls K []
    rw [List.append_nil, linesR, List.append_nil] at hl
    rw [hl, each_none _ 0 (fun s hs => by rw [(List.mem_replicate.1 hs).2]; exact one_nil), List.length_replicate]
theorem xempty_wf {a b : Int} {c : Bool} (h : (Lit.int .u8 a).wf = true ∧ (Lit.int .u8 b).wf = true ∧ True) : rivetlaw18_TextEmpty.g a b c = some (true, ()) := by
 have ha := wfU8 h.1
 have hb := wfU8 h.2.1
 unfold rivetlaw18_TextEmpty.g
 generalize hn : (1000000 : Nat) = n
 have hn : 10000 ≤ n := by omega
 unfold rivetlaw18_TextEmpty.f
 rw [shown18, Option.bind_some]
 have h1 : IntKind.i64.wrap (4081 + IntKind.i64.wrap (Int.tmod a 31)) = ((4081 + a.toNat % 31 : Nat) : Int) := by
  rw [Int.tmod_eq_emod_of_nonneg ha.1, w64 (x := a % 31) (by omega), w64 (by omega)]; omega
 have h2 : a.toNat % 31 < 31 := Nat.mod_lt _ (by decide)
 rw [h1]
 generalize a.toNat % 31 = K at h2
 rw [if_pos (by omega), Int.toNat_natCast]
 have := xempty_l5 n (by omega) b hb c (M := 4081 + K) (by omega) (by omega) n 0 (by omega) (by omega)
 exact this
end Rv
