/- Texts put together. -/
import Derived.Test.YtaonefbdamklhaaGreatDoorW2
set_option linter.all false
namespace Rv
open Go
theorem xjoin_loop (n : Nat) (s : Str) (hs : s.length ≤ 1000000) (c : List Ln) (d e : Int) (y : List Ln) (j k : Int) (z : List Ln) (o p : Int) : ∀ (m i q : Nat), i ≤ s.length → s.length - i < m → q ≤ i →
  rivetlaw18_TextJoin.l8 n m true s c d e y j k z o p (q : Int) (i : Int) = rivetlaw18_TextJoin.l8 n 1 true s c d e y j k z o p ((q + nls (s.drop i) : Nat) : Int) (s.length : Int) := by
 intro m
 induction m with
 | zero => intro i q _ h; omega
 | succ m ih =>
  intro i q hi hm hq
  by_cases h : i < s.length
  ·rw [rivetlaw18_TextJoin.l8]
   unfold rivetlaw18_TextJoin.j9
   simp only [dt]
   rw [if_pos (by omega), if_pos (by omega), drop_cons h, nls, bt_nat]
   have w1 : IntKind.i64.wrap ((i : Int) + 1) = ((i + 1 : Nat) : Int) := by rw [w64 (by omega)]; omega
   have w2 : IntKind.i64.wrap ((q : Int) + 1) = ((q + 1 : Nat) : Int) := by rw [w64 (by omega)]; omega
   rw [w1, w2]
   have hb := byte_is (s.getD i 0) 10 (by decide)
   by_cases h1 : s.getD i 0 = 10
   ·rw [if_pos (by rw [h1]; rfl), if_pos h1, ih (i + 1) (q + 1) (by omega) (by omega) (by omega), Nat.add_assoc]
   ·rw [if_neg (fun g => h1 (by have := hb.mp g; simpa using this)), if_neg h1, ih (i + 1) q (by omega) (by omega) (by omega), Nat.zero_add]
  ·obtain rfl : i = s.length := by omega
   rw [List.drop_length]
   show _ = rivetlaw18_TextJoin.l8 n 1 true s c d e y j k z o p (q : Int) (s.length : Int)
   have hc : ¬ decide ((s.length : Int) < (s.length : Int)) = true := by simp
   rw [rivetlaw18_TextJoin.l8, rivetlaw18_TextJoin.l8, if_neg hc, if_neg hc]
theorem xjoin_wf {a b : Str} (h : a.length ≤ maxLen ∧ b.length ≤ maxLen ∧ True) : rivetlaw18_TextJoin.g a b = some (true, ()) := by
 have ha := wfLen h.1
 have hb := wfLen h.2.1
 unfold rivetlaw18_TextJoin.g
 have hn : 1000 ≤ 1000 + a.length + b.length := by omega
 generalize 1000 + a.length + b.length = n at hn
 unfold rivetlaw18_TextJoin.f
 rw [shown18, Option.bind_some, few18 a ha, Option.bind_some]
 dsimp only
 have la : (a.take 500).length ≤ 500 := by rw [List.length_take]; omega
 have lb : (b.take 500).length ≤ 500 := by rw [List.length_take]; omega
 generalize a.take 500 = A at la
 have hS : (A ++ [10]).length = A.length + 1 := by simp
 rw [if_pos (by simp; omega), parseT_eq _ (by omega), Option.bind_some, few18 b hb, Option.bind_some]
 dsimp only
 generalize b.take 500 = B at lb
 rw [parseT_eq B (by omega), Option.bind_some, Option.bind_some]
 dsimp only
 rw [if_pos (by simp; omega), parseT_eq _ (by simp; omega), Option.bind_some]
 have e1 : A ++ [10] ++ B = A ++ 10 :: B := by simp
 rw [parseT_small (s := A ++ [10]) (by omega), parseT_small (s := B) (by omega), parseT_small (s := A ++ [10] ++ B) (by simp; omega), e1, lines_nl A B, each_app, Nat.zero_add]
 have hlen := lines_len A
 have hll := (lines_le (A ++ [10])).1
 have hlB := (lines_le B).1
 have L := fun c d e y j k z o p => xjoin_loop n (A ++ [10]) (by omega) c d e y j k z o p n 0 0 (by omega) (by omega) (by omega)
 simp only [List.drop_zero, Nat.zero_add] at L
 rw [← hlen] at L
 generalize hLS : linesR (A ++ [10]) = LS at *
 generalize hLB : linesR B = LB at *
 have L := fun c d e y j k z o p => (show rivetlaw18_TextJoin.l8 n n true (A ++ [10]) c d e y j k z o p 0 0 = _ from L c d e y j k z o p)
 rw [L]
 rw [rivetlaw18_TextJoin.l8, if_neg (by simp)]
 cases h1 : eachR 0 LS with
 | error x =>
  obtain ⟨g1, _, _⟩ := each_err _ _ _ h1
  unfold outE
  dsimp only
  rw [if_pos (by simpa using g1)]
  simp
 | ok r1 =>
  have q1 := each_len _ _ _ h1
  have s1 := each_short _ _ _ h1
  have hsh := each_shift LS.length LB 0
  rw [Nat.add_zero] at hsh
  dsimp only
  rw [hsh]
  cases h2 : eachR 0 LB with
  | error y =>
   obtain ⟨g1, g2, g3⟩ := each_err _ _ _ h2
   unfold outE
   dsimp only
   rw [if_neg (by simp), if_pos (by simpa using g1), if_pos rfl, if_pos (by simp), w64 (by omega), if_pos (by simp)]
   simp
  | ok r2 =>
   have q2 := each_len _ _ _ h2
   have s2 := each_short _ _ _ h2
   unfold outE
   dsimp only
   rw [if_neg (by simp), if_neg (by simp), if_pos rfl, if_pos (by simp), if_pos (by simp), if_pos (by simp [q1]), if_pos (by simp; omega), if_pos (by simp; omega)]
   simp only [List.nil_append]
   rw [same18_refl (r1 ++ r2) (by simp; omega) (fun x hx => by
    rcases List.mem_append.1 hx with hx | hx
    ·exact s1 x hx
    ·exact s2 x hx), Option.bind_some]
end Rv
