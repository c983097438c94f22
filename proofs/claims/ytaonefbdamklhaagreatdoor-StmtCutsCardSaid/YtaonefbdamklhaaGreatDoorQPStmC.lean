/- Texts put together, part 15 of 18. -/
import Derived.Test.YtaonefbdamklhaaGreatDoorQ8
set_option linter.all false
namespace Rv
open Go
def cutE (r : Nat × Int × Sm) : Prop := r.2.1 = 22 ∨ r.2.1 = 23
theorem cutE_loop {l : List TokL} {op : Int} {many m i : Nat} {r : Nat × Int × Sm} (h : cutE r) : cutE (loopR l op many m i r) := by
 rcases h with h | h
 ·exact .inl (loop_stick (by decide) m i r h)
 ·exact .inr (loop_stick (by decide) m i r h)
theorem cutE_fin {l : List TokL} {lb : Str} {r : Nat × Int × Sm} (h : cutE r) : ∃ e, (e = 22 ∨ e = 23) ∧ finR l lb r = noP e := by
 rcases h with h | h
 ·exact ⟨22, .inl rfl, fin_stick (by decide) h⟩
 ·exact ⟨23, .inr rfl, fin_stick (by decide) h⟩
theorem pk_end {kd : Int} {l : List TokL} {p : Nat} {e : Int} (h : l.length ≤ p) : pk kd l p e = [] := by unfold pk; rw [if_neg (fun g => by omega)]
theorem xF_end {l : List TokL} {S F : Nat → XR} {p : Nat} (h : l.length ≤ p) : xF l S F p = .error 23 := by
 have h1 : ∀ c, ¬ isSg l p c = true := fun c hc => by have := isSg_lt hc; omega
 unfold xF
 rw [if_neg (h1 _), if_neg (h1 _), if_neg (fun g => by omega), if_neg (fun g => by omega)]
theorem parseX_end {l : List TokL} {p : Nat} (h : l.length ≤ p) : (parseX l p).2.2.1 = 23 := by
 have h1 : pF l 9 p = .error 23 := xF_end h
 have h2 : xS l (pF l 9) p = .error 23 := by unfold xS xT; rw [h1]
 unfold parseX; rw [h2]
theorem rdE_cut {l : List TokL} {p : Nat} {e : Int} {s : Sm} (h : l.length ≤ p) (he : e = 0 ∨ e = 22) : cutE (rdE l p e s) := by
 unfold rdE
 rcases he with rfl | rfl
 ·rw [if_pos rfl]; exact .inr (parseX_end h)
 ·rw [if_neg (by decide)]; exact .inl rfl
theorem chk_or (b : Bool) : chk b 0 = 0 ∨ chk b 0 = 22 := by cases b; exact .inr rfl; exact .inl rfl
theorem rd_cut {l : List TokL} {p : Nat} {s : Sm} (h : l.length ≤ p) (d : Od) : cutE (rd l p 0 s d) := by
 have hr : chk (regOf (pk 1 l p 0)).2 0 = 22 := by rw [pk_end h, regOf_nil]; rfl
 cases d with
 | E => exact rdE_cut h (.inl rfl)
 | Q => exact rdE_cut (by omega) (chk_or _)
 | N => exact .inl (by show chk (nameOk (pk 1 l p 0)) 0 = 22; rw [pk_end h]; rfl)
 | _ => exact .inl hr
theorem rd_cutQ {l : List TokL} {p : Nat} {s : Sm} (h : l.length ≤ p + 1) : cutE (rd l p 0 s .Q) := rdE_cut h (chk_or _)
theorem step_cut {l : List TokL} {op : Int} {many i p : Nat} {s : Sm} (hi : i < (odL s.k op).length) (h : l.length ≤ (if 0 < i then p + 1 else p)) : cutE (stepR l op many i p 0 s) := by
 unfold stepR
 dsimp only
 generalize hp1 : (if 0 < i then p + 1 else p) = p1 at h
 have he1 : (if 0 < i then chk (decide (pk 3 l p 0 = [44])) 0 else 0) = 0 ∨ (if 0 < i then chk (decide (pk 3 l p 0 = [44])) 0 else 0) = 22 := by
  split
  ·exact chk_or _
  ·exact .inl rfl
 generalize (if 0 < i then chk (decide (pk 3 l p 0 = [44])) 0 else 0) = e1 at he1
 have hlen : (odL (if i + 1 = many then { s with k := chK l p1 e1 s } else s).k op).length = (odL s.k op).length := by
  split
  ·exact chK_len _ _ s op
  ·rfl
 generalize (if i + 1 = many then { s with k := chK l p1 e1 s } else s) = s1 at hlen
 rw [List.getElem?_eq_getElem (by omega)]
 dsimp only
 rcases he1 with rfl | rfl
 ·exact rd_cut h _
 ·exact .inl (rd_stick (by decide) _)
theorem loop_cut {l : List TokL} {s : Sm} {t : Option Tr} (h : GoodS s t) (ht : ∀ x, t = some x → ∃ n, x = .num n) (h0 : s.k ≠ 0) {p j : Nat} (hp : p ≤ l.length) (hj : j < (joinB ((odL s.k s.o).map (wtk s t))).length) (hat : At l p ((joinB ((odL s.k s.o).map (wtk s t))).take j)) :
  cutE (loopR l s.o (odL (hk s.k) s.o).length (odL (hk s.k) s.o).length 0 (p, 0, ⟨hk s.k, s.o, 0, 0, 0, s.u, [], []⟩)) := by
 have tot := At.tot hat hp
 rw [List.length_take, Nat.min_eq_left (by omega)] at tot
 cases h with
 | none => exact absurd rfl h0
 | ins0 h hk0 =>
  cases h with
  | reg q1 q2 ha hb hc hu =>
   rename_i o a b c u
   dsimp only at hat hj ⊢
   rw [odL_reg q1] at hat hj
   have hj : j < 5 := hj
   have hat : At l p (((1, rn a, 0) :: (3, [44], 0) :: (1, rn b, 0) :: (3, [44], 0) :: (1, rn c, 0) :: []).take j) := hat
   rw [show hk 1 = 1 from rfl, odL_reg q1]
   show cutE (loopR l o 3 2 1 (stepR l o 3 0 p 0 _))
   match j, hj, hat, tot with
   | 0, _, _, tot => exact cutE_loop (step_cut (by rw [odL_reg q1]; decide) (by rw [if_neg (by decide)]; omega))
   | i + 1, hj, hat, tot =>
    have hat : At l p ((1, rn a, 0) :: ((3, [44], 0) :: (1, rn b, 0) :: (3, [44], 0) :: (1, rn c, 0) :: []).take i) := hat
    obtain ⟨_, _, a1⟩ := At.cons hat
    rw [st_first (d := .A) (by decide) (by rw [odL_reg q1]; rfl), rd_A ha hat]
    show cutE (loopR l o 3 1 2 (stepR l o 3 1 (p + 1) 0 _))
    match i, hj, a1, tot with
    | 0, _, _, tot => exact cutE_loop (step_cut (by rw [odL_reg q1]; decide) (by rw [if_pos (by decide)]; omega))
    | 1, _, _, tot => exact cutE_loop (step_cut (by rw [odL_reg q1]; decide) (by rw [if_pos (by decide)]; omega))
    | i + 2, hj, a1, tot =>
     have a1 : At l (p + 1) ((3, [44], 0) :: (1, rn b, 0) :: ((3, [44], 0) :: (1, rn c, 0) :: []).take i) := a1
     obtain ⟨_, _, a2⟩ := At.cons a1
     rw [st_mid (d := .B) (by decide) (by decide) (by rw [odL_reg q1]; rfl) a1, rd_B hb a2]
     exact step_cut (by rw [odL_reg q1]; decide) (by rw [if_pos (by decide)]; omega)
  | mov ha hc =>
   rename_i a c
   have hj : j < 3 := hj
   have hat : At l p (((1, rn a, 0) :: (3, [44], 0) :: (1, rn c, 0) :: []).take j) := hat
   show cutE (loopR l 0 2 1 1 (stepR l 0 2 0 p 0 _))
   match j, hj, hat, tot with
   | 0, _, _, tot => exact cutE_loop (step_cut (by show 0 < 2; decide) (by rw [if_neg (by decide)]; omega))
   | i + 1, hj, hat, tot =>
    have hat : At l p ((1, rn a, 0) :: ((3, [44], 0) :: (1, rn c, 0) :: []).take i) := hat
    rw [st_first (d := .A) (by decide) rfl, rd_A ha hat]
    exact step_cut (by show 1 < 2; decide) (by rw [if_pos (by decide)]; omega)
  | hi ha =>
   have hj : j < 1 := hj
   show cutE (stepR l 0 1 0 p 0 _)
   exact step_cut (by show 0 < 1; decide) (by rw [if_neg (by decide)]; omega)
  | fl ha =>
   have hj : j < 1 := hj
   show cutE (stepR l 0 1 0 p 0 _)
   exact step_cut (by show 0 < 1; decide) (by rw [if_neg (by decide)]; omega)
  | br ho hc =>
   rename_i o c u
   have hj : j < 1 := hj
   show cutE (stepR l o 1 0 p 0 _)
   exact step_cut (by show 0 < 1; decide) (by rw [if_neg (by decide)]; omega)
  | imm => simp at hk0
  | movi => simp at hk0
  | mem => simp at hk0
  | jmp => simp at hk0
 | @ins1 _ _ _ _ _ _ x h hk0 hx =>
  obtain ⟨n, rfl⟩ := ht x rfl
  cases h with
  | imm q1 q2 ha hb hu =>
   rename_i o a b u
   dsimp only at hat hj ⊢
   rw [odL_imm q1] at hat hj
   have hj : j < 5 := hj
   have hat : At l p (((1, rn a, 0) :: (3, [44], 0) :: (1, rn b, 0) :: (3, [44], 0) :: (2, Lib.itoa n, n) :: []).take j) := hat
   rw [show hk 2 = 1 from rfl, odL_reg q1]
   show cutE (loopR l o 3 2 1 (stepR l o 3 0 p 0 _))
   match j, hj, hat, tot with
   | 0, _, _, tot => exact cutE_loop (step_cut (by rw [odL_reg q1]; decide) (by rw [if_neg (by decide)]; omega))
   | i + 1, hj, hat, tot =>
    have hat : At l p ((1, rn a, 0) :: ((3, [44], 0) :: (1, rn b, 0) :: (3, [44], 0) :: (2, Lib.itoa n, n) :: []).take i) := hat
    obtain ⟨_, _, a1⟩ := At.cons hat
    rw [st_first (d := .A) (by decide) (by rw [odL_reg q1]; rfl), rd_A ha hat]
    show cutE (loopR l o 3 1 2 (stepR l o 3 1 (p + 1) 0 _))
    match i, hj, a1, tot with
    | 0, _, _, tot => exact cutE_loop (step_cut (by rw [odL_reg q1]; decide) (by rw [if_pos (by decide)]; omega))
    | 1, _, _, tot => exact cutE_loop (step_cut (by rw [odL_reg q1]; decide) (by rw [if_pos (by decide)]; omega))
    | i + 2, hj, a1, tot =>
     have a1 : At l (p + 1) ((3, [44], 0) :: (1, rn b, 0) :: ((3, [44], 0) :: (2, Lib.itoa n, n) :: []).take i) := a1
     obtain ⟨_, _, a2⟩ := At.cons a1
     rw [st_mid (d := .B) (by decide) (by decide) (by rw [odL_reg q1]; rfl) a1, rd_B hb a2]
     exact step_cut (by rw [odL_reg q1]; decide) (by rw [if_pos (by decide)]; omega)
  | movi ha =>
   rename_i a u
   have hj : j < 3 := hj
   have hat : At l p (((1, rn a, 0) :: (3, [44], 0) :: (2, Lib.itoa n, n) :: []).take j) := hat
   show cutE (loopR l 0 2 1 1 (stepR l 0 2 0 p 0 _))
   match j, hj, hat, tot with
   | 0, _, _, tot => exact cutE_loop (step_cut (by show 0 < 2; decide) (by rw [if_neg (by decide)]; omega))
   | i + 1, hj, hat, tot =>
    have hat : At l p ((1, rn a, 0) :: ((3, [44], 0) :: (2, Lib.itoa n, n) :: []).take i) := hat
    rw [st_first (d := .A) (by decide) rfl, rd_A ha hat]
    exact step_cut (by show 1 < 2; decide) (by rw [if_pos (by decide)]; omega)
  | mem q1 q2 ha hb =>
   rename_i o a b
   have hj : j < 5 := hj
   have hat : At l p (((1, rn a, 0) :: (3, [44], 0) :: (1, rn b, 0) :: (3, [44], 0) :: (2, Lib.itoa n, n) :: []).take j) := hat
   show cutE (loopR l o 3 2 1 (stepR l o 3 0 p 0 _))
   match j, hj, hat, tot with
   | 0, _, _, tot => exact cutE_loop (step_cut (by show 0 < 3; decide) (by rw [if_neg (by decide)]; omega))
   | i + 1, hj, hat, tot =>
    have hat : At l p ((1, rn a, 0) :: ((3, [44], 0) :: (1, rn b, 0) :: (3, [44], 0) :: (2, Lib.itoa n, n) :: []).take i) := hat
    obtain ⟨_, _, a1⟩ := At.cons hat
    rw [st_first (d := .A) (by decide) rfl, rd_A ha hat]
    show cutE (loopR l o 3 1 2 (stepR l o 3 1 (p + 1) 0 _))
    match i, hj, a1, tot with
    | 0, _, _, tot => exact cutE_loop (step_cut (by show 1 < 3; decide) (by rw [if_pos (by decide)]; omega))
    | 1, _, _, tot => exact cutE_loop (step_cut (by show 1 < 3; decide) (by rw [if_pos (by decide)]; omega))
    | i + 2, hj, a1, tot =>
     have a1 : At l (p + 1) ((3, [44], 0) :: (1, rn b, 0) :: ((3, [44], 0) :: (2, Lib.itoa n, n) :: []).take i) := a1
     obtain ⟨_, _, a2⟩ := At.cons a1
     rw [st_mid (d := .B) (by decide) (by decide) rfl a1, rd_B hb a2]
     exact step_cut (by show 2 < 3; decide) (by rw [if_pos (by decide)]; omega)
  | jmp ho =>
   rename_i o u
   have hj : j < 1 := hj
   show cutE (stepR l o 1 0 p 0 _)
   exact step_cut (by show 0 < 1; decide) (by rw [if_neg (by decide)]; omega)
  | reg => simp at hk0
  | mov => simp at hk0
  | hi => simp at hk0
  | fl => simp at hk0
  | br => simp at hk0
 | @load a x ha hx =>
  obtain ⟨n, rfl⟩ := ht x rfl
  have hj : j < 4 := hj
  have hat : At l p (((1, rn a, 0) :: (3, [44], 0) :: (3, [61], 0) :: (2, Lib.itoa n, n) :: []).take j) := hat
  show cutE (loopR l 0 2 1 1 (stepR l 0 2 0 p 0 _))
  match j, hj, hat, tot with
  | 0, _, _, tot => exact cutE_loop (step_cut (by show 0 < 2; decide) (by rw [if_neg (by decide)]; omega))
  | i + 1, hj, hat, tot =>
   have hat : At l p ((1, rn a, 0) :: ((3, [44], 0) :: (3, [61], 0) :: (2, Lib.itoa n, n) :: []).take i) := hat
   obtain ⟨_, _, a1⟩ := At.cons hat
   rw [st_first (d := .A) (by decide) rfl, rd_A ha hat]
   show cutE (stepR l 0 2 1 (p + 1) 0 _)
   match i, hj, a1, tot with
   | 0, _, _, tot => exact step_cut (by show 1 < 2; decide) (by rw [if_pos (by decide)]; omega)
   | i + 1, hj, a1, tot =>
    have a1 : At l (p + 1) ((3, [44], 0) :: ((3, [61], 0) :: (2, Lib.itoa n, n) :: []).take i) := a1
    rw [st_last (K := 8) (d := .Q) (by decide) (by decide) (chK_self (show (8 : Int) ≠ 1 by decide) (show (8 : Int) ≠ 7 by decide)) rfl a1]
    exact rd_cutQ (by omega)
 | @word x hx =>
  obtain ⟨n, rfl⟩ := ht x rfl
  have hj : j < 1 := hj
  show cutE (stepR l 0 1 0 p 0 _)
  exact step_cut (by show 0 < 1; decide) (by rw [if_neg (by decide)]; omega)
 | @exp nm hn =>
  have hj : j < 1 := hj
  show cutE (stepR l 0 1 0 p 0 _)
  exact step_cut (by show 0 < 1; decide) (by rw [if_neg (by decide)]; omega)
theorem parse_cut {l : List TokL} (hl : l.length ≤ 1000000) {s : Sm} {t : Option Tr} (h : GoodS s t) (ht : ∀ x, t = some x → ∃ n, x = .num n) {k : Nat} (hk1 : 1 ≤ k) (hk2 : k < (stk s t).length) (hb : l.map bare = (stk s t).take k) :
  ∃ e, (e = 22 ∨ e = 23) ∧ stmt_Parse.g l = some (noP e) := by
 have hlen : ∀ t ∈ l, t.2.2.1.length ≤ 1000000 := bare_len hb fun b hb => stk_len h b (List.mem_of_mem_take hb)
 rw [parse_eq' hl hlen]
 have hat : At l 0 ((stk s t).take k) := by unfold At; rw [List.drop_zero]; exact hb
 have h0 : s.k ≠ 0 := fun e => by unfold stk at hk2; rw [if_pos e] at hk2; simp at hk2
 have hc : ¬ (1 < l.length ∧ (l.getD 0 dTok).1 = 1 ∧ isSg l 1 58 = true) := by
  rintro ⟨h1, _, h3⟩
  obtain ⟨h1, _, h3⟩ := isSg_iff.1 h3
  have tot := At.tot hat (by omega)
  rw [List.length_take, Nat.min_eq_left (by omega)] at tot
  obtain ⟨j, rfl⟩ : ∃ j, k = j + 2 := ⟨k - 2, by omega⟩
  match hs : stk s t with
  | [] => rw [hs] at hk2; simp at hk2
  | [b] => rw [hs] at hk2; simp at hk2
  | b :: c :: r =>
   rw [hs] at hat
   have hat : At l 0 (b :: c :: r.take j) := hat
   obtain ⟨_, _, a1⟩ := At.cons hat
   obtain ⟨_, a2, _⟩ := At.cons a1
   exact stk_second h hs (by rw [← a2]; exact h3)
 unfold parseS
 rw [if_neg hc]
 have hstk : stk s t = mtk s :: joinB ((odL s.k s.o).map (wtk s t)) := by unfold stk; rw [if_neg h0]
 rw [hstk] at hat hk2
 obtain ⟨j, rfl⟩ : ∃ j, k = j + 1 := ⟨k - 1, by omega⟩
 have hat : At l 0 (mtk s :: (joinB ((odL s.k s.o).map (wtk s t))).take j) := hat
 obtain ⟨a1, a2, a3⟩ := At.cons hat
 have hm := good_mnem h h0
 have hof := (mnem_of hm).1
 simp only [bare, mtk, Prod.mk.injEq] at a2
 have hloop := loop_cut h ht h0 (by omega) (by simp at hk2; omega) a3
 unfold headR
 rw [if_pos ⟨rfl, a1⟩]
 dsimp only
 rw [a2.2.1, hof, a2.1]
 dsimp only
 have hok : (true && (decide ((if s.k = 9 ∨ s.k = 10 then (4 : Int) else 1) = 4) == decide (hk s.k = 9 ∨ hk s.k = 10)) && (decide ((if s.k = 9 ∨ s.k = 10 then (4 : Int) else 1) = 4) || decide ((if s.k = 9 ∨ s.k = 10 then (4 : Int) else 1) = 1))) = true := by
  by_cases hd : s.k = 9 ∨ s.k = 10
  ·rw [if_pos hd, decide_eq_true ((hk_dot s.k).2 hd)]; rfl
  ·rw [if_neg hd, decide_eq_false (fun g => hd ((hk_dot s.k).1 g))]; rfl
 rw [hok, show chk true 0 = 0 from rfl]
 obtain ⟨e, he, hf⟩ := cutE_fin (l := l) (lb := []) hloop
 exact ⟨e, he, by rw [hf]⟩
end Rv
