/- Texts put together, part 14 of 18. -/
import Derived.Test.YtaonefbdamklhaaGreatDoorQPStmX
set_option linter.all false
namespace Rv
open Go
def cntC : List Bt → Nat
 | [] => 0
 | b :: r => (if b.2.1 = [44] then 1 else 0) + cntC r
theorem cntC_le : ∀ l : List Bt, cntC l ≤ l.length
 | [] => Nat.le_refl _
 | b :: r => by have := cntC_le r; rw [cntC, List.length_cons]; split <;> omega
theorem instr_loop (n : Nat) (ops : Int) (ts : List TokL) (hl : ts.length ≤ 1000000) (x : Sm) : ∀ (m i c : Nat), i ≤ ts.length → ts.length - i < m → c ≤ i →
  rivetlaw17_StmtInstr.l15 n m true ops 0 ts 0 (c : Int) (i : Int) x.k x.o x.a x.b x.c x.u x.e x.nm = rivetlaw17_StmtInstr.l15 n 1 true ops 0 ts 0 ((c + cntC ((ts.drop i).map bare) : Nat) : Int) (ts.length : Int) x.k x.o x.a x.b x.c x.u x.e x.nm := by
 intro m
 induction m with
 | zero => intro i c _ h; omega
 | succ m ih =>
  intro i c hi hm hc
  by_cases h : i < ts.length
  ·have hd : ts.drop i = ts.getD i dTok :: ts.drop (i + 1) := by
    rw [List.drop_eq_getElem_cons h, List.getD_eq_getElem?_getD, List.getElem?_eq_getElem h]; rfl
   rw [rivetlaw17_StmtInstr.l15]
   unfold rivetlaw17_StmtInstr.j16
   simp only [dt, Int.toNat_natCast]
   rw [if_pos (by omega), if_pos (by omega), hd, List.map_cons, cntC]
   have hb : (bare (ts.getD i dTok)).2.1 = (ts.getD i dTok).2.2.1 := rfl
   rw [hb]
   have w1 : IntKind.i64.wrap ((i : Int) + 1) = ((i + 1 : Nat) : Int) := by rw [w64 (by omega)]; omega
   have w2 : IntKind.i64.wrap ((c : Int) + 1) = ((c + 1 : Nat) : Int) := by rw [w64 (by omega)]; omega
   rw [w1, w2]
   by_cases h1 : (ts.getD i dTok).2.2.1 = [44]
   ·rw [if_pos h1, if_pos h1, ih (i + 1) (c + 1) (by omega) (by omega) (by omega), Nat.add_assoc]
   ·rw [if_neg h1, if_neg h1, ih (i + 1) c (by omega) (by omega) (by omega), Nat.zero_add]
  ·obtain rfl : i = ts.length := by omega
   rw [List.drop_length, List.map_nil]
   show _ = rivetlaw17_StmtInstr.l15 n 1 true ops 0 ts 0 (c : Int) (ts.length : Int) x.k x.o x.a x.b x.c x.u x.e x.nm
   rw [rivetlaw17_StmtInstr.l15, rivetlaw17_StmtInstr.l15]
   rw [if_neg (by simp), if_neg (by simp)]
def nops (k o : Int) : Nat := if k = 5 then 3 else if k = 1 ∨ k = 2 then (if o = 0 then 2 else 3) else 1
theorem ne_comma {s : Str} (h : wordy s = true) : s ≠ [44] := by rintro rfl; exact absurd h (by decide)
theorem itoa_comma {n : Int} (h : 0 ≤ n) : Lib.itoa n ≠ [44] := fun e => by
 obtain ⟨m, rfl⟩ : ∃ m : Nat, n = m := ⟨n.toNat, by omega⟩
 have hi : Lib.itoa (m : Int) = Lib.decDigits m := by unfold Lib.itoa; rw [if_neg (by omega)]; rfl
 have := (dec_all m).1
 rw [← hi, e] at this
 exact absurd this (by decide)
theorem ltk_instr {k o a b c : Int} {u : Bool} (h : GoodI0 k o a b c u) {e : List Item} {t : Option Tr} (hg : GoodS ⟨k, o, a, b, c, u, e, []⟩ t) (ht : ∀ x, t = some x → ∃ n, 0 ≤ n ∧ x = .num n) :
  (ltk [] ⟨k, o, a, b, c, u, e, []⟩ t).length = 2 * nops k o ∧ cntC (ltk [] ⟨k, o, a, b, c, u, e, []⟩ t) + 1 = nops k o := by
 have hm := good_mnem hg (by have := i0_range h; dsimp only; omega)
 have hmk := ne_comma (mnem_word hm)
 have hrn : ∀ {x : Int}, rg x → rn x ≠ [44] := fun h => ne_comma (rn_word h)
 have hcc : ∀ {l : List Bt}, cntC ((3, [44], 0) :: l) = cntC l + 1 := fun {l} => by rw [cntC, if_pos rfl]; omega
 have hcn : ∀ {b : Bt} {l : List Bt}, b.2.1 ≠ [44] → cntC (b :: l) = cntC l := fun {b l} h => by rw [cntC, if_neg h]; omega
 have he : ∀ {n : Int}, 0 ≤ n → (Tr.num n).toks = [(2, Lib.itoa n, n)] := fun _ => rfl
 have c0 : cntC [] = 0 := rfl
 dsimp only at hm hmk
 cases hg with
 | none => cases h
 | load => cases h
 | word => cases h
 | exp => cases h
 | ins0 _ hk0 =>
  cases h with
  | reg q1 q2 ha hb hc hu =>
   have e : ltk [] ⟨1, o, a, b, c, u, [], []⟩ none = mtk ⟨1, o, a, b, c, u, [], []⟩ :: joinB ((odL 1 o).map (wtk ⟨1, o, a, b, c, u, [], []⟩ none)) := rfl
   rw [odL_reg q1] at e
   have e : ltk [] ⟨1, o, a, b, c, u, [], []⟩ none = mtk ⟨1, o, a, b, c, u, [], []⟩ :: (1, rn a, 0) :: (3, [44], 0) :: (1, rn b, 0) :: (3, [44], 0) :: (1, rn c, 0) :: [] := e
   rw [e, hcn hmk, hcn (hrn ha), hcc, hcn (hrn hb), hcc, hcn (hrn hc), c0, show nops 1 o = 3 from by unfold nops; rw [if_neg (by decide), if_pos (by decide), if_neg (by omega)]]
   exact ⟨rfl, rfl⟩
  | mov ha hc =>
   have e : ltk [] ⟨1, 0, a, 0, c, false, [], []⟩ none = mtk ⟨1, 0, a, 0, c, false, [], []⟩ :: (1, rn a, 0) :: (3, [44], 0) :: (1, rn c, 0) :: [] := rfl
   rw [e, hcn hmk, hcn (hrn ha), hcc, hcn (hrn hc), c0]
   exact ⟨rfl, rfl⟩
  | hi ha =>
   have e : ltk [] ⟨3, 0, a, 0, 0, false, [], []⟩ none = mtk ⟨3, 0, a, 0, 0, false, [], []⟩ :: (1, rn a, 0) :: [] := rfl
   rw [e, hcn hmk, hcn (hrn ha), c0]
   exact ⟨rfl, rfl⟩
  | fl ha =>
   have e : ltk [] ⟨4, 0, a, 0, 0, false, [], []⟩ none = mtk ⟨4, 0, a, 0, 0, false, [], []⟩ :: (1, rn a, 0) :: [] := rfl
   rw [e, hcn hmk, hcn (hrn ha), c0]
   exact ⟨rfl, rfl⟩
  | br ho hc =>
   have e : ltk [] ⟨6, o, 0, 0, c, u, [], []⟩ none = mtk ⟨6, o, 0, 0, c, u, [], []⟩ :: (1, rn c, 0) :: [] := rfl
   rw [e, hcn hmk, hcn (hrn hc), c0]
   exact ⟨rfl, rfl⟩
  | imm => simp at hk0
  | movi => simp at hk0
  | mem => simp at hk0
  | jmp => simp at hk0
 | ins1 _ hk0 hx =>
  obtain ⟨n, hn, rfl⟩ := ht _ rfl
  have hi := itoa_comma hn
  cases h with
  | imm q1 q2 ha hb hu =>
   have e : ltk [] ⟨2, o, a, b, 0, u, (Tr.num n).post, []⟩ (some (.num n)) = mtk ⟨2, o, a, b, 0, u, (Tr.num n).post, []⟩ :: joinB ((odL 2 o).map (wtk ⟨2, o, a, b, 0, u, (Tr.num n).post, []⟩ (some (.num n)))) := rfl
   rw [odL_imm q1] at e
   have e : ltk [] ⟨2, o, a, b, 0, u, (Tr.num n).post, []⟩ (some (.num n)) = mtk ⟨2, o, a, b, 0, u, (Tr.num n).post, []⟩ :: (1, rn a, 0) :: (3, [44], 0) :: (1, rn b, 0) :: (3, [44], 0) :: (2, Lib.itoa n, n) :: [] := e
   rw [e, hcn hmk, hcn (hrn ha), hcc, hcn (hrn hb), hcc, hcn hi, c0, show nops 2 o = 3 from by unfold nops; rw [if_neg (by decide), if_pos (by decide), if_neg (by omega)]]
   exact ⟨rfl, rfl⟩
  | movi ha =>
   have e : ltk [] ⟨2, 0, a, 0, 0, u, (Tr.num n).post, []⟩ (some (.num n)) = mtk ⟨2, 0, a, 0, 0, u, (Tr.num n).post, []⟩ :: (1, rn a, 0) :: (3, [44], 0) :: (2, Lib.itoa n, n) :: [] := rfl
   rw [e, hcn hmk, hcn (hrn ha), hcc, hcn hi, c0]
   exact ⟨rfl, rfl⟩
  | mem q1 q2 ha hb =>
   have e : ltk [] ⟨5, o, a, b, 0, false, (Tr.num n).post, []⟩ (some (.num n)) = mtk ⟨5, o, a, b, 0, false, (Tr.num n).post, []⟩ :: (1, rn a, 0) :: (3, [44], 0) :: (1, rn b, 0) :: (3, [44], 0) :: (2, Lib.itoa n, n) :: [] := rfl
   rw [e, hcn hmk, hcn (hrn ha), hcc, hcn (hrn hb), hcc, hcn hi, c0]
   exact ⟨rfl, rfl⟩
  | jmp ho =>
   have e : ltk [] ⟨7, o, 0, 0, 0, u, (Tr.num n).post, []⟩ (some (.num n)) = mtk ⟨7, o, 0, 0, 0, u, (Tr.num n).post, []⟩ :: (2, Lib.itoa n, n) :: [] := rfl
   rw [e, hcn hmk, hcn hi, c0]
   exact ⟨rfl, rfl⟩
  | reg => simp at hk0
  | mov => simp at hk0
  | hi => simp at hk0
  | fl => simp at hk0
  | br => simp at hk0
theorem nops_le (k o : Int) : 1 ≤ nops k o ∧ nops k o ≤ 3 := by unfold nops; split <;> (try split) <;> (try split) <;> omega
theorem instr_j11 (n : Nat) (hn : 1000 ≤ n) {k o a b c : Int} {u : Bool} (h : GoodI0 k o a b c u) {e : List Item} {t : Option Tr} (hg : GoodS ⟨k, o, a, b, c, u, e, []⟩ t) (ht : ∀ x, t = some x → ∃ n, 0 ≤ n ∧ x = .num n) :
  rivetlaw17_StmtInstr.j11 n true ((nops k o : Nat) : Int) k o a b c u e [] = some (true, ()) := by
 obtain ⟨ts, hb, _, hs, g1, _⟩ := text_good hg (.inl rfl)
 obtain ⟨l1, l2⟩ := ltk_instr h hg ht
 have hno := nops_le k o
 have hlen : ts.length = 2 * nops k o := by rw [← l1, ← hb, List.length_map]
 have hp : stmt_Print.g [] k o a b c u e [] = some (ltx [] ⟨k, o, a, b, c, u, e, []⟩ t, 0, ()) := print_good hg (.inl rfl)
 have hm : stmt_May.g k o a b c u e [] = some (true, ()) := may_good hg
 have hd : deepOk t := deep_num fun x hx => by obtain ⟨n, _, h⟩ := ht x hx; exact ⟨n, h⟩
 have hsm := same_refl _ (by have := (good_elen hg).1; omega : (⟨k, o, a, b, c, u, e, []⟩ : Sm).e.length ≤ 1000)
 dsimp only at hsm
 unfold rivetlaw17_StmtInstr.j11
 rw [hp, Option.bind_some, hs, Option.bind_some]
 dsimp only
 have hloop := instr_loop n ((nops k o : Nat) : Int) ts (by omega) ⟨k, o, a, b, c, u, e, []⟩ n 0 0 (by omega) (by omega) (by omega)
 rw [List.drop_zero, hb, Nat.zero_add] at hloop
 rw [show (0 : Int) = ((0 : Nat) : Int) from rfl]
 dsimp only at hloop
 refine Eq.trans hloop ?_
 have w1 : IntKind.i64.wrap (((nops k o : Nat) : Int) - 1) = ((cntC (ltk [] ⟨k, o, a, b, c, u, e, []⟩ t) : Nat) : Int) := by rw [w64 (by omega)]; omega
 have w2 : IntKind.i64.wrap (2 * ((nops k o : Nat) : Int)) = ((ts.length : Nat) : Int) := by rw [w64 (by omega)]; omega
 rw [rivetlaw17_StmtInstr.l15, if_neg (by simp), g1 hd, Option.bind_some, hm, w1, w2]
 simp only [Option.bind_some]
 unfold smP
 dsimp only
 simp [hsm]
theorem instr_j7 (n : Nat) (k o a b c i : Int) (u : Bool) (e : List Item) (h1 : 1 ≤ k ∧ k ≤ 7) : rivetlaw17_StmtInstr.j7 n true 2 k o a b c i u k o a b c u e [] = rivetlaw17_StmtInstr.j11 n true ((nops k o : Nat) : Int) k o a b c u e [] := by
 unfold rivetlaw17_StmtInstr.j7 rivetlaw17_StmtInstr.j9 nops
 simp only [dt, df]
 have hk : k = 1 ∨ k = 2 ∨ k = 3 ∨ k = 4 ∨ k = 5 ∨ k = 6 ∨ k = 7 := by omega
 rcases hk with rfl | rfl | rfl | rfl | rfl | rfl | rfl
 ·by_cases ho : o = 0 <;> simp [ho]
 ·by_cases ho : o = 0 <;> simp [ho]
 ·rfl
 ·rfl
 ·rfl
 ·rfl
 ·rfl
theorem instr_wf {k o a b c i : Int} {u : Bool} (h : (Lit.int .i64 k).wf = true ∧ (Lit.int .i64 o).wf = true ∧ (Lit.int .i64 a).wf = true ∧ (Lit.int .i64 b).wf = true ∧ (Lit.int .i64 c).wf = true ∧ (Lit.int .i64 i).wf = true ∧ True) :
  rivetlaw17_StmtInstr.g k o a b c i u = some (true, ()) := by
 unfold rivetlaw17_StmtInstr.g
 have hn : 1000 ≤ 1000 + k.toNat + o.toNat + a.toNat + b.toNat + c.toNat + i.toNat := by omega
 generalize 1000 + k.toNat + o.toNat + a.toNat + b.toNat + c.toNat + i.toNat = n at hn
 obtain ⟨O, A, B, C, I, U, hf, hg⟩ := fit03_q k o a b c i u
 generalize 1 + Int.tmod (Int.tmod k 7 + 7) 7 = K at hf hg
 unfold rivetlaw17_StmtInstr.f
 rw [shown17, Option.bind_some, hf, Option.bind_some]
 dsimp only
 have hr := i0_range hg
 have hw : 0 ≤ IntKind.u32.wrap I ∧ IntKind.u32.wrap I ≤ 4294967295 := by rw [IntKind.wrap_u32]; omega
 have one : (K = 2 ∨ K = 5 ∨ K = 7) → rivetlaw17_StmtInstr.j7 n true 2 K O A B C I U K O A B C U [(1, IntKind.u32.wrap I, [], ())] [] = some (true, ()) := fun hk => by
  rw [instr_j7 n K O A B C I U _ ⟨hr.1, hr.2.1⟩]
  exact instr_j11 n hn hg (t := some (.num (IntKind.u32.wrap I))) (.ins1 (t := .num (IntKind.u32.wrap I)) hg hk (okT_num hw)) fun x hx => ⟨_, hw.1, (Option.some.inj hx).symm⟩
 have zero : ¬ (K = 2 ∨ K = 5 ∨ K = 7) → rivetlaw17_StmtInstr.j7 n true 2 K O A B C I U K O A B C U [] [] = some (true, ()) := fun hk => by
  rw [instr_j7 n K O A B C I U _ ⟨hr.1, hr.2.1⟩]
  exact instr_j11 n hn hg (t := none) (.ins0 hg (by omega)) fun x hx => by cases hx
 simp only [dt, df]
 by_cases k2 : K = 2
 ·rw [if_neg (fun g => g k2)]; exact one (.inl k2)
 ·rw [if_pos k2]
  by_cases k5 : K = 5
  ·rw [if_neg (fun g => g k5)]; exact one (.inr (.inl k5))
  ·rw [if_pos k5]
   by_cases k7 : K = 7
   ·rw [if_pos k7]; exact one (.inr (.inr k7))
   ·rw [if_neg k7]; exact zero (by omega)
end Rv
