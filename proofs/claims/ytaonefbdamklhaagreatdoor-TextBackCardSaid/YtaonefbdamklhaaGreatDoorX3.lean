/- Texts put together. -/
import Derived.Test.YtaonefbdamklhaaGreatDoorX2
import Derived.Test.YtaonefbdamklhaaGreatDoorX1
import Derived.Test.YtaonefbdamklhaaGreatDoorC1
set_option linter.all false
namespace Rv
open Go
inductive Od
 | A | B | C | E | Q | N
def Od.rd : Od → Fn
 | .A => K.rdA | .B => K.rdB | .C => K.rdC | .E => K.rdE | .Q => K.rdQ | .N => K.rdN
def Od.wr : Od → Fn
 | .A => K.wrA | .B => K.wrB | .C => K.wrC | .E => K.wrE | .Q => K.wrQ | .N => K.wrN
def odL (k o : Int) : List Od :=
 if k = 1 then (if o = 0 then [.A, .C] else [.A, .B, .C]) else
 if k = 2 then (if o = 0 then [.A, .E] else [.A, .B, .E]) else
 if k = 3 ∨ k = 4 then [.A] else
 if k = 5 then [.A, .B, .E] else
 if k = 6 then [.C] else
 if k = 7 ∨ k = 9 then [.E] else
 if k = 8 then [.A, .Q] else
 if k = 10 then [.N] else []
abbrev odF (d : Od) : Fn × Fn × Unit := (d.rd, d.wr, ())
theorem opsR_eq (k o : Int) : L.opsR k o = (odL k o).map odF := by
 unfold L.opsR odL
 split
 ·split <;> rfl
 ·split
  ·split <;> rfl
  ·repeat' split
   all_goals rfl
theorem odL_len (k o : Int) : (odL k o).length ≤ 3 := by
 unfold odL
 repeat' split
 all_goals simp
theorem odL_reg {o : Int} (h : 0 < o) : odL 1 o = [.A, .B, .C] := by unfold odL; rw [if_pos rfl, if_neg (by omega)]
theorem odL_imm {o : Int} (h : 0 < o) : odL 2 o = [.A, .B, .E] := by unfold odL; rw [if_neg (by decide), if_pos rfl, if_neg (by omega)]
theorem trimB_loop (n : Nat) : ∀ (m : Nat) (s : Str), s.length < m → s.length ≤ 1000000 → strings_trimLeftByte.l1 n m s 32 = some (s.dropWhile (· == 32), ())
 | 0, _, h, _ => by omega
 | m + 1, [], _, _ => by rw [strings_trimLeftByte.l1]; rfl
 | m + 1, b :: s, h, hs => by
  rw [strings_trimLeftByte.l1]
  simp only [dt]
  have hb : bt (b :: s) 0 = (b.toNat : Int) := rfl
  have h32 : ((b.toNat : Int) = 32) = (b = 32) := byte_is b 32 (by omega)
  rw [if_pos (by simp), if_pos (by simp), hb, List.dropWhile_cons]
  by_cases e : b = 32
  ·rw [if_pos (h32.mpr e), if_pos (by simp; omega), if_pos (by simp [e])]
   have : ((b :: s).take ((((b :: s).length : Nat) : Int)).toNat).drop ((1 : Int)).toNat = s := by
    rw [Int.toNat_natCast, List.take_length]; rfl
   rw [this]
   exact trimB_loop n m s (by simp at h; omega) (by simp at hs; omega)
  ·rw [if_neg (fun h => e (h32.mp h)), if_neg (by simp [e])]
theorem trimB_eq (s : Str) (hs : s.length ≤ 1000000) : strings_TrimLeft.g s [32] = some (s.dropWhile (· == 32), ()) := by
 unfold strings_TrimLeft.g strings_TrimLeft.f
 simp only [dt, df]
 by_cases h : s = []
 ·subst h; rfl
 ·rw [if_pos h, if_neg (by decide), if_pos (by decide), if_pos (by decide), if_pos (by decide), if_pos (by decide)]
  have hb : bt [32] 0 = 32 := rfl
  unfold strings_trimLeftByte.g strings_trimLeftByte.f
  rw [hb, trimB_loop _ _ s (by omega) hs, Option.bind_some]
theorem itoa_head (n : Int) (h : 0 ≤ n) : ∃ c r, Lib.itoa n = c :: r ∧ c ≠ 32 := by
 obtain ⟨m, rfl⟩ : ∃ m : Nat, n = m := ⟨n.toNat, by omega⟩
 have hi : Lib.itoa (m : Int) = Lib.decDigits m := by unfold Lib.itoa; rw [if_neg (by omega)]; rfl
 obtain ⟨h1, h2⟩ := dec_all m
 rw [hi]
 cases hd : Lib.decDigits m with
 | nil => exact absurd hd h2
 | cons c r =>
  refine ⟨c, r, rfl, ?_⟩
  rintro rfl
  rw [hd] at h1
  simp [isD] at h1
theorem brkT_head (b : Bool) {s : Str} (h : ∃ c r, s = c :: r ∧ c ≠ 32) : ∃ c r, brkT b s = c :: r ∧ c ≠ 32 := by
 unfold brkT
 split
 ·exact ⟨_, _, rfl, by decide⟩
 ·exact h
theorem txt_head : ∀ t : Tr, t.ok → ∃ c r, t.txt = c :: r ∧ c ≠ 32
 | .num n, h => itoa_head n h.1
 | .nam s, h => by
  have h : labelOk s = true := h
  cases s with
  | nil => exact absurd h (by decide)
  | cons c r =>
   refine ⟨c, r, rfl, ?_⟩
   rintro rfl
   unfold labelOk at h
   simp only [Bool.and_eq_true, List.all_cons] at h
   exact absurd h.1.2.1 (by decide)
 | .neg x, _ => ⟨_, _, rfl, by decide⟩
 | .br x, _ => ⟨_, _, rfl, by decide⟩
 | .bin o a b, h => by
  obtain ⟨c, r, h1, h2⟩ := brkT_head (decide (a.tight < o.tight)) (txt_head a h.1)
  exact ⟨c, _, by show brkT _ _ ++ _ = _; rw [h1]; rfl, h2⟩
def et : Option Tr → Str
 | none => []
 | some t => t.txt
def wtx (s : Sm) (t : Option Tr) : Od → Str
 | .A => rn s.a | .B => rn s.b | .C => rn s.c | .E => et t | .Q => 61 :: 32 :: et t | .N => s.nm
def okOd (s : Sm) (t : Option Tr) : Od → Prop
 | .A => rg s.a | .B => rg s.b | .C => rg s.c | .E => ∃ x, t = some x ∧ okT' x ∧ s.e = x.post | .Q => ∃ x, t = some x ∧ okT' x ∧ s.e = x.post | .N => nameOk s.nm = true
theorem good_od {s : Sm} {t : Option Tr} (h : GoodS s t) : ∀ d ∈ odL s.k s.o, okOd s t d := by
 cases h with
 | none => intro d hd; simp [odL] at hd
 | ins0 h hk =>
  cases h with
  | reg h1 h2 ha hb hc hu =>
   intro d hd
   dsimp only at hd
   rw [odL_reg h1] at hd
   simp only [List.mem_cons, List.not_mem_nil, or_false] at hd
   rcases hd with rfl | rfl | rfl
   ·exact ha
   ·exact hb
   ·exact hc
  | mov ha hc =>
   intro d hd
   simp only [odL, if_true, List.mem_cons, List.not_mem_nil, or_false] at hd
   rcases hd with rfl | rfl
   ·exact ha
   ·exact hc
  | hi ha => intro d hd; simp [odL] at hd; subst hd; exact ha
  | fl ha => intro d hd; simp [odL] at hd; subst hd; exact ha
  | br ho hc => intro d hd; simp [odL] at hd; subst hd; exact hc
  | imm => simp at hk
  | movi => simp at hk
  | mem => simp at hk
  | jmp => simp at hk
 | ins1 h hk ht =>
  cases h with
  | imm h1 h2 ha hb hu =>
   intro d hd
   dsimp only at hd
   rw [odL_imm h1] at hd
   simp only [List.mem_cons, List.not_mem_nil, or_false] at hd
   rcases hd with rfl | rfl | rfl
   ·exact ha
   ·exact hb
   ·exact ⟨_, rfl, ht, rfl⟩
  | movi ha =>
   intro d hd
   simp [odL] at hd
   rcases hd with rfl | rfl
   ·exact ha
   ·exact ⟨_, rfl, ht, rfl⟩
  | mem h1 h2 ha hb =>
   intro d hd
   simp [odL] at hd
   rcases hd with rfl | rfl | rfl
   ·exact ha
   ·exact hb
   ·exact ⟨_, rfl, ht, rfl⟩
  | jmp ho => intro d hd; simp [odL] at hd; subst hd; exact ⟨_, rfl, ht, rfl⟩
  | reg => simp at hk
  | mov => simp at hk
  | hi => simp at hk
  | fl => simp at hk
  | br => simp at hk
 | load ha ht =>
  intro d hd
  simp [odL] at hd
  rcases hd with rfl | rfl
  ·exact ha
  ·exact ⟨_, rfl, ht, rfl⟩
 | word ht => intro d hd; simp [odL] at hd; subst hd; exact ⟨_, rfl, ht, rfl⟩
 | exp hn => intro d hd; simp [odL] at hd; subst hd; exact hn
theorem regN_len (k : Nat) : (regN k).length ≤ 3 := by unfold regN; split <;> simp
theorem wtx_len {s : Sm} {t : Option Tr} {d : Od} (h : okOd s t d) : (wtx s t d).length ≤ 1300 := by
 have r : ∀ a : Int, (rn a).length ≤ 1300 := fun a => Nat.le_trans (regN_len _) (by decide)
 have e : (∃ x, t = some x ∧ okT' x ∧ s.e = x.post) → (et t).length ≤ 1280 := by
  rintro ⟨x, rfl, hx, _⟩
  have := txt_len x hx.1 hx.2.1
  have := hx.2.2.2
  show x.txt.length ≤ 1280
  omega
 cases d with
 | A => exact r _
 | B => exact r _
 | C => exact r _
 | E => exact Nat.le_trans (e h) (by decide)
 | Q => have := e h; show (61 :: 32 :: et t).length ≤ 1300; simp; omega
 | N =>
  have h : nameOk s.nm = true := h
  unfold nameOk at h
  simp only [Bool.and_eq_true, decide_eq_true_eq] at h
  show s.nm.length ≤ 1300
  have := h.1.1.1.2
  omega
theorem num2_eq {s : Sm} {t : Option Tr} (h : ∃ x, t = some x ∧ okT' x ∧ s.e = x.post) (q : Str) (hq : q = [] ∨ q = [61]) :
  stmt_number_2.g s.k s.o s.a s.b s.c s.u s.e s.nm q = some (if q = [] then et t else 61 :: 32 :: et t, ()) := by
 obtain ⟨x, rfl, hx, he⟩ := h
 have hl := txt_len x hx.1 hx.2.1
 have hl2 := hx.2.2.2
 unfold stmt_number_2.g stmt_number_2.f
 rw [he, eprint_eq hx.1 hx.2.1 hx.2.2.1 hx.2.2.2, Option.bind_some]
 dsimp only
 obtain ⟨c, r, h1, h2⟩ := txt_head x hx.1
 rcases hq with rfl | rfl
 ·rw [if_pos (by decide), if_pos (by simp; omega), trimB_eq _ (by simp; omega), Option.bind_some, if_pos rfl]
  show some ((([] ++ [32]) ++ x.txt).dropWhile (· == 32), ()) = some (x.txt, ())
  rw [h1]
  have : (c == 32) = false := by simpa using h2
  simp [List.dropWhile_cons, this]
 ·rw [if_pos (by decide), if_pos (by simp; omega), trimB_eq _ (by simp; omega), Option.bind_some, if_neg (by decide)]
  rfl
theorem write_loop (s : Sm) (t : Option Tr) (out : List Str) (mn : Str) (n : Nat) (ods : List Od) (ho : ∀ d ∈ ods, okOd s t d) (hl : ods.length ≤ 3) : ∀ (m i : Nat) (l : List Str), i ≤ ods.length → ods.length - i < m → l.length = i →
  stmt_Print.l12 n m out mn l (ods.map odF) (ods.length : Int) (i : Int) s.k s.o s.a s.b s.c s.u s.e s.nm = stmt_Print.l12 n 1 out mn (l ++ (ods.drop i).map (wtx s t)) (ods.map odF) (ods.length : Int) (ods.length : Int) s.k s.o s.a s.b s.c s.u s.e s.nm := by
 intro m
 induction m with
 | zero => intro i _ _ h; omega
 | succ m ih =>
  intro i l hi hm hli
  by_cases h : i < ods.length
  ·have hd : ods.drop i = ods[i] :: ods.drop (i + 1) := List.drop_eq_getElem_cons h
   have hg : (ods.map odF).getD ((i : Int)).toNat (((0, []) : Fn), (((0, []) : Fn), ())) = odF ods[i] := by
    rw [Int.toNat_natCast, List.getD_eq_getElem?_getD, List.getElem?_eq_getElem (by simpa using h)]; simp
   have hok := ho ods[i] (List.getElem_mem h)
   have next := fun x : Str => ih (i + 1) (l ++ [x]) (by omega) (by omega) (by simp [hli])
   rw [stmt_Print.l12, if_pos (by simp; omega), if_pos (by simp; omega), hg, hd, List.map_cons]
   have W1 : IntKind.i64.wrap ((i : Int) + 1) = ((i + 1 : Nat) : Int) := by rw [w64 (by omega)]; omega
   have fin : ∀ x : Str, (if (l.length + ([x] : List Str).length) * 16 ≤ 140737488355328 ∧ 0 < 16 ∧ 0 < 1 then (stmt_Print.j15 n (stmt_Print.l12 n m) out mn (l ++ ([x] : List Str)) (ods.map odF) (ods.length : Int) (i : Int) s.k s.o s.a s.b s.c s.u s.e s.nm) else none) =
     stmt_Print.l12 n 1 out mn (l ++ x :: (ods.drop (i + 1)).map (wtx s t)) (ods.map odF) (ods.length : Int) (ods.length : Int) s.k s.o s.a s.b s.c s.u s.e s.nm := fun x => by
    rw [if_pos (by simp; omega)]
    unfold stmt_Print.j15
    rw [W1, next x, List.append_assoc]
    rfl
   generalize hx : ods[i] = d at hok ⊢
   cases d with
   | A =>
    show (if K.wrA = K.wrA then _ else _) = _
    rw [if_pos rfl]
    unfold stmt_register_2.g stmt_register_2.f stmt_operands_1.g stmt_operands_1.f
    rw [if_pos rfl, Option.bind_some]
    dsimp only
    rw [rn_eq hok, Option.bind_some, Option.bind_some]
    exact fin _
   | B =>
    show (if K.wrB = K.wrA then _ else if K.wrB = K.wrB then _ else _) = _
    rw [if_neg (by decide), if_pos rfl]
    unfold stmt_register_2.g stmt_register_2.f stmt_operands_2.g stmt_operands_2.f
    rw [if_neg (by decide), if_pos rfl, Option.bind_some]
    dsimp only
    rw [rn_eq hok, Option.bind_some, Option.bind_some]
    exact fin _
   | C =>
    show (if K.wrC = K.wrA then _ else if K.wrC = K.wrB then _ else if K.wrC = K.wrC then _ else _) = _
    rw [if_neg (by decide), if_neg (by decide), if_pos rfl]
    unfold stmt_register_2.g stmt_register_2.f stmt_operands_3.g stmt_operands_3.f
    rw [if_neg (by decide), if_neg (by decide), if_pos rfl, Option.bind_some]
    dsimp only
    rw [rn_eq hok, Option.bind_some, Option.bind_some]
    exact fin _
   | E =>
    show (if K.wrE = K.wrA then _ else if K.wrE = K.wrB then _ else if K.wrE = K.wrC then _ else if K.wrE = K.wrE then _ else _) = _
    rw [if_neg (by decide), if_neg (by decide), if_neg (by decide), if_pos rfl, num2_eq hok [] (.inl rfl), Option.bind_some]
    exact fin _
   | Q =>
    show (if K.wrQ = K.wrA then _ else if K.wrQ = K.wrB then _ else if K.wrQ = K.wrC then _ else if K.wrQ = K.wrE then _ else if K.wrQ = K.wrQ then _ else _) = _
    rw [if_neg (by decide), if_neg (by decide), if_neg (by decide), if_neg (by decide), if_pos rfl, num2_eq hok [61] (.inr rfl), Option.bind_some]
    exact fin _
   | N =>
    show (if K.wrN = K.wrA then _ else if K.wrN = K.wrB then _ else if K.wrN = K.wrC then _ else if K.wrN = K.wrE then _ else if K.wrN = K.wrQ then _ else if K.wrN = K.wrN then _ else _) = _
    rw [if_neg (by decide), if_neg (by decide), if_neg (by decide), if_neg (by decide), if_neg (by decide), if_pos rfl]
    unfold stmt_operands_5.g stmt_operands_5.f
    rw [Option.bind_some]
    exact fin _
  ·have hi' : i = ods.length := by omega
   subst hi'
   rw [List.drop_length, List.map_nil, List.append_nil, stmt_Print.l12, stmt_Print.l12]
   simp only [dt]
   rw [if_neg (by omega), if_neg (by omega)]
def hk (k : Int) : Int := if k = 2 then 1 else if k = 6 then 7 else k
def mtx (s : Sm) : Str := (if s.k = 9 ∨ s.k = 10 then [46] else []) ++ L.mnemR (hk s.k) s.o s.u
def stx (s : Sm) (t : Option Tr) : Str := if s.k = 0 then [] else mtx s ++ 32 :: L.sjoinR [44, 32] ((odL s.k s.o).map (wtx s t))
def ltx (lb : Str) (s : Sm) (t : Option Tr) : Str := if lb = [] then stx s t else lb ++ 58 :: (if s.k = 0 then [] else 32 :: stx s t)
theorem nt_len : ∀ e ∈ L.nameTbl, e.2.2.length ≤ 6 := by decide +kernel
theorem mnem_len (k o : Int) (u : Bool) : (L.mnemR k o u).length ≤ 6 := by
 by_cases h : L.mnemR k o u = []
 ·rw [h]; simp
 ·obtain ⟨e, he, _, h2⟩ := mnem_mem h
  rw [← h2]; exact nt_len e he
theorem flat_len (sep : Str) (b : Nat) : ∀ (l : List Str), (∀ x ∈ l, x.length ≤ b) → ((l.map (sep ++ ·)).flatten).length ≤ (b + sep.length) * l.length
 | [], _ => by simp
 | y :: r, h => by
  have h1 := h y (by simp)
  have h2 := flat_len sep b r fun z hz => h z (by simp [hz])
  rw [List.map_cons, List.flatten_cons, List.length_append, List.length_append, List.length_cons, Nat.mul_add, Nat.mul_one]
  omega
theorem sjoin_len (sep : Str) (b : Nat) (l : List Str) (h : ∀ x ∈ l, x.length ≤ b) : (L.sjoinR sep l).length ≤ (b + sep.length) * l.length := by
 cases l with
 | nil => simp [L.sjoinR]
 | cons x r =>
  have h1 := h x (by simp)
  have h2 := flat_len sep b r fun z hz => h z (by simp [hz])
  rw [show L.sjoinR sep (x :: r) = x ++ (r.map (sep ++ ·)).flatten from rfl, List.length_append, List.length_cons, Nat.mul_add, Nat.mul_one]
  omega
theorem hk_range {k : Int} (h : 0 ≤ k) (h2 : k ≤ 10) : -9223372036854775808 ≤ hk k ∧ hk k ≤ 9223372036854775807 := by unfold hk; split <;> (try split) <;> omega
theorem head_eq' (k : Int) : stmt_head.g k = some (hk k, ()) := by
 unfold stmt_head.g stmt_head.f hk
 simp only [dt]
 split
 ·rfl
 ·split <;> rfl
theorem dotted_eq (k : Int) : stmt_dotted.g k = some (decide (k = 9 ∨ k = 10), ()) := by
 unfold stmt_dotted.g stmt_dotted.f
 simp only [df]
 by_cases h : k = 9
 ·rw [if_neg (by simp [h])]; simp [h]
 ·rw [if_pos h]; simp [h]
abbrev printG (lb : Str) (s : Sm) : Option (Str × Int × Unit) := stmt_Print.g lb s.k s.o s.a s.b s.c s.u s.e s.nm
theorem good_kr {s : Sm} {t : Option Tr} (h : GoodS s t) : 0 ≤ s.k ∧ s.k ≤ 10 ∧ 0 ≤ s.o ∧ s.o ≤ 15 := by
 cases h with
 | none => decide
 | ins0 h hk => obtain ⟨h1, h2, h3, h4⟩ := i0_range h; exact ⟨by dsimp only; omega, by dsimp only; omega, h3, h4⟩
 | ins1 h hk ht => obtain ⟨h1, h2, h3, h4⟩ := i0_range h; exact ⟨by dsimp only; omega, by dsimp only; omega, h3, h4⟩
 | load ha ht => refine ⟨?_, ?_, ?_, ?_⟩ <;> dsimp only <;> decide
 | word ht => refine ⟨?_, ?_, ?_, ?_⟩ <;> dsimp only <;> decide
 | exp hn => refine ⟨?_, ?_, ?_, ?_⟩ <;> dsimp only <;> decide
theorem print_good {s : Sm} {t : Option Tr} (h : GoodS s t) {lb : Str} (hlb : lb = [] ∨ labelOk lb = true) : printG lb s = some (ltx lb s t, 0, ()) := by
 have hod := good_od h
 have hkr := good_kr h
 have hl3 := odL_len s.k s.o
 have hll : lb.length ≤ 12 := by
  rcases hlb with rfl | hlb
  ·simp
  ·unfold labelOk at hlb
   simp only [Bool.and_eq_true, decide_eq_true_eq] at hlb
   exact hlb.1.1.1.2
 have hbody : (L.sjoinR [44, 32] ((odL s.k s.o).map (wtx s t))).length ≤ 4000 := by
  have := sjoin_len [44, 32] 1300 ((odL s.k s.o).map (wtx s t)) (fun x hx => by
   obtain ⟨d, hd, rfl⟩ := List.mem_map.1 hx
   exact wtx_len (hod d hd))
  rw [List.length_map] at this
  have h2 : (1300 + ([44, 32] : Str).length) * (odL s.k s.o).length ≤ 1302 * 3 := Nat.mul_le_mul (by decide) hl3
  omega
 have hmt : (mtx s).length ≤ 7 := by
  unfold mtx
  have := mnem_len (hk s.k) s.o s.u
  rw [List.length_append]
  split <;> simp <;> omega
 have hm : L.mnemO (hk s.k) s.o s.u = some (L.mnemR (hk s.k) s.o s.u, ()) := mnemO_eq s.u (hk_range hkr.1 hkr.2.1) (by omega)
 have J17 : ∀ (n : Nat) (out : List Str), (L.sjoinR [32] out).length ≤ 10000 → out.length ≤ 10 → stmt_Print.j17 n out = some (L.sjoinR [32] out, 0, ()) := fun n out h1 h2 => by
  unfold stmt_Print.j17 L.sjoinO
  rw [if_pos ⟨by omega, by omega⟩, Option.bind_some]
 have J10 : ∀ (n : Nat) (out : List Str), 10 ≤ n → out.length ≤ 1 → (∀ x ∈ out, x.length ≤ 13) → stmt_Print.j10 n out (mtx s) s.k s.o s.a s.b s.c s.u s.e s.nm = some (L.sjoinR [32] (out ++ [mtx s, L.sjoinR [44, 32] ((odL s.k s.o).map (wtx s t))]), 0, ()) := fun n out hn ho hx => by
  unfold stmt_Print.j10
  have hlen : ((L.opsR s.k s.o).length : Int) = ((odL s.k s.o).length : Int) := by rw [opsR_eq, List.length_map]
  rw [hlen, opsR_eq]
  have := write_loop s t out (mtx s) n (odL s.k s.o) hod hl3 n 0 [] (by omega) (by omega) rfl
  rw [show ((0 : Nat) : Int) = 0 from rfl] at this
  rw [this, List.drop_zero, List.nil_append, stmt_Print.l12]
  simp only [dt]
  rw [if_neg (by omega)]
  unfold L.sjoinO
  rw [if_pos ⟨by omega, by rw [List.length_map]; omega⟩, Option.bind_some]
  dsimp only
  rw [if_pos (by simp; omega)]
  refine J17 n _ ?_ (by simp; omega)
  generalize L.sjoinR [44, 32] ((odL s.k s.o).map (wtx s t)) = B at hbody
  generalize mtx s = M at hmt
  match out, ho with
  | [], _ => simp [L.sjoinR]; omega
  | [x], _ => have := hx x (by simp); simp [L.sjoinR]; omega
 have J6 : ∀ (n : Nat) (out : List Str), 10 ≤ n → out.length ≤ 1 → (∀ x ∈ out, x.length ≤ 13) → stmt_Print.j6 n out s.k s.o s.a s.b s.c s.u s.e s.nm = some (L.sjoinR [32] (out ++ (if s.k = 0 then [] else [mtx s, L.sjoinR [44, 32] ((odL s.k s.o).map (wtx s t))])), 0, ()) := fun n out hn ho hx => by
  unfold stmt_Print.j6
  simp only [dt, head_eq', Option.bind_some, hm, dotted_eq]
  by_cases h0 : s.k = 0
  ·rw [if_neg (by simp [h0]), if_pos h0, List.append_nil]
   refine J17 n out ?_ (by omega)
   match out, ho with
   | [], _ => simp [L.sjoinR]
   | [x], _ => have := hx x (by simp); simp [L.sjoinR]; omega
  ·rw [if_pos h0, if_neg h0, ← J10 n out hn ho hx]
   unfold mtx
   by_cases hd : s.k = 9 ∨ s.k = 10
   ·rw [if_pos hd, if_pos (by have := mnem_len (hk s.k) s.o s.u; simp; omega), if_pos hd]
   ·rw [if_neg hd, if_neg hd]; rfl
 have J3 : ∀ n, 10 ≤ n → stmt_Print.j3 n lb s.k s.o s.a s.b s.c s.u s.e s.nm = some (ltx lb s t, 0, ()) := fun n hn => by
  unfold stmt_Print.j3 ltx stx
  by_cases hl : lb = []
  ·subst hl
   rw [if_neg (by decide), J6 n [] hn (by simp) (by simp), if_pos rfl]
   by_cases h0 : s.k = 0
   ·rw [if_pos h0, if_pos h0]; rfl
   ·rw [if_neg h0, if_neg h0]; simp [L.sjoinR]
  ·rw [if_pos (by simp [hl]), if_pos (by simp; omega), if_pos (by simp), J6 n _ hn (by simp) (by simp; omega), if_neg hl]
   by_cases h0 : s.k = 0
   ·rw [if_pos h0, if_pos h0]; simp [L.sjoinR]
   ·rw [if_neg h0, if_neg h0, if_neg h0]; simp [L.sjoinR]
 unfold printG stmt_Print.g
 have hN : 10 ≤ 1000 + lb.length + s.k.toNat + s.o.toNat + s.a.toNat + s.b.toNat + s.c.toNat + s.e.length + s.nm.length := by omega
 generalize 1000 + lb.length + s.k.toNat + s.o.toNat + s.a.toNat + s.b.toNat + s.c.toNat + s.e.length + s.nm.length = n at hN
 unfold stmt_Print.f
 have hmay : stmt_May.g s.k s.o s.a s.b s.c s.u s.e s.nm = some (true, ()) := may_good h
 rw [hmay, J3 n hN, label_eq]
 simp only [Option.bind_some]
 rcases hlb with rfl | hlb
 ·rfl
 ·rw [hlb]
  have : lb ≠ [] := by rintro rfl; exact absurd hlb (by decide)
  rw [if_pos (by simp [this]), if_pos (by decide), if_neg (by decide)]
end Rv
namespace Rv
open Go
theorem line_sig' (c : UInt8) (hc : c ∈ ([40, 41, 42, 43, 45, 44, 58, 61] : Str)) (k : Int) (r : Str) : lineR k (c :: r) = preE [(3, k, [c], 0, ())] (lineR (k + 1) r) := by
 have step : isL c = false ∧ isD c = false ∧ c ≠ 46 ∧ isS c = true ∧ c ≠ 59 ∧ c ≠ 32 ∧ c ≠ 9 := by
  simp only [List.mem_cons, List.not_mem_nil, or_false] at hc
  rcases hc with rfl | rfl | rfl | rfl | rfl | rfl | rfl | rfl <;> decide
 obtain ⟨h1, h2, h3, h4, h5, h6, h7⟩ := step
 rw [lineR_cons, if_neg h5, if_neg (fun h => h.elim h6 h7)]
 unfold tokAt
 rw [if_neg (by simp [h1]), if_neg (by simp [h2]), if_neg (fun h => h3 h.1), if_pos h4]
 dsimp only
 rw [show k + ((0 : Nat) : Int) + (([c] : Str).length : Int) = k + 1 by simp, show 0 + ([c] : Str).length - 1 = 0 from rfl, List.drop_zero]
 cases lineR (k + 1) r <;> rfl
def ScansA (s : Str) (b : List Bt) : Prop := ∀ k : Int, ∃ ts : List TokL, ts.map bare = b ∧ ∀ r, lineR k (s ++ r) = preE ts (lineR (k + s.length) r)
theorem ScansA.scans {s : Str} {b : List Bt} (h : ScansA s b) : Scans s b := fun k => by
 obtain ⟨ts, h1, h2⟩ := h k
 exact ⟨ts, h1, fun r _ => h2 r⟩
theorem ScansA.sig (c : UInt8) (hc : c ∈ ([40, 41, 42, 43, 45, 44, 58, 61] : Str)) : ScansA [c] [(3, [c], 0)] := fun k => ⟨[(3, k, [c], 0, ())], rfl, fun r => line_sig' c hc k r⟩
theorem ScansA.blank : ScansA [32] [] := fun k => ⟨[], rfl, fun r => by
 show lineR k (32 :: r) = _
 rw [line_blank]
 show _ = preE [] (lineR (k + 1) r)
 cases lineR (k + 1) r <;> rfl⟩
theorem scans_nil : Scans [] [] := fun k => ⟨[], rfl, fun r _ => by
 show lineR k r = preE [] (lineR (k + ((0 : Nat) : Int)) r)
 rw [show k + ((0 : Nat) : Int) = k by omega]
 cases lineR k r <;> rfl⟩
theorem ScansA.app {s s' : Str} {b b' : List Bt} (h : ScansA s b) (h' : Scans s' b') : Scans (s ++ s') (b ++ b') := fun k => by
 obtain ⟨ts, h1, h2⟩ := h k
 obtain ⟨ts', h3, h4⟩ := h' (k + s.length)
 refine ⟨ts ++ ts', by rw [List.map_append, h1, h3], fun r hr => ?_⟩
 rw [List.append_assoc, h2, h4 r hr, ← preE_app, List.length_append]
 congr 2
 omega
theorem ScansA.appA {s s' : Str} {b b' : List Bt} (h : ScansA s b) (h' : ScansA s' b') : ScansA (s ++ s') (b ++ b') := fun k => by
 obtain ⟨ts, h1, h2⟩ := h k
 obtain ⟨ts', h3, h4⟩ := h' (k + s.length)
 refine ⟨ts ++ ts', by rw [List.map_append, h1, h3], fun r => ?_⟩
 rw [List.append_assoc, h2, h4 r, ← preE_app, List.length_append]
 congr 2
 omega
theorem Scans.app {s s' : Str} {b b' : List Bt} (h : Scans s b) (h' : Scans s' b') (hs : s' = [] ∨ ∃ c y, s' = c :: y ∧ isW c = false) : Scans (s ++ s') (b ++ b') := fun k => by
 obtain ⟨ts, h1, h2⟩ := h k
 obtain ⟨ts', h3, h4⟩ := h' (k + s.length)
 refine ⟨ts ++ ts', by rw [List.map_append, h1, h3], fun r hr => ?_⟩
 have hok : okR (s' ++ r) := by
  rcases hs with rfl | ⟨c, y, rfl, hc⟩
  ·exact hr
  ·exact .inr ⟨c, y ++ r, rfl, hc⟩
 rw [List.append_assoc, h2 _ hok, h4 r hr, ← preE_app, List.length_append]
 congr 2
 omega
theorem Scans.appA {s s' : Str} {b b' : List Bt} (h : Scans s b) (h' : ScansA s' b') (hs : ∃ c y, s' = c :: y ∧ isW c = false) : ScansA (s ++ s') (b ++ b') := fun k => by
 obtain ⟨ts, h1, h2⟩ := h k
 obtain ⟨ts', h3, h4⟩ := h' (k + s.length)
 refine ⟨ts ++ ts', by rw [List.map_append, h1, h3], fun r => ?_⟩
 have hok : okR (s' ++ r) := by
  obtain ⟨c, y, rfl, hc⟩ := hs
  exact .inr ⟨c, y ++ r, rfl, hc⟩
 rw [List.append_assoc, h2 _ hok, h4 r, ← preE_app, List.length_append]
 congr 2
 omega
def wordy (s : Str) : Bool := s.all isW && (match s with | c :: _ => isL c | [] => false)
theorem scans_word {s : Str} (h : wordy s = true) : Scans s [(1, s, 0)] := fun k => by
 cases s with
 | nil => exact absurd h (by decide)
 | cons c t =>
  unfold wordy at h
  simp only [Bool.and_eq_true] at h
  refine ⟨[(1, k, c :: t, 0, ())], rfl, fun r hr => line_word rfl h.1 (fun r hr => ?_) k hr⟩
  have hword : wordOf (c :: (t ++ r)) = c :: t := by
   rw [← List.cons_append]; exact word_okR h.1 hr
  unfold tokAt
  rw [if_pos h.2, hword]
theorem scans_dot {s : Str} (h : wordy s = true) : Scans (46 :: s) [(4, s, 0)] := fun k => by
 cases s with
 | nil => exact absurd h (by decide)
 | cons c t =>
  unfold wordy at h
  simp only [Bool.and_eq_true] at h
  refine ⟨[(4, k, c :: t, 0, ())], rfl, fun r hr => ?_⟩
  have hword : wordOf (c :: t ++ r) = c :: t := word_okR h.1 hr
  rw [List.cons_append, lineR_cons, if_neg (by decide), if_neg (by decide)]
  unfold tokAt
  rw [if_neg (by decide), if_neg (by decide), if_pos ⟨rfl, c, rfl, h.2⟩, hword]
  dsimp only
  rw [show (c :: t ++ r).drop (1 + (c :: t).length - 1) = r by rw [Nat.add_sub_cancel_left]; exact List.drop_left' rfl, show k + ((1 : Nat) : Int) + ((c :: t).length : Int) = k + ((46 :: c :: t).length : Int) by simp; omega]
  cases lineR (k + ((46 :: c :: t).length : Int)) r <;> rfl
theorem scans_label {s : Str} (h : labelOk s = true) : Scans s [(1, s, 0)] := fun k => ⟨_, rfl, fun r hr => line_name' h k hr⟩
theorem name_label {s : Str} (h : nameOk s = true) : labelOk s = true := by
 unfold nameOk at h
 simp only [Bool.and_eq_true, decide_eq_true_eq, Bool.not_eq_true'] at h
 unfold labelOk
 simp only [Bool.and_eq_true, decide_eq_true_eq, Bool.not_eq_true']
 have hd : ∀ n : Nat, n < 256 → isA (UInt8.ofNat n) = true → isD (UInt8.ofNat n) = false := by decide +kernel
 have := hd (s.getD 0 0).toNat (UInt8.toNat_lt _)
 rw [UInt8.ofNat_toNat] at this
 exact ⟨⟨⟨⟨h.1.1.1.1, h.1.1.1.2⟩, this h.1.1.2⟩, h.2⟩, h.1.2⟩
theorem rn_word {a : Int} (h : rg a) : wordy (rn a) = true := by
 have : ∀ k : Nat, k < 16 → wordy (regN k) = true := by decide +kernel
 exact this a.toNat (by have := h.1; have := h.2; omega)
theorem nt_word : ∀ e ∈ L.nameTbl, wordy e.2.2 = true := by decide +kernel
theorem mnem_word {k o : Int} {u : Bool} (h : L.mnemR k o u ≠ []) : wordy (L.mnemR k o u) = true := by
 obtain ⟨e, he, _, h2⟩ := mnem_mem h
 rw [← h2]; exact nt_word e he
def i0B (k o : Nat) (u : Bool) : Bool := ((k == 1 || k == 2) && decide (o < 12) && (!u || (o == 0 && k == 2) || (decide (8 ≤ o) && decide (o ≤ 10)))) || ((k == 3 || k == 4) && o == 0 && !u) || (k == 5 && decide (o < 4) && !u) || k == 6 || k == 7
theorem i0_all : ∀ k : Nat, k < 8 → ∀ o : Nat, o < 16 → ∀ u : Bool, i0B k o u = true → L.mnemR (hk (k : Int)) (o : Int) u ≠ [] := by decide +kernel
theorem i0_mnem {k o a b c : Int} {u : Bool} (h : GoodI0 k o a b c u) : L.mnemR (hk k) o u ≠ [] := by
 obtain ⟨h1, h2, h3, h4⟩ := i0_range h
 obtain ⟨k', rfl⟩ : ∃ k' : Nat, k = (k' : Int) := ⟨k.toNat, by omega⟩
 obtain ⟨o', rfl⟩ : ∃ o' : Nat, o = (o' : Int) := ⟨o.toNat, by omega⟩
 refine i0_all k' (by omega) o' (by omega) u ?_
 generalize hk' : (k' : Int) = K at h
 generalize ho' : (o' : Int) = O at h
 have kk : ∀ n : Nat, K = (n : Int) → k' = n := fun n e => by omega
 have oo : ∀ n : Nat, O = (n : Int) → o' = n := fun n e => by omega
 unfold i0B
 cases h with
 | reg q1 q2 _ _ _ q3 =>
  rw [kk 1 rfl]
  have : o' < 12 := by omega
  cases u with
  | false => simp [this]
  | true =>
   have := q3 rfl
   have : 8 ≤ o' ∧ o' ≤ 10 := by omega
   simp [*]
 | mov _ _ => rw [kk 1 rfl, oo 0 rfl]; decide
 | imm q1 q2 _ _ q3 =>
  rw [kk 2 rfl]
  have : o' < 12 := by omega
  cases u with
  | false => simp [this]
  | true =>
   have := q3 rfl
   have : 8 ≤ o' ∧ o' ≤ 10 := by omega
   simp [*]
 | movi _ => rw [kk 2 rfl, oo 0 rfl]; cases u <;> decide
 | hi _ => rw [kk 3 rfl, oo 0 rfl]; decide
 | fl _ => rw [kk 4 rfl, oo 0 rfl]; decide
 | mem q1 q2 _ _ =>
  rw [kk 5 rfl]
  have : o' < 4 := by omega
  simp [this]
 | br _ _ => rw [kk 6 rfl]; simp
 | jmp _ => rw [kk 7 rfl]; simp
theorem good_mnem {s : Sm} {t : Option Tr} (h : GoodS s t) (h0 : s.k ≠ 0) : L.mnemR (hk s.k) s.o s.u ≠ [] := by
 cases h with
 | none => exact absurd rfl h0
 | ins0 h _ => exact i0_mnem h
 | ins1 h _ _ => exact i0_mnem h
 | load _ _ => exact (by decide +kernel : L.mnemR (hk 8) 0 false ≠ [])
 | word _ => exact (by decide +kernel : L.mnemR (hk 9) 0 false ≠ [])
 | exp _ => exact (by decide +kernel : L.mnemR (hk 10) 0 false ≠ [])
def joinB : List (List Bt) → List Bt
 | [] => []
 | x :: r => x ++ (r.map ((3, [44], 0) :: ·)).flatten
def mtk (s : Sm) : Bt := (if s.k = 9 ∨ s.k = 10 then 4 else 1, L.mnemR (hk s.k) s.o s.u, 0)
def ek : Option Tr → List Bt
 | none => []
 | some t => t.toks
def wtk (s : Sm) (t : Option Tr) : Od → List Bt
 | .A => [(1, rn s.a, 0)] | .B => [(1, rn s.b, 0)] | .C => [(1, rn s.c, 0)] | .E => ek t | .Q => (3, [61], 0) :: ek t | .N => [(1, s.nm, 0)]
def stk (s : Sm) (t : Option Tr) : List Bt := if s.k = 0 then [] else mtk s :: joinB ((odL s.k s.o).map (wtk s t))
def ltk (lb : Str) (s : Sm) (t : Option Tr) : List Bt := if lb = [] then stk s t else (1, lb, 0) :: (3, [58], 0) :: stk s t
theorem scans_od {s : Sm} {t : Option Tr} {d : Od} (h : okOd s t d) : Scans (wtx s t d) (wtk s t d) := by
 cases d with
 | A => exact scans_word (rn_word h)
 | B => exact scans_word (rn_word h)
 | C => exact scans_word (rn_word h)
 | E => obtain ⟨x, rfl, hx, _⟩ := h; exact scans_tree x hx.1
 | Q =>
  obtain ⟨x, rfl, hx, _⟩ := h
  exact ((ScansA.sig 61 (by decide)).appA ScansA.blank).app (scans_tree x hx.1)
 | N => exact scans_label (name_label h)
theorem scans_join {s : Sm} {t : Option Tr} : ∀ (l : List Od), (∀ d ∈ l, okOd s t d) → Scans (L.sjoinR [44, 32] (l.map (wtx s t))) (joinB (l.map (wtk s t)))
 | [], _ => scans_nil
 | d :: l, h => by
  have tail : ∀ l : List Od, (∀ d ∈ l, okOd s t d) → Scans (((l.map (wtx s t)).map (([44, 32] : Str) ++ ·)).flatten) (((l.map (wtk s t)).map ((3, [44], 0) :: ·)).flatten) ∧ ((((l.map (wtx s t)).map (([44, 32] : Str) ++ ·)).flatten) = [] ∨ ∃ c y, (((l.map (wtx s t)).map (([44, 32] : Str) ++ ·)).flatten) = c :: y ∧ isW c = false) := by
   intro l
   induction l with
   | nil => intro _; exact ⟨scans_nil, .inl rfl⟩
   | cons e l ih =>
    intro h
    obtain ⟨h1, h2⟩ := ih fun d hd => h d (List.mem_cons_of_mem _ hd)
    have h3 := scans_od (h e (List.mem_cons_self ..))
    refine ⟨?_, .inr ⟨44, _, rfl, by decide⟩⟩
    have := (((ScansA.sig 44 (by decide)).appA ScansA.blank).app h3).app h1 h2
    simpa using this
  obtain ⟨h1, h2⟩ := tail l fun d hd => h d (List.mem_cons_of_mem _ hd)
  exact (scans_od (h d (List.mem_cons_self ..))).app h1 h2
theorem scans_stx {s : Sm} {t : Option Tr} (h : GoodS s t) : Scans (stx s t) (stk s t) := by
 unfold stx stk
 by_cases h0 : s.k = 0
 ·rw [if_pos h0, if_pos h0]; exact scans_nil
 ·rw [if_neg h0, if_neg h0]
  have hw := mnem_word (good_mnem h h0)
  have hm : Scans (mtx s) [mtk s] := by
   unfold mtx mtk
   by_cases hd : s.k = 9 ∨ s.k = 10
   ·rw [if_pos hd, if_pos hd]; exact scans_dot hw
   ·rw [if_neg hd, if_neg hd]; exact scans_word hw
  exact hm.app (ScansA.blank.app (scans_join _ (good_od h))) (.inr ⟨32, _, rfl, by decide⟩)
theorem scans_ltx {s : Sm} {t : Option Tr} (h : GoodS s t) {lb : Str} (hlb : lb = [] ∨ labelOk lb = true) : Scans (ltx lb s t) (ltk lb s t) := by
 unfold ltx ltk
 by_cases hl : lb = []
 ·rw [if_pos hl, if_pos hl]; exact scans_stx h
 ·rw [if_neg hl, if_neg hl]
  have h1 := scans_label (hlb.resolve_left hl)
  have h2 : Scans (58 :: (if s.k = 0 then [] else 32 :: stx s t)) ((3, [58], 0) :: stk s t) := by
   by_cases h0 : s.k = 0
   ·rw [if_pos h0, show stk s t = [] by unfold stk; rw [if_pos h0]]; exact (ScansA.sig 58 (by decide)).scans
   ·rw [if_neg h0]; exact (ScansA.sig 58 (by decide)).app (ScansA.blank.app (scans_stx h))
  exact h1.app h2 (.inr ⟨58, _, rfl, by decide⟩)
theorem stx_len {s : Sm} {t : Option Tr} (h : GoodS s t) : (stx s t).length ≤ 4100 := by
 unfold stx
 split
 ·simp
 ·have := sjoin_len [44, 32] 1300 ((odL s.k s.o).map (wtx s t)) (fun x hx => by
   obtain ⟨d, hd, rfl⟩ := List.mem_map.1 hx
   exact wtx_len (good_od h d hd))
  rw [List.length_map] at this
  have h2 : (1300 + ([44, 32] : Str).length) * (odL s.k s.o).length ≤ 1302 * 3 := Nat.mul_le_mul (by decide) (odL_len _ _)
  have h3 : (mtx s).length ≤ 7 := by
   unfold mtx
   have := mnem_len (hk s.k) s.o s.u
   rw [List.length_append]
   split <;> simp <;> omega
  rw [List.length_append, List.length_cons]
  omega
theorem ltx_len {s : Sm} {t : Option Tr} (h : GoodS s t) {lb : Str} (hlb : lb = [] ∨ labelOk lb = true) : (ltx lb s t).length ≤ 5000 := by
 have h1 := stx_len h
 have hll : lb.length ≤ 12 := by
  rcases hlb with rfl | hlb
  ·simp
  ·unfold labelOk at hlb
   simp only [Bool.and_eq_true, decide_eq_true_eq] at hlb
   exact hlb.1.1.1.2
 unfold ltx
 split
 ·omega
 ·rw [List.length_append, List.length_cons]
  split
  ·simp; omega
  ·rw [List.length_cons]; omega
end Rv
namespace Rv
open Go
def isSg (l : List TokL) (p : Nat) (c : UInt8) : Bool := decide (p < l.length) && decide ((l.getD p dTok).1 = 3) && decide ((l.getD p dTok).2.2.1 = [c])
abbrev XR := Except Int (List Item × Nat)
def xF (l : List TokL) (S F : Nat → XR) (p : Nat) : XR :=
 if isSg l p 45 = true then (match F (p + 1) with | .error e => .error e | .ok r => .ok (r.1 ++ [(3, 0, [], ())], r.2))
 else if isSg l p 40 = true then (match S (p + 1) with | .error e => .error e | .ok r => if isSg l r.2 41 = true then .ok (r.1, r.2 + 1) else .error 23)
 else if p < l.length ∧ (l.getD p dTok).1 = 2 then .ok ([(1, (l.getD p dTok).2.2.2.1, [], ())], p + 1)
 else if p < l.length ∧ (l.getD p dTok).1 = 1 ∧ labelOk (l.getD p dTok).2.2.1 = true then .ok ([(2, 0, (l.getD p dTok).2.2.1, ())], p + 1)
 else .error 23
def lT (l : List TokL) (F : Nat → XR) : Nat → List Item → Nat → XR
 | 0, it, p => .ok (it, p)
 | m + 1, it, p => if isSg l p 42 = true then (match F (p + 1) with | .error e => .error e | .ok r => lT l F m (it ++ r.1 ++ [(6, 0, [], ())]) r.2) else .ok (it, p)
def xT (l : List TokL) (F : Nat → XR) (p : Nat) : XR := match F p with | .error e => .error e | .ok r => lT l F (l.length + 1) r.1 r.2
def lS (l : List TokL) (T : Nat → XR) : Nat → List Item → Nat → XR
 | 0, it, p => .ok (it, p)
 | m + 1, it, p => if isSg l p 43 = true then (match T (p + 1) with | .error e => .error e | .ok r => lS l T m (it ++ r.1 ++ [(4, 0, [], ())]) r.2)
  else if isSg l p 45 = true then (match T (p + 1) with | .error e => .error e | .ok r => lS l T m (it ++ r.1 ++ [(5, 0, [], ())]) r.2) else .ok (it, p)
def xS (l : List TokL) (F : Nat → XR) (p : Nat) : XR := match xT l F p with | .error e => .error e | .ok r => lS l (xT l F) (l.length + 1) r.1 r.2
def pF (l : List TokL) : Nat → Nat → XR
 | 0, _ => .error 24
 | q + 1, p => xF l (xS l (pF l q)) (pF l q) p
def parseX (l : List TokL) (p : Nat) : List Item × Int × Int × Unit :=
 match xS l (pF l 9) p with
 | .error e => ([], 0, e, ())
 | .ok r => if 64 < r.1.length then ([], 0, 24, ()) else (r.1, (r.2 : Int), 0, ())
structure OkX (l : List TokL) (p : Nat) (it : List Item) (p' : Nat) : Prop where
 lt : p < p'
 le : p' ≤ l.length
 len : it.length ≤ p' - p
 well : wellL it
 good : (∀ t ∈ l, 0 ≤ t.2.2.2.1 ∧ t.2.2.2.1 ≤ 4294967295) → ∀ x ∈ it, goodItem x
def GoodX (l : List TokL) (p : Nat) : XR → Prop
 | .error e => e = 23 ∨ e = 24
 | .ok r => OkX l p r.1 r.2
theorem isSg_lt {l : List TokL} {p : Nat} {c : UInt8} (h : isSg l p c = true) : p < l.length := by
 unfold isSg at h
 simp only [Bool.and_eq_true, decide_eq_true_eq] at h
 exact h.1.1
theorem getD_memT {l : List TokL} {p : Nat} (h : p < l.length) : l.getD p dTok ∈ l := by
 rw [List.getD_eq_getElem?_getD, List.getElem?_eq_getElem h]; exact List.getElem_mem h
theorem goodX_F {l : List TokL} {S F : Nat → XR} (hS : ∀ p, GoodX l p (S p)) (hF : ∀ p, GoodX l p (F p)) (p : Nat) : GoodX l p (xF l S F p) := by
 unfold xF
 split
 ·rename_i h
  have := hF (p + 1)
  cases hr : F (p + 1) with
  | error e => rw [hr] at this; exact this
  | ok r =>
   rw [hr] at this
   have h1 := this.lt; have h2 := this.len; have h3 := this.le
   refine ⟨by dsimp only; omega, h3, by simp; omega, well_one this.well _ rfl, fun ht x hx => ?_⟩
   simp only [List.mem_append, List.mem_singleton] at hx
   rcases hx with hx | rfl
   ·exact this.good ht x hx
   ·exact ⟨by decide, by decide, rfl⟩
 ·split
  ·have := hS (p + 1)
   cases hr : S (p + 1) with
   | error e => rw [hr] at this; exact this
   | ok r =>
    rw [hr] at this
    dsimp only
    split
    ·rename_i h
     have h0 := isSg_lt h
     have h1 := this.lt; have h2 := this.len; have h3 := this.le
     exact ⟨by dsimp only; omega, by dsimp only; omega, by dsimp only; omega, this.well, this.good⟩
    ·exact .inl rfl
  ·split
   ·rename_i h
    refine ⟨by dsimp only; omega, by have := h.1; dsimp only; omega, by simp, rfl, fun ht x hx => ?_⟩
    simp only [List.mem_singleton] at hx
    subst hx
    have := ht _ (getD_memT h.1)
    exact ⟨this.1, this.2, rfl⟩
   ·split
    ·rename_i h
     have hn : needsR (2, 0, (l.getD p dTok).2.2.1, ()) = (0, true) := by
      generalize (l.getD p dTok).2.2.1 = tx at h
      unfold needsR
      simp [h.2.2]
     refine ⟨by dsimp only; omega, by have := h.1; dsimp only; omega, by simp, ?_, fun ht x hx => ?_⟩
     ·show enough 0 [((2, 0, (l.getD p dTok).2.2.1, ()) : Item)] = some 1
      generalize ((2, 0, (l.getD p dTok).2.2.1, ()) : Item) = x at hn
      simp [enough, hn]
     ·simp only [List.mem_singleton] at hx
      subst hx
      exact ⟨by show (0 : Int) ≤ 0; decide, by show (0 : Int) ≤ _; decide, by rw [hn]⟩
    ·exact .inl rfl
theorem goodX_bin {l : List TokL} {a b c : Nat} {A B : List Item} (ha : OkX l a A b) (hb : OkX l (b + 1) B c) (x : Item) (hx : needsR x = (2, true)) (h0 : x.2.1 = 0) : OkX l a (A ++ B ++ [x]) c := by
 have h1 := ha.lt; have h2 := ha.len; have h3 := hb.lt; have h4 := hb.len
 refine ⟨by omega, hb.le, by simp; omega, well_two ha.well hb.well x hx, fun ht y hy => ?_⟩
 simp only [List.mem_append, List.mem_singleton] at hy
 rcases hy with (hy | hy) | rfl
 ·exact ha.good ht y hy
 ·exact hb.good ht y hy
 ·exact ⟨by rw [h0]; decide, by rw [h0]; decide, by rw [hx]⟩
theorem goodX_lT {l : List TokL} {F : Nat → XR} (hF : ∀ p, GoodX l p (F p)) (a : Nat) : ∀ (m : Nat) (it : List Item) (p : Nat), OkX l a it p → GoodX l a (lT l F m it p)
 | 0, it, p, h => h
 | m + 1, it, p, h => by
  rw [lT]
  split
  ·have := hF (p + 1)
   cases hr : F (p + 1) with
   | error e => rw [hr] at this; exact this
   | ok r =>
    rw [hr] at this
    exact goodX_lT hF a m _ _ (goodX_bin h this _ rfl rfl)
  ·exact h
theorem goodX_T {l : List TokL} {F : Nat → XR} (hF : ∀ p, GoodX l p (F p)) (p : Nat) : GoodX l p (xT l F p) := by
 unfold xT
 have := hF p
 cases hr : F p with
 | error e => rw [hr] at this; exact this
 | ok r => rw [hr] at this; exact goodX_lT hF p _ _ _ this
theorem goodX_lS {l : List TokL} {F : Nat → XR} (hF : ∀ p, GoodX l p (F p)) (a : Nat) : ∀ (m : Nat) (it : List Item) (p : Nat), OkX l a it p → GoodX l a (lS l F m it p)
 | 0, it, p, h => h
 | m + 1, it, p, h => by
  rw [lS]
  split
  ·have := hF (p + 1)
   cases hr : F (p + 1) with
   | error e => rw [hr] at this; exact this
   | ok r =>
    rw [hr] at this
    exact goodX_lS hF a m _ _ (goodX_bin h this _ rfl rfl)
  ·split
   ·have := hF (p + 1)
    cases hr : F (p + 1) with
    | error e => rw [hr] at this; exact this
    | ok r =>
     rw [hr] at this
     exact goodX_lS hF a m _ _ (goodX_bin h this _ rfl rfl)
   ·exact h
theorem goodX_S {l : List TokL} {F : Nat → XR} (hF : ∀ p, GoodX l p (F p)) (p : Nat) : GoodX l p (xS l F p) := by
 unfold xS
 have := goodX_T hF p
 cases hr : xT l F p with
 | error e => rw [hr] at this; exact this
 | ok r => rw [hr] at this; exact goodX_lS (goodX_T hF) p _ _ _ this
theorem goodX_pF (l : List TokL) : ∀ (q p : Nat), GoodX l p (pF l q p)
 | 0, _ => .inr rfl
 | q + 1, p => goodX_F (goodX_S (goodX_pF l q)) (goodX_pF l q) p
theorem sign_any (all : List Str) (hall : all.length ≤ 100) (l : List TokL) (p : Nat) (hl : l.length ≤ 1000000) (out : List Item) : expr_parser_sign.g all l p out 0 =
  if p < l.length ∧ (l.getD p dTok).1 = 3 ∧ (l.getD p dTok).2.2.1 ∈ all then some ((l.getD p dTok).2.2.1, true, l, ((p + 1 : Nat) : Int), out, 0, ()) else some ([], false, l, (p : Int), out, 0, ()) := by
 unfold expr_parser_sign.g expr_parser_sign.f
 by_cases hp : p < l.length
 ·rw [next_at l p out hp, Option.bind_some]
  dsimp only
  have := sign_loop (1000 + all.length + l.length + (p : Int).toNat + out.length + (0 : Int).toNat) all hall true l p out 0 (l.getD p dTok).1 (l.getD p dTok).2.1 (l.getD p dTok).2.2.1 (l.getD p dTok).2.2.2.1 (1000 + all.length + l.length + (p : Int).toNat + out.length + (0 : Int).toNat) 0 (by omega) (by omega)
  rw [show ((0 : Nat) : Int) = 0 from rfl] at this
  rw [this, w64 (by omega), List.drop_zero]
  by_cases h : (l.getD p dTok).1 = 3 ∧ (l.getD p dTok).2.2.1 ∈ all
  ·rw [if_pos ⟨rfl, h⟩, if_pos ⟨hp, h⟩]; rfl
  ·rw [if_neg (fun g => h g.2), if_neg (fun g => h g.2)]
 ·rw [next_end l p out (by omega), Option.bind_some]
  dsimp only
  have := sign_loop (1000 + all.length + l.length + (p : Int).toNat + out.length + (0 : Int).toNat) all hall false l p out 0 0 0 [] 0 (1000 + all.length + l.length + (p : Int).toNat + out.length + (0 : Int).toNat) 0 (by omega) (by omega)
  rw [show ((0 : Nat) : Int) = 0 from rfl] at this
  rw [this, if_neg (fun g => by cases g.1), if_neg (fun g => hp g.1)]
theorem isSg_iff {l : List TokL} {p : Nat} {c : UInt8} : isSg l p c = true ↔ p < l.length ∧ (l.getD p dTok).1 = 3 ∧ (l.getD p dTok).2.2.1 = [c] := by
 unfold isSg
 simp only [Bool.and_eq_true, decide_eq_true_eq, and_assoc]
theorem put_big (a b : Int) (c : Str) (l : List TokL) (p : Int) (out : List Item) (e : Int) (ho : out.length ≤ 3000000) : expr_parser_put.g a b c l p out e = some (l, p, out ++ [(a, b, c, ())], e, ()) := by
 unfold expr_parser_put.g expr_parser_put.f
 rw [if_pos (by simp; omega)]
def ResF (l : List TokL) (out : List Item) (B : Nat) (r : Option (List TokL × Int × List Item × Int × Unit)) : XR → Prop
 | .ok x => r = some (l, (x.2 : Int), out ++ x.1, 0, ())
 | .error e => ∃ p' out', r = some (l, p', out', e, ()) ∧ out'.length ≤ B
def ResT (l : List TokL) (out : List Item) (d : Int) (B : Nat) (r : Option (List TokL × Int × List Item × Int × Unit × Int × Unit)) : XR → Prop
 | .ok x => r = some (l, (x.2 : Int), out ++ x.1, 0, (), d, ())
 | .error e => ∃ p' out', r = some (l, p', out', e, (), d, ()) ∧ out'.length ≤ B
def okFq (l : List TokL) (q : Nat) : Prop := ∀ (p : Nat) (out : List Item) (Q : Nat), out.length + (l.length - p) ≤ 1000000 → 6 * q + 1 ≤ Q → ResF l out (2000000 + 3 * q) ((R Q).expr_parser_factor ((9 - q : Nat) : Int) l p out 0) (pF l q p)
def okTq (l : List TokL) (q : Nat) : Prop := ∀ (p : Nat) (out : List Item) (Q : Nat), out.length + (l.length - p) ≤ 1000000 → 6 * q + 4 ≤ Q → ∃ r, (R Q).expr_parser_sum_1 ((9 - q : Nat) : Int) l p out 0 = r.map (fun y => ((), ((9 - q : Nat) : Int), y)) ∧ ResF l out (2000000 + 3 * q + 1) r (xT l (pF l q) p)
def okSq (l : List TokL) (q : Nat) : Prop := ∀ (p : Nat) (out : List Item) (Q : Nat), out.length + (l.length - p) ≤ 1000000 → 6 * q + 6 ≤ Q → ResF l out (2000000 + 3 * q + 2) ((R Q).expr_parser_sum ((9 - q : Nat) : Int) l p out 0) (xS l (pF l q) p)
theorem err_ne {l : List TokL} {p : Nat} {x : XR} {e : Int} (h : GoodX l p x) (hx : x = .error e) : e ≠ 0 := by
 subst hx
 rcases h with rfl | rfl <;> decide
theorem T_loop {l : List TokL} (hl : l.length ≤ 1000000) {q : Nat} (hq9 : q ≤ 9) (hF : okFq l q) (n : Nat) (Q : Nat) (hQ : 6 * q + 2 ≤ Q) (out : List Item) : ∀ (m M : Nat) (it : List Item) (p : Nat), l.length - p < m → l.length - p < M → (out ++ it).length + (l.length - p) ≤ 1000000 →
  ResT l out ((9 - q : Nat) : Int) (2000000 + 3 * q + 1) (expr_parser_row_c201.l1 n (R Q) M sMul l p (out ++ it) 0 ((9 - q : Nat) : Int)) (lT l (pF l q) m it p) := by
 intro m
 induction m with
 | zero => intro M it p h; omega
 | succ m ih =>
  intro M it p hm hM ho
  obtain ⟨M, rfl⟩ : ∃ M', M = M' + 1 := ⟨M - 1, by omega⟩
  rw [expr_parser_row_c201.l1, sign_any sMul (by simp) l p hl, lT]
  by_cases hs : isSg l p 42 = true
  ·have hs' := isSg_iff.1 hs
   rw [if_pos ⟨hs'.1, hs'.2.1, by rw [hs'.2.2]; decide⟩, if_pos hs, Option.bind_some, hs'.2.2]
   dsimp only
   rw [if_neg (by decide)]
   obtain ⟨Q, rfl⟩ : ∃ Q', Q = Q' + 1 := ⟨Q - 1, by omega⟩
   have e : (R (Q + 1)).expr_parser_sum_1_1 ((9 - q : Nat) : Int) l ((p + 1 : Nat) : Int) (out ++ it) 0 = expr_parser_sum_1_1.h (R Q) ((9 - q : Nat) : Int) l ((p + 1 : Nat) : Int) (out ++ it) 0 := rfl
   rw [e]
   unfold expr_parser_sum_1_1.h expr_parser_sum_1_1.f
   have hg := goodX_pF l q (p + 1)
   have hr := hF (p + 1) (out ++ it) Q (by omega) (by omega)
   cases hx : pF l q (p + 1) with
   | error e =>
    rw [hx] at hr
    obtain ⟨p', out', h1, h2⟩ := hr
    have hne := err_ne hg hx
    have hlt := hs'.1
    rw [h1, Option.bind_some, Option.bind_some]
    dsimp only
    rw [put_big _ _ _ _ _ _ _ (by omega), Option.bind_some]
    dsimp only
    obtain ⟨M, rfl⟩ : ∃ M', M = M' + 1 := ⟨M - 1, by omega⟩
    rw [l52_err n _ M l p' _ e _ hne]
    exact ⟨p', _, rfl, by simp; omega⟩
   | ok r =>
    rw [hx] at hr hg
    have hr : (R Q).expr_parser_factor ((9 - q : Nat) : Int) l ((p + 1 : Nat) : Int) (out ++ it) 0 = some (l, (r.2 : Int), (out ++ it) ++ r.1, 0, ()) := hr
    have g1 := hg.lt; have g2 := hg.len; have g3 := hg.le
    rw [hr, Option.bind_some, Option.bind_some]
    dsimp only
    rw [put_big _ _ _ _ _ _ _ (by simp at ho ⊢; omega), Option.bind_some]
    dsimp only
    have := ih M (it ++ r.1 ++ [(6, 0, [], ())]) r.2 (by omega) (by omega) (by simp at ho ⊢; omega)
    rw [show out ++ it ++ r.1 ++ [((L.kinds [42]).1, 0, [], ())] = out ++ (it ++ r.1 ++ [(6, 0, [], ())]) by simp [L.kinds]]
    exact this
  ·rw [if_neg (fun h => hs (isSg_iff.2 ⟨h.1, h.2.1, by simpa using h.2.2⟩)), if_neg hs, Option.bind_some]
   rfl
theorem T_of {l : List TokL} (hl : l.length ≤ 1000000) {q : Nat} (hq9 : q ≤ 9) (hF : okFq l q) : okTq l q := by
 intro p out Q ho hQ
 obtain ⟨Q, rfl⟩ : ∃ Q', Q = Q' + 2 := ⟨Q - 2, by omega⟩
 have e : (R (Q + 2)).expr_parser_sum_1 ((9 - q : Nat) : Int) l (p : Int) out 0 = expr_parser_sum_1.h (R (Q + 1)) ((9 - q : Nat) : Int) l (p : Int) out 0 := rfl
 rw [e]
 unfold expr_parser_sum_1.h expr_parser_sum_1.f
 have e2 : (R (Q + 1)).expr_parser_row_c201 sMul l (p : Int) out 0 ((9 - q : Nat) : Int) = expr_parser_row_c201.h (R Q) sMul l (p : Int) out 0 ((9 - q : Nat) : Int) := rfl
 rw [e2]
 unfold expr_parser_row_c201.h expr_parser_row_c201.f
 obtain ⟨N, hN⟩ : ∃ N, 1000 + sMul.length + l.length + (p : Int).toNat + out.length + (0 : Int).toNat + (((9 - q : Nat) : Int)).toNat = N := ⟨_, rfl⟩
 rw [hN]
 obtain ⟨Q, rfl⟩ : ∃ Q', Q = Q' + 1 := ⟨Q - 1, by omega⟩
 have e3 : (R (Q + 1)).expr_parser_sum_1_1 ((9 - q : Nat) : Int) l (p : Int) out 0 = expr_parser_sum_1_1.h (R Q) ((9 - q : Nat) : Int) l (p : Int) out 0 := rfl
 rw [e3]
 unfold expr_parser_sum_1_1.h expr_parser_sum_1_1.f
 have hg := goodX_pF l q p
 have hr := hF p out Q (by omega) (by omega)
 unfold xT
 cases hx : pF l q p with
 | error e =>
  rw [hx] at hr
  obtain ⟨p', out', h1, h2⟩ := hr
  have hne := err_ne hg hx
  rw [h1, Option.bind_some, Option.bind_some]
  dsimp only
  obtain ⟨M, rfl⟩ : ∃ M', N = M' + 1 := ⟨N - 1, by omega⟩
  rw [l52_err _ _ M l p' _ e _ hne, Option.bind_some]
  exact ⟨some (l, p', out', e, ()), rfl, p', out', rfl, by omega⟩
 | ok r =>
  rw [hx] at hr hg
  have hr : (R Q).expr_parser_factor ((9 - q : Nat) : Int) l (p : Int) out 0 = some (l, (r.2 : Int), out ++ r.1, 0, ()) := hr
  have g1 := hg.lt; have g2 := hg.len; have g3 := hg.le
  rw [hr, Option.bind_some, Option.bind_some]
  dsimp only
  have := T_loop hl hq9 hF N (Q + 1) (by omega) out (l.length + 1) N r.1 r.2 (by omega) (by omega) (by simp; omega)
  generalize expr_parser_row_c201.l1 N (R (Q + 1)) N sMul l (r.2 : Int) (out ++ r.1) 0 ((9 - q : Nat) : Int) = X at this
  cases hy : lT l (pF l q) (l.length + 1) r.1 r.2 with
  | error e =>
   rw [hy] at this
   obtain ⟨p', out', h1, h2⟩ := this
   rw [h1, Option.bind_some]
   exact ⟨some (l, p', out', e, ()), rfl, p', out', rfl, h2⟩
  | ok x =>
   rw [hy] at this
   have this : X = some (l, (x.2 : Int), out ++ x.1, 0, (), ((9 - q : Nat) : Int), ()) := this
   rw [this, Option.bind_some]
   exact ⟨some (l, (x.2 : Int), out ++ x.1, 0, ()), rfl, rfl⟩
theorem S_loop {l : List TokL} (hl : l.length ≤ 1000000) {q : Nat} (hq9 : q ≤ 9) (hT : okTq l q) (n : Nat) (Q : Nat) (hQ : 6 * q + 4 ≤ Q) (out : List Item) : ∀ (m M : Nat) (it : List Item) (p : Nat), l.length - p < m → l.length - p < M → (out ++ it).length + (l.length - p) ≤ 1000000 →
  ResT l out ((9 - q : Nat) : Int) (2000000 + 3 * q + 2) (expr_parser_row_c200.l1 n (R Q) M sAdd l p (out ++ it) 0 ((9 - q : Nat) : Int)) (lS l (xT l (pF l q)) m it p) := by
 intro m
 induction m with
 | zero => intro M it p h; omega
 | succ m ih =>
  intro M it p hm hM ho
  obtain ⟨M, rfl⟩ : ∃ M', M = M' + 1 := ⟨M - 1, by omega⟩
  rw [expr_parser_row_c200.l1, sign_any sAdd (by simp) l p hl, lS]
  have step : ∀ (c : UInt8) (K : Int), (L.kinds [c]).1 = K → isSg l p c = true →
    ResT l out ((9 - q : Nat) : Int) (2000000 + 3 * q + 2) (((R Q).expr_parser_sum_1 ((9 - q : Nat) : Int) l ((p + 1 : Nat) : Int) (out ++ it) 0).bind fun y2 => (expr_parser_put.g ((L.kinds [c]).1) 0 ([] : Str) y2.2.2.1 y2.2.2.2.1 y2.2.2.2.2.1 y2.2.2.2.2.2.1).bind fun y3 => (expr_parser_row_c200.l1 n (R Q) M) sAdd y3.1 y3.2.1 y3.2.2.1 y3.2.2.2.1 y2.2.1)
     (match xT l (pF l q) (p + 1) with | .error e => .error e | .ok r => lS l (xT l (pF l q)) m (it ++ r.1 ++ [(K, 0, [], ())]) r.2) := by
   intro c K hK hs
   have hs' := isSg_iff.1 hs
   have hlt := hs'.1
   have hg := goodX_T (goodX_pF l q) (p + 1)
   obtain ⟨rr, h0, hr⟩ := hT (p + 1) (out ++ it) Q (by omega) hQ
   rw [h0]
   cases hx : xT l (pF l q) (p + 1) with
   | error e =>
    rw [hx] at hr
    obtain ⟨p', out', h1, h2⟩ := hr
    have hne := err_ne hg hx
    rw [h1, Option.map_some, Option.bind_some]
    dsimp only
    rw [put_big _ _ _ _ _ _ _ (by omega), Option.bind_some]
    dsimp only
    obtain ⟨M, rfl⟩ : ∃ M', M = M' + 1 := ⟨M - 1, by omega⟩
    rw [l51_err n _ M l p' _ e _ hne]
    exact ⟨p', _, rfl, by simp; omega⟩
   | ok r =>
    rw [hx] at hr hg
    have hr : rr = some (l, (r.2 : Int), (out ++ it) ++ r.1, 0, ()) := hr
    have g1 := hg.lt; have g2 := hg.len; have g3 := hg.le
    rw [hr, Option.map_some, Option.bind_some]
    dsimp only
    rw [put_big _ _ _ _ _ _ _ (by simp at ho ⊢; omega), Option.bind_some]
    dsimp only
    have := ih M (it ++ r.1 ++ [(K, 0, [], ())]) r.2 (by omega) (by omega) (by simp at ho ⊢; omega)
    rw [hK, show out ++ it ++ r.1 ++ [(K, 0, [], ())] = out ++ (it ++ r.1 ++ [(K, 0, [], ())]) by simp]
    exact this
  by_cases hs : isSg l p 43 = true
  ·have hs' := isSg_iff.1 hs
   rw [if_pos ⟨hs'.1, hs'.2.1, by rw [hs'.2.2]; decide⟩, if_pos hs, Option.bind_some, hs'.2.2]
   dsimp only
   rw [if_neg (by decide)]
   exact step 43 4 rfl hs
  ·by_cases hs2 : isSg l p 45 = true
   ·have hs' := isSg_iff.1 hs2
    rw [if_pos ⟨hs'.1, hs'.2.1, by rw [hs'.2.2]; decide⟩, if_neg hs, if_pos hs2, Option.bind_some, hs'.2.2]
    dsimp only
    rw [if_neg (by decide)]
    exact step 45 5 rfl hs2
   ·rw [if_neg (fun h => by
     have h3 := h.2.2
     simp only [List.mem_cons, List.not_mem_nil, or_false] at h3
     rcases h3 with h3 | h3
     ·exact hs (isSg_iff.2 ⟨h.1, h.2.1, h3⟩)
     ·exact hs2 (isSg_iff.2 ⟨h.1, h.2.1, h3⟩)), if_neg hs, if_neg hs2, Option.bind_some]
    rfl
theorem S_of {l : List TokL} (hl : l.length ≤ 1000000) {q : Nat} (hq9 : q ≤ 9) (hT : okTq l q) : okSq l q := by
 intro p out Q ho hQ
 obtain ⟨Q, rfl⟩ : ∃ Q', Q = Q' + 2 := ⟨Q - 2, by omega⟩
 have e : (R (Q + 2)).expr_parser_sum ((9 - q : Nat) : Int) l (p : Int) out 0 = expr_parser_sum.h (R (Q + 1)) ((9 - q : Nat) : Int) l (p : Int) out 0 := rfl
 rw [e]
 unfold expr_parser_sum.h expr_parser_sum.f
 have e2 : (R (Q + 1)).expr_parser_row_c200 sAdd l (p : Int) out 0 ((9 - q : Nat) : Int) = expr_parser_row_c200.h (R Q) sAdd l (p : Int) out 0 ((9 - q : Nat) : Int) := rfl
 rw [e2]
 unfold expr_parser_row_c200.h expr_parser_row_c200.f
 obtain ⟨N, hN⟩ : ∃ N, 1000 + sAdd.length + l.length + (p : Int).toNat + out.length + (0 : Int).toNat + (((9 - q : Nat) : Int)).toNat = N := ⟨_, rfl⟩
 rw [hN]
 have hg := goodX_T (goodX_pF l q) p
 obtain ⟨rr, h0, hr⟩ := hT p out Q (by omega) (by omega)
 rw [h0]
 unfold xS
 cases hx : xT l (pF l q) p with
 | error e =>
  rw [hx] at hr
  obtain ⟨p', out', h1, h2⟩ := hr
  have hne := err_ne hg hx
  rw [h1, Option.map_some, Option.bind_some]
  dsimp only
  obtain ⟨M, rfl⟩ : ∃ M', N = M' + 1 := ⟨N - 1, by omega⟩
  rw [l51_err _ _ M l p' _ e _ hne, Option.bind_some]
  exact ⟨p', out', rfl, by omega⟩
 | ok r =>
  rw [hx] at hr hg
  have hr : rr = some (l, (r.2 : Int), out ++ r.1, 0, ()) := hr
  have g1 := hg.lt; have g2 := hg.len; have g3 := hg.le
  rw [hr, Option.map_some, Option.bind_some]
  dsimp only
  have := S_loop hl hq9 hT N Q (by omega) out (l.length + 1) N r.1 r.2 (by omega) (by omega) (by simp; omega)
  generalize expr_parser_row_c200.l1 N (R Q) N sAdd l (r.2 : Int) (out ++ r.1) 0 ((9 - q : Nat) : Int) = X at this
  cases hy : lS l (xT l (pF l q)) (l.length + 1) r.1 r.2 with
  | error e =>
   rw [hy] at this
   obtain ⟨p', out', h1, h2⟩ := this
   rw [h1, Option.bind_some]
   exact ⟨p', out', rfl, h2⟩
  | ok x =>
   rw [hy] at this
   have this : X = some (l, (x.2 : Int), out ++ x.1, 0, (), ((9 - q : Nat) : Int), ()) := this
   rw [this, Option.bind_some]
   rfl
theorem F_of {l : List TokL} (hl : l.length ≤ 1000000) {q : Nat} (hq9 : q + 1 ≤ 9) (hF : okFq l q) (hS : okSq l q) : okFq l (q + 1) := by
 intro p out Q ho hQ
 obtain ⟨Q, rfl⟩ : ∃ Q', Q = Q' + 1 := ⟨Q - 1, by omega⟩
 have e : (R (Q + 1)).expr_parser_factor ((9 - (q + 1) : Nat) : Int) l (p : Int) out 0 = expr_parser_factor.h (R Q) ((9 - (q + 1) : Nat) : Int) l (p : Int) out 0 := rfl
 rw [e]
 unfold expr_parser_factor.h expr_parser_factor.f
 have hd : IntKind.i64.wrap (((9 - (q + 1) : Nat) : Int) + 1) = ((9 - q : Nat) : Int) := by rw [w64 (by omega)]; omega
 rw [if_neg (by decide), if_neg (by simp; omega), sign_any [[45], [40]] (by simp) l p hl, hd]
 show ResF l out _ _ (xF l (xS l (pF l q)) (pF l q) p)
 unfold xF
 by_cases h1 : isSg l p 45 = true
 ·have hs' := isSg_iff.1 h1
  rw [if_pos ⟨hs'.1, hs'.2.1, by rw [hs'.2.2]; decide⟩, if_pos h1, Option.bind_some, hs'.2.2]
  dsimp only
  rw [if_pos (by decide)]
  have hlt := hs'.1
  have hg := goodX_pF l q (p + 1)
  have hr := hF (p + 1) out Q (by omega) (by omega)
  cases hx : pF l q (p + 1) with
  | error e =>
   rw [hx] at hr
   obtain ⟨p', out', h3, h2⟩ := hr
   rw [h3, Option.bind_some]
   dsimp only
   rw [put_big _ _ _ _ _ _ _ (by omega), Option.bind_some]
   exact ⟨p', _, rfl, by simp; omega⟩
  | ok r =>
   rw [hx] at hr hg
   have hr : (R Q).expr_parser_factor ((9 - q : Nat) : Int) l ((p + 1 : Nat) : Int) out 0 = some (l, (r.2 : Int), out ++ r.1, 0, ()) := hr
   have g1 := hg.lt; have g2 := hg.len; have g3 := hg.le
   rw [hr, Option.bind_some]
   dsimp only
   rw [put_big _ _ _ _ _ _ _ (by simp; omega), Option.bind_some]
   show some (l, (r.2 : Int), out ++ r.1 ++ [(3, 0, [], ())], 0, ()) = some (l, (r.2 : Int), out ++ (r.1 ++ [(3, 0, [], ())]), 0, ())
   rw [List.append_assoc]
 ·by_cases h2 : isSg l p 40 = true
  ·have hs' := isSg_iff.1 h2
   rw [if_pos ⟨hs'.1, hs'.2.1, by rw [hs'.2.2]; decide⟩, if_neg h1, if_pos h2, Option.bind_some, hs'.2.2]
   dsimp only
   rw [if_neg (by decide), if_pos (by decide)]
   have hlt := hs'.1
   have hg := goodX_S (goodX_pF l q) (p + 1)
   have hr := hS (p + 1) out Q (by omega) (by omega)
   cases hx : xS l (pF l q) (p + 1) with
   | error e =>
    rw [hx] at hr
    obtain ⟨p', out', h3, h4⟩ := hr
    have hne := err_ne hg hx
    rw [h3, Option.bind_some]
    dsimp only
    rw [sign_err _ (by simp) l p' out' e hne, Option.bind_some]
    dsimp only
    rw [if_pos (show (!false) = true from rfl), fail_err 23 l p' out' e hne, Option.bind_some]
    exact ⟨p', out', rfl, by omega⟩
   | ok r =>
    rw [hx] at hr hg
    have hr : (R Q).expr_parser_sum ((9 - q : Nat) : Int) l ((p + 1 : Nat) : Int) out 0 = some (l, (r.2 : Int), out ++ r.1, 0, ()) := hr
    have g1 := hg.lt; have g2 := hg.len; have g3 := hg.le
    rw [hr, Option.bind_some]
    dsimp only
    rw [sign_any [[41]] (by simp) l r.2 hl]
    by_cases h3 : isSg l r.2 41 = true
    ·have hs2 := isSg_iff.1 h3
     rw [if_pos ⟨hs2.1, hs2.2.1, by rw [hs2.2.2]; decide⟩, if_pos h3, Option.bind_some]
     dsimp only
     rw [if_neg (by decide)]
     rfl
    ·rw [if_neg (fun h => h3 (isSg_iff.2 ⟨h.1, h.2.1, by simpa using h.2.2⟩)), if_neg h3, Option.bind_some]
     dsimp only
     rw [if_pos (show (!false) = true from rfl), fail_eq, Option.bind_some]
     exact ⟨_, _, rfl, by simp; omega⟩
  ·rw [if_neg (fun h => by
     have h3 := h.2.2
     simp only [List.mem_cons, List.not_mem_nil, or_false] at h3
     rcases h3 with h3 | h3
     ·exact h1 (isSg_iff.2 ⟨h.1, h.2.1, h3⟩)
     ·exact h2 (isSg_iff.2 ⟨h.1, h.2.1, h3⟩)), if_neg h1, if_neg h2, Option.bind_some]
   dsimp only
   rw [if_neg (show ¬ decide (([] : Str) = [45]) = true by decide), if_neg (show ¬ decide (([] : Str) = [40]) = true by decide)]
   by_cases hp : p < l.length
   ·rw [next_at l p out hp, Option.bind_some]
    dsimp only
    generalize ht : l.getD p dTok = t
    by_cases k2 : t.1 = 2
    ·rw [if_pos (show true = true from rfl), if_pos (show decide (t.1 = 2) = true by simp [k2]), if_pos (show p < l.length ∧ t.1 = 2 from ⟨hp, k2⟩), put_big _ _ _ _ _ _ _ (by omega), Option.bind_some]
     unfold expr_parser_factor.j19
     dsimp only
     rw [w64 (by omega)]
     rfl
    ·rw [if_pos (show true = true from rfl), if_neg (show ¬ decide (t.1 = 2) = true by simp [k2]), if_pos (show true = true from rfl), if_neg (show ¬ (p < l.length ∧ t.1 = 2) from fun h => k2 h.2)]
     by_cases k1 : t.1 = 1
     ·rw [if_pos (show decide (t.1 = 1) = true by simp [k1]), label_eq, Option.bind_some]
      dsimp only
      by_cases hL : labelOk t.2.2.1 = true
      ·rw [if_pos hL, if_pos (show p < l.length ∧ t.1 = 1 ∧ labelOk t.2.2.1 = true from ⟨hp, k1, hL⟩), put_big _ _ _ _ _ _ _ (by omega), Option.bind_some]
       unfold expr_parser_factor.j19
       dsimp only
       rw [w64 (by omega)]
       rfl
      ·rw [if_neg hL, if_neg (show ¬ (p < l.length ∧ t.1 = 1 ∧ labelOk t.2.2.1 = true) from fun h => hL h.2.2), fail_eq, Option.bind_some]
       exact ⟨_, _, rfl, by dsimp only; omega⟩
     ·rw [if_neg (show ¬ decide (t.1 = 1) = true by simp [k1]), if_neg (show ¬ (p < l.length ∧ t.1 = 1 ∧ labelOk t.2.2.1 = true) from fun h => k1 h.2.1), fail_eq, Option.bind_some]
      exact ⟨_, _, rfl, by dsimp only; omega⟩
   ·rw [next_end l p out (by omega), Option.bind_some]
    dsimp only
    rw [if_neg (show ¬ false = true by decide), if_neg (show ¬ false = true by decide), if_neg (show ¬ (p < l.length ∧ (l.getD p dTok).1 = 2) from fun h => hp h.1), if_neg (show ¬ (p < l.length ∧ (l.getD p dTok).1 = 1 ∧ labelOk (l.getD p dTok).2.2.1 = true) from fun h => hp h.1), fail_eq, Option.bind_some]
    exact ⟨_, _, rfl, by dsimp only; omega⟩
theorem F_all {l : List TokL} (hl : l.length ≤ 1000000) : ∀ q, q ≤ 9 → okFq l q
 | 0, _ => fun p out Q ho hQ => by
  obtain ⟨Q, rfl⟩ : ∃ Q', Q = Q' + 1 := ⟨Q - 1, by omega⟩
  exact ⟨_, _, F_deep Q l p out, by omega⟩
 | q + 1, h => F_of hl h (F_all hl q (by omega)) (S_of hl (by omega) (T_of hl (by omega) (F_all hl q (by omega))))
theorem parseX_eq (l : List TokL) (hl : l.length ≤ 1000000) (p : Nat) : expr_Parse.g l p = some (parseX l p) := by
 unfold expr_Parse.g expr_Parse.f expr_parser_sum.g
 have hr := S_of hl (by decide) (T_of hl (by decide) (F_all hl 9 (by decide))) p [] (1000 + (0 : Int).toNat + l.length + (p : Int).toNat + ([] : List Item).length + (0 : Int).toNat) (by simp; omega) (by omega)
 have hg := goodX_S (goodX_pF l 9) p
 unfold parseX
 cases hx : xS l (pF l 9) p with
 | error e =>
  rw [hx] at hr
  obtain ⟨p', out', h3, _⟩ := hr
  have hne := err_ne hg hx
  rw [show ((9 - 9 : Nat) : Int) = 0 from rfl] at h3
  rw [h3, Option.bind_some]
  dsimp only
  rw [if_neg (by simpa using hne)]
  unfold expr_Parse.j5
  rw [if_pos (by simpa using hne)]
 | ok r =>
  rw [hx] at hr
  have hr : (R (1000 + (0 : Int).toNat + l.length + (p : Int).toNat + ([] : List Item).length + (0 : Int).toNat)).expr_parser_sum ((9 - 9 : Nat) : Int) l (p : Int) [] 0 = some (l, (r.2 : Int), [] ++ r.1, 0, ()) := hr
  rw [show ((9 - 9 : Nat) : Int) = 0 from rfl] at hr
  rw [hr, Option.bind_some]
  dsimp only
  rw [if_pos (show decide ((0 : Int) = 0) = true from rfl), List.nil_append]
  by_cases h64 : 64 < r.1.length
  ·rw [if_pos (by simp; omega), if_pos h64]
   unfold expr_Parse.j5
   rw [if_pos (by decide)]
  ·rw [if_neg (by simp; omega), if_neg h64]
   unfold expr_Parse.j5
   rw [if_neg (by decide)]
end Rv
namespace Rv
open Go
def pk (kd : Int) (l : List TokL) (p : Nat) (e : Int) : Str := if e = 0 ∧ p < l.length ∧ (l.getD p dTok).1 = kd then (l.getD p dTok).2.2.1 else []
def chk (ok : Bool) (e : Int) : Int := if ok = false ∧ e = 0 then 22 else e
theorem peek_eq (kd : Int) (l : List TokL) (p : Nat) (e : Int) : stmt_parser_peek.g kd l p e = some (pk kd l p e, l, (p : Int), e, ()) := by
 unfold stmt_parser_peek.g stmt_parser_peek.f pk
 simp only [dt, df, Int.toNat_natCast]
 by_cases h : e = 0
 ·rw [if_pos (by simp [h])]
  by_cases hp : p < l.length
  ·rw [if_pos (by omega), if_pos (by omega)]
   by_cases hk : (l.getD p dTok).1 = kd
   ·rw [if_neg (by simpa using hk), if_pos (by omega), if_pos ⟨h, hp, hk⟩]
   ·rw [if_pos (by simpa using hk), if_neg (fun g => hk g.2.2)]
  ·rw [if_neg (by omega), if_neg (fun g => hp g.2.1)]
 ·rw [if_neg (by simp [h]), if_neg (fun g => h g.1)]
theorem take_eq (kd : Int) (l : List TokL) (p : Nat) (e : Int) (hp : p ≤ 9000000) : stmt_parser_take.g kd l p e = some (pk kd l p e, l, ((p + 1 : Nat) : Int), e, ()) := by
 unfold stmt_parser_take.g stmt_parser_take.f
 rw [peek_eq, Option.bind_some]
 dsimp only
 rw [w64 (by omega)]
 rfl
theorem check_eq (ok : Bool) (l : List TokL) (p : Int) (e : Int) : stmt_parser_check.g ok l p e = some (l, p, chk ok e, ()) := by
 unfold stmt_parser_check.g stmt_parser_check.f chk
 cases ok
 ·by_cases h : e = 0
  ·rw [if_pos (show (!false) = true from rfl), if_pos (by simp [h]), if_pos ⟨rfl, h⟩]
  ·rw [if_pos (show (!false) = true from rfl), if_neg (by simp [h]), if_neg (fun g => h g.2)]
 ·rw [if_neg (by decide), if_neg (fun g => by cases g.1)]
theorem pk_len {l : List TokL} (hl : ∀ t ∈ l, t.2.2.1.length ≤ 1000000) (kd : Int) (p : Nat) (e : Int) : (pk kd l p e).length ≤ 1000000 := by
 unfold pk
 split
 ·rename_i h; exact hl _ (getD_memT h.2.1)
 ·simp
def chK (l : List TokL) (p : Nat) (e : Int) (s : Sm) : Int :=
 if s.k = 1 ∧ ((regOf (pk 1 l p e)).2 = false ∨ (s.u = true ∧ s.o = 0)) then 2 else if s.k = 7 ∧ (regOf (pk 1 l p e)).2 = true then 6 else s.k
abbrev smR (l : List TokL) (p : Nat) (e : Int) (s : Sm) : List TokL × Int × Int × Int × Int × Int × Int × Int × Bool × List Item × Str × Unit := (l, (p : Int), e, s.k, s.o, s.a, s.b, s.c, s.u, s.e, s.nm, ())
theorem choose_eq {l : List TokL} (hl : ∀ t ∈ l, t.2.2.1.length ≤ 1000000) (p : Nat) (e : Int) (s : Sm) : stmt_parser_choose.g l p e s.k s.o s.a s.b s.c s.u s.e s.nm = some (smR l p e { s with k := chK l p e s }) := by
 unfold stmt_parser_choose.g stmt_parser_choose.f chK
 rw [peek_eq, Option.bind_some]
 dsimp only
 rw [reg_eq _ (pk_len hl 1 p e), Option.bind_some]
 dsimp only
 generalize (regOf (pk 1 l p e)).2 = is
 simp only [dt]
 by_cases h1 : s.k = 1
 ·rw [if_pos h1]
  cases is
  ·rw [if_neg (by decide), if_pos ⟨h1, .inl rfl⟩]
  ·rw [if_pos (by decide)]
   by_cases hu : s.u = true
   ·rw [if_pos hu]
    by_cases ho : s.o = 0
    ·rw [if_pos ho, if_pos ⟨h1, .inr ⟨hu, ho⟩⟩]
    ·rw [if_neg ho, if_neg (by omega), if_neg (fun g => by rcases g.2 with g | g; cases g; exact ho g.2), if_neg (fun g => by omega)]
   ·rw [if_neg hu, if_neg (by omega), if_neg (fun g => by rcases g.2 with g | g; cases g; exact hu g.1), if_neg (fun g => by omega)]
 ·have hm : (if s.k = 1 ∧ (is = false ∨ (s.u = true ∧ s.o = 0)) then (2 : Int) else if s.k = 7 ∧ is = true then 6 else s.k) = if s.k = 7 ∧ is = true then 6 else s.k := if_neg (fun g => h1 g.1)
  rw [if_neg h1, hm]
  by_cases h7 : s.k = 7
  ·rw [if_pos h7]
   cases is
   ·rw [if_neg (by decide), if_neg (fun g => by cases g.2)]
   ·rw [if_pos rfl, if_pos ⟨h7, rfl⟩]
  ·have hm2 : (if s.k = 7 ∧ is = true then (6 : Int) else s.k) = s.k := if_neg (fun g => h7 g.1)
   rw [if_neg h7, hm2]
def rdE (l : List TokL) (p : Nat) (e : Int) (s : Sm) : Nat × Int × Sm := if e = 0 then ((parseX l p).2.1.toNat, (parseX l p).2.2.1, { s with e := (parseX l p).1 }) else (p, e, s)
def rd (l : List TokL) (p : Nat) (e : Int) (s : Sm) : Od → Nat × Int × Sm
 | .A => (p + 1, chk (regOf (pk 1 l p e)).2 e, { s with a := (regOf (pk 1 l p e)).1 })
 | .B => (p + 1, chk (regOf (pk 1 l p e)).2 e, { s with b := (regOf (pk 1 l p e)).1 })
 | .C => (p + 1, chk (regOf (pk 1 l p e)).2 e, { s with c := (regOf (pk 1 l p e)).1 })
 | .E => rdE l p e s
 | .Q => rdE l (p + 1) (chk (decide (pk 3 l p e = [61])) e) s
 | .N => (p + 1, chk (nameOk (pk 1 l p e)) e, { s with nm := pk 1 l p e })
abbrev smO (l : List TokL) (r : Nat × Int × Sm) := smR l r.1 r.2.1 r.2.2
theorem parseX_nn (l : List TokL) (p : Nat) : (parseX l p).2.1 = ((parseX l p).2.1.toNat : Int) ∧ (parseX l p).2.1.toNat ≤ l.length := by
 unfold parseX
 have hg := goodX_S (goodX_pF l 9) p
 cases hx : xS l (pF l 9) p with
 | error e => exact ⟨rfl, Nat.zero_le _⟩
 | ok r =>
  rw [hx] at hg
  have := hg.le
  dsimp only
  split
  ·exact ⟨rfl, Nat.zero_le _⟩
  ·exact ⟨by dsimp only; omega, by dsimp only; omega⟩
section
variable {l : List TokL} (hl0 : l.length ≤ 1000000) (hl : ∀ t ∈ l, t.2.2.1.length ≤ 1000000)
include hl0 in
theorem j2_eq (n p : Nat) (e : Int) (s : Sm) : stmt_number_1.j2 n l p e s.k s.o s.a s.b s.c s.u s.e s.nm = some (smO l (rdE l p e s)) := by
 unfold stmt_number_1.j2 rdE
 simp only [dt]
 by_cases h : e = 0
 ·rw [if_pos h, if_pos h, parseX_eq l hl0 p, Option.bind_some]
  have := (parseX_nn l p).1
  show some (l, (parseX l p).2.1, _) = some (l, ((parseX l p).2.1.toNat : Int), _)
  rw [← this]
 ·rw [if_neg h, if_neg h]
include hl in
theorem reg1_eq (p : Nat) (hp : p ≤ 9000000) (e : Int) (s : Sm) (d : Od) (f : Fn) (hd : (d = .A ∧ f = K.atA) ∨ (d = .B ∧ f = K.atB) ∨ (d = .C ∧ f = K.atC)) : stmt_register_1.g f l p e s.k s.o s.a s.b s.c s.u s.e s.nm = some (smO l (rd l p e s d)) := by
 unfold stmt_register_1.g stmt_register_1.f
 rw [take_eq 1 l p e hp, Option.bind_some]
 dsimp only
 rw [reg_eq _ (pk_len hl 1 p e), Option.bind_some]
 dsimp only
 rw [check_eq, Option.bind_some]
 dsimp only
 rcases hd with ⟨rfl, rfl⟩ | ⟨rfl, rfl⟩ | ⟨rfl, rfl⟩
 ·rw [if_pos rfl]; rfl
 ·rw [if_neg (by decide), if_pos rfl]; rfl
 ·rw [if_neg (by decide), if_neg (by decide), if_pos rfl]; rfl
include hl0 in
theorem num1_eq (p : Nat) (hp : p ≤ 9000000) (e : Int) (s : Sm) : stmt_number_1.g [] l p e s.k s.o s.a s.b s.c s.u s.e s.nm = some (smO l (rd l p e s .E)) ∧ stmt_number_1.g [61] l p e s.k s.o s.a s.b s.c s.u s.e s.nm = some (smO l (rd l p e s .Q)) := by
 constructor
 ·unfold stmt_number_1.g stmt_number_1.f
  rw [if_neg (by decide)]
  exact j2_eq hl0 _ p e s
 ·unfold stmt_number_1.g stmt_number_1.f
  rw [if_pos (by decide), take_eq 3 l p e hp, Option.bind_some]
  dsimp only
  rw [check_eq, Option.bind_some]
  exact j2_eq hl0 _ (p + 1) _ s
theorem nam1_eq (p : Nat) (hp : p ≤ 9000000) (e : Int) (s : Sm) : stmt_operands_4.g l p e s.k s.o s.a s.b s.c s.u s.e s.nm = some (smO l (rd l p e s .N)) := by
 unfold stmt_operands_4.g stmt_operands_4.f
 rw [take_eq 1 l p e hp, Option.bind_some]
 dsimp only
 rw [lename_eq, Option.bind_some]
 dsimp only
 rw [check_eq, Option.bind_some]
 rfl
def stepR (l : List TokL) (op : Int) (many i p : Nat) (e : Int) (s : Sm) : Nat × Int × Sm :=
 let p1 := if 0 < i then p + 1 else p
 let e1 := if 0 < i then chk (decide (pk 3 l p e = [44])) e else e
 let s1 := if i + 1 = many then { s with k := chK l p1 e1 s } else s
 match (odL s1.k op)[i]? with
 | some d => rd l p1 e1 s1 d
 | none => (p1, e1, s1)
def loopR (l : List TokL) (op : Int) (many : Nat) : Nat → Nat → Nat × Int × Sm → Nat × Int × Sm
 | 0, _, r => r
 | m + 1, i, r => loopR l op many m (i + 1) (stepR l op many i r.1 r.2.1 r.2.2)
abbrev PR := Str × Int × Int × Int × Int × Int × Bool × List Item × Str × Int × Unit
def outR (lb : Str) (e : Int) (s : Sm) : PR := if e ≠ 0 then ([], 0, 0, 0, 0, 0, false, [], [], e, ()) else (lb, s.k, s.o, s.a, s.b, s.c, s.u, s.e, s.nm, 0, ())
def finR (l : List TokL) (lb : Str) (r : Nat × Int × Sm) : PR := outR lb (chk (decide (l.length ≤ r.1)) r.2.1) r.2.2
theorem chK_len (p : Nat) (e : Int) (s : Sm) (op : Int) : (odL (chK l p e s) op).length = (odL s.k op).length := by
 unfold chK
 split
 ·rename_i h
  rw [h.1]
  unfold odL
  split <;> (first | contradiction | skip) <;> simp <;> split <;> rfl
 ·split
  ·rename_i h; rw [h.1]; rfl
  ·rfl
theorem rd_k (p : Nat) (e : Int) (s : Sm) (d : Od) : (rd l p e s d).2.2.k = s.k := by
 have h : ∀ p e, (rdE l p e s).2.2.k = s.k := fun p e => by unfold rdE; split <;> rfl
 cases d <;> first | rfl | exact h _ _
theorem rd_p (p : Nat) (e : Int) (s : Sm) (d : Od) : (rd l p e s d).1 ≤ max (p + 1) l.length := by
 have h : ∀ p e, (rdE l p e s).1 ≤ max p l.length := fun p e => by
  unfold rdE
  have := (parseX_nn l p).2
  split <;> dsimp only <;> omega
 cases d with
 | A => show p + 1 ≤ _; omega
 | B => show p + 1 ≤ _; omega
 | C => show p + 1 ≤ _; omega
 | N => show p + 1 ≤ _; omega
 | E => have := h p e; show (rdE l p e s).1 ≤ _; omega
 | Q => exact h (p + 1) _
theorem step_k (op : Int) (many i p : Nat) (e : Int) (s : Sm) : (odL (stepR l op many i p e s).2.2.k op).length = (odL s.k op).length := by
 unfold stepR
 dsimp only
 split
 ·rw [rd_k]; split
  ·exact chK_len _ _ s op
  ·rfl
 ·dsimp only; split
  ·exact chK_len _ _ s op
  ·rfl
theorem step_p (op : Int) (many i p : Nat) (e : Int) (s : Sm) : (stepR l op many i p e s).1 ≤ max (p + 2) l.length := by
 unfold stepR
 dsimp only
 generalize hp1 : (if 0 < i then p + 1 else p) = p1
 have h1 : p1 ≤ p + 1 := by rw [← hp1]; split <;> omega
 generalize (if 0 < i then chk (decide (pk 3 l p e = [44])) e else e) = e1
 split
 ·have := rd_p (l := l) p1 e1 (if i + 1 = many then { s with k := chK l p1 e1 s } else s) ‹Od›
  omega
 ·dsimp only; omega
include hl0 hl in
theorem j19_eq (n : Nat) (rl) (lb : Str) (op : Int) (many i : Nat) (p : Nat) (hp : p ≤ 9000000) (e : Int) (s : Sm) (d : Od) (hd : (odL s.k op)[i]? = some d) :
  stmt_Parse.j19 n rl l lb op (many : Int) (i : Int) (many : Int) (i : Int) s.k s.o s.a s.b s.c s.u s.e s.nm l p e =
   stmt_Parse.j20 n rl l lb op (many : Int) (many : Int) (i : Int) (rd l p e s d).2.2.k (rd l p e s d).2.2.o (rd l p e s d).2.2.a (rd l p e s d).2.2.b (rd l p e s d).2.2.c (rd l p e s d).2.2.u (rd l p e s d).2.2.e (rd l p e s d).2.2.nm l (rd l p e s d).1 (rd l p e s d).2.1 := by
 unfold stmt_Parse.j19
 have hi : i < (odL s.k op).length := by
  rcases Nat.lt_or_ge i (odL s.k op).length with h | h
  ·exact h
  ·rw [List.getElem?_eq_none h] at hd; cases hd
 have hg : ((odL s.k op).map odF).getD ((i : Int)).toNat (((0, []) : Fn), (((0, []) : Fn), ())) = odF d := by
  rw [Int.toNat_natCast, List.getD_eq_getElem?_getD, List.getElem?_map, hd]; rfl
 rw [opsR_eq, hg, if_pos (by rw [List.length_map]; omega)]
 cases d with
 | A =>
  show (if K.rdA = K.rdA then _ else _) = _
  rw [if_pos rfl, reg1_eq hl p hp e s .A _ (.inl ⟨rfl, rfl⟩), Option.bind_some]
 | B =>
  show (if K.rdB = K.rdA then _ else if K.rdB = K.rdB then _ else _) = _
  rw [if_neg (by decide), if_pos rfl, reg1_eq hl p hp e s .B _ (.inr (.inl ⟨rfl, rfl⟩)), Option.bind_some]
 | C =>
  show (if K.rdC = K.rdA then _ else if K.rdC = K.rdB then _ else if K.rdC = K.rdC then _ else _) = _
  rw [if_neg (by decide), if_neg (by decide), if_pos rfl, reg1_eq hl p hp e s .C _ (.inr (.inr ⟨rfl, rfl⟩)), Option.bind_some]
 | E =>
  show (if K.rdE = K.rdA then _ else if K.rdE = K.rdB then _ else if K.rdE = K.rdC then _ else if K.rdE = K.rdE then _ else _) = _
  rw [if_neg (by decide), if_neg (by decide), if_neg (by decide), if_pos rfl, (num1_eq hl0 p hp e s).1, Option.bind_some]
 | Q =>
  show (if K.rdQ = K.rdA then _ else if K.rdQ = K.rdB then _ else if K.rdQ = K.rdC then _ else if K.rdQ = K.rdE then _ else if K.rdQ = K.rdQ then _ else _) = _
  rw [if_neg (by decide), if_neg (by decide), if_neg (by decide), if_neg (by decide), if_pos rfl, (num1_eq hl0 p hp e s).2, Option.bind_some]
 | N =>
  show (if K.rdN = K.rdA then _ else if K.rdN = K.rdB then _ else if K.rdN = K.rdC then _ else if K.rdN = K.rdE then _ else if K.rdN = K.rdQ then _ else if K.rdN = K.rdN then _ else _) = _
  rw [if_neg (by decide), if_neg (by decide), if_neg (by decide), if_neg (by decide), if_neg (by decide), if_pos rfl, nam1_eq p hp e s, Option.bind_some]
include hl0 hl in
theorem parse_loop (n : Nat) (lb : Str) (op : Int) (many : Nat) (h3 : many ≤ 3) : ∀ (M m i : Nat) (p : Nat) (e : Int) (s : Sm), i + m = many → m < M → p ≤ 8000000 + 10 * i → (odL s.k op).length = many →
  stmt_Parse.l13 n M l lb op (many : Int) (many : Int) (i : Int) s.k s.o s.a s.b s.c s.u s.e s.nm l p e = some (finR l lb (loopR l op many m i (p, e, s))) := by
 intro M
 induction M with
 | zero => intro m i p e s _ h; omega
 | succ M ih =>
  intro m i p e s him hm hp hk
  rw [stmt_Parse.l13]
  simp only [dt]
  cases m with
  | zero =>
   rw [if_neg (by omega), check_eq, Option.bind_some]
   dsimp only [loopR]
   unfold stmt_Parse.j22 finR outR
   simp only [dt]
   have : decide ((l.length : Int) ≤ (p : Int)) = decide (l.length ≤ p) := by
    rw [Bool.eq_iff_iff, decide_eq_true_eq, decide_eq_true_eq]; omega
   rw [this]
   split <;> rfl
  | succ m =>
   rw [if_pos (by omega)]
   dsimp only [loopR]
   have hsk := step_k (l := l) op many i p e s
   have hsp := step_p (l := l) op many i p e s
   have nxt := fun h => ih m (i + 1) (stepR l op many i p e s).1 (stepR l op many i p e s).2.1 (stepR l op many i p e s).2.2 (by omega) (by omega) (by omega) h
   rw [hsk] at nxt
   have nxt := nxt hk
   have J : ∀ (p1 : Nat) (e1 : Int), p1 ≤ 9000000 → p1 = (if 0 < i then p + 1 else p) → e1 = (if 0 < i then chk (decide (pk 3 l p e = [44])) e else e) →
     stmt_Parse.j17 n (stmt_Parse.l13 n M) l lb op (many : Int) (i : Int) (many : Int) (i : Int) s.k s.o s.a s.b s.c s.u s.e s.nm l p1 e1 = some (finR l lb (loopR l op many m (i + 1) (stepR l op many i p e s))) := by
    intro p1 e1 hp1 hp1' he1'
    have fin : ∀ s1 : Sm, s1 = (if i + 1 = many then { s with k := chK l p1 e1 s } else s) → stmt_Parse.j19 n (stmt_Parse.l13 n M) l lb op (many : Int) (i : Int) (many : Int) (i : Int) s1.k s1.o s1.a s1.b s1.c s1.u s1.e s1.nm l p1 e1 = some (finR l lb (loopR l op many m (i + 1) (stepR l op many i p e s))) := by
     intro s1 hs1
     have hlen : (odL s1.k op).length = many := by
      rw [hs1]
      split
      ·rw [← hk]; exact chK_len _ _ s op
      ·exact hk
     obtain ⟨d, hd⟩ : ∃ d, (odL s1.k op)[i]? = some d := ⟨_, List.getElem?_eq_getElem (by omega)⟩
     have hst : stepR l op many i p e s = rd l p1 e1 s1 d := by
      unfold stepR
      dsimp only
      rw [← hp1', ← he1', ← hs1, hd]
     rw [j19_eq hl0 hl n _ lb op many i p1 hp1 e1 s1 d hd, ← hst]
     unfold stmt_Parse.j20
     rw [w64 (by omega), show (i : Int) + 1 = ((i + 1 : Nat) : Int) by omega]
     exact nxt
    unfold stmt_Parse.j17
    simp only [dt]
    have hw : IntKind.i64.wrap ((many : Int) - 1) = (many : Int) - 1 := w64 (by omega)
    rw [hw]
    by_cases hlast : i + 1 = many
    ·rw [if_pos (by omega), choose_eq hl p1 e1 s, Option.bind_some]
     exact fin { s with k := chK l p1 e1 s } (by rw [if_pos hlast])
    ·rw [if_neg (by omega)]
     exact fin s (by rw [if_neg hlast])
   by_cases h0 : 0 < i
   ·rw [if_pos (by omega), take_eq 3 l p e (by omega), Option.bind_some]
    dsimp only
    rw [check_eq, Option.bind_some]
    exact J (p + 1) _ (by omega) (by rw [if_pos h0]) (by rw [if_pos h0])
   ·rw [if_neg (by omega)]
    exact J p e (by omega) (by rw [if_neg h0]) (by rw [if_neg h0])
def headR (l : List TokL) (lb : Str) (p : Nat) (e : Int) : PR :=
 if e = 0 ∧ p < l.length then
  let t := l.getD p dTok
  let w := L.ofR t.2.2.1
  let ok := w.2.2.2.1 && (decide (t.1 = 4) == decide (w.1 = 9 ∨ w.1 = 10)) && (decide (t.1 = 4) || decide (t.1 = 1))
  finR l lb (loopR l w.2.1 (odL w.1 w.2.1).length (odL w.1 w.2.1).length 0 (p + 1, chk ok e, ⟨w.1, w.2.1, 0, 0, 0, w.2.2.1, [], []⟩))
 else outR lb e ⟨0, 0, 0, 0, 0, false, [], []⟩
def parseS (l : List TokL) : PR :=
 if 1 < l.length ∧ (l.getD 0 dTok).1 = 1 ∧ isSg l 1 58 = true then headR l (l.getD 0 dTok).2.2.1 2 (chk (labelOk (l.getD 0 dTok).2.2.1) 0) else headR l [] 0 0
include hl0 hl in
theorem head_ok (n : Nat) (hn : 10 ≤ n) (lb : Str) (p : Nat) (hp : p ≤ 2) (e : Int) : stmt_Parse.j5 n l lb 0 0 0 0 0 false [] [] l p e = some (headR l lb p e) := by
 unfold stmt_Parse.j5 headR
 simp only [dt]
 by_cases he : e = 0
 ·rw [if_pos he]
  by_cases hp' : p < l.length
  ·rw [if_pos (by omega), if_pos (by omega), if_pos ⟨he, hp'⟩, Int.toNat_natCast]
   unfold L.nameOfO
   rw [Option.bind_some]
   generalize l.getD p dTok = t
   generalize L.ofR t.2.2.1 = w
   have J9 : ∀ ok : Bool, stmt_Parse.j9 n l lb w.1 w.2.1 w.2.2.1 0 0 0 0 0 false [] [] l (p : Int) (chk ok e) = some (finR l lb (loopR l w.2.1 (odL w.1 w.2.1).length (odL w.1 w.2.1).length 0 (p + 1, chk ok e, ⟨w.1, w.2.1, 0, 0, 0, w.2.2.1, [], []⟩))) := fun ok => by
    unfold stmt_Parse.j9
    have hlen : ((L.opsR w.1 w.2.1).length : Int) = ((odL w.1 w.2.1).length : Int) := by rw [opsR_eq, List.length_map]
    rw [hlen, w64 (by omega)]
    have h3 := odL_len w.1 w.2.1
    exact parse_loop hl0 hl n lb w.2.1 (odL w.1 w.2.1).length h3 n (odL w.1 w.2.1).length 0 (p + 1) (chk ok e) ⟨w.1, w.2.1, 0, 0, 0, w.2.2.1, [], []⟩ (by omega) (by omega) (by omega) rfl
   cases hok : w.2.2.2.1 with
   | false =>
    rw [if_neg (by decide), check_eq, Option.bind_some]
    exact J9 false
   | true =>
    rw [if_pos rfl, dotted_eq, Option.bind_some]
    dsimp only
    cases hq : (decide (t.1 = 4) == decide (w.1 = 9 ∨ w.1 = 10)) with
    | false =>
     rw [if_neg (by decide), check_eq, Option.bind_some]
     exact J9 false
    | true =>
     rw [if_pos rfl]
     by_cases h4 : t.1 = 4
     ·rw [if_neg (by simp [h4]), check_eq, Option.bind_some, decide_eq_true h4]
      exact J9 true
     ·rw [if_pos (by simp [h4]), check_eq, Option.bind_some, decide_eq_false h4]
      exact J9 _
  ·rw [if_neg (by omega), if_neg (fun g => hp' g.2)]
   unfold stmt_Parse.j22 outR
   simp only [dt]
   split <;> rfl
 ·rw [if_neg he, if_neg (fun g => he g.1)]
  unfold stmt_Parse.j22 outR
  simp only [dt]
  split <;> rfl
include hl0 hl in
theorem parse_eq' : stmt_Parse.g l = some (parseS l) := by
 unfold stmt_Parse.g
 have hn : 10 ≤ 1000 + l.length := by omega
 generalize 1000 + l.length = n at hn
 unfold stmt_Parse.f parseS
 have H := head_ok hl0 hl n hn
 have H0 := H [] 0 (by decide) 0
 rw [show ((0 : Nat) : Int) = 0 from rfl] at H0
 simp only [dt]
 have t0 : ((0 : Int)).toNat = 0 := rfl
 have t1 : ((1 : Int)).toNat = 1 := rfl
 rw [t0, t1]
 by_cases h1 : 1 < l.length
 ·rw [if_pos (by omega), if_pos (by omega)]
  by_cases k0 : (l.getD 0 dTok).1 = 1
  ·rw [if_pos k0, if_pos (by omega)]
   by_cases k1 : (l.getD 1 dTok).1 = 3
   ·rw [if_pos k1, if_pos (by omega)]
    by_cases k2 : (l.getD 1 dTok).2.2.1 = [58]
    ·rw [if_pos k2, if_pos (by omega), label_eq, Option.bind_some]
     dsimp only
     rw [check_eq, Option.bind_some, if_pos ⟨h1, k0, isSg_iff.2 ⟨h1, k1, k2⟩⟩]
     exact H _ 2 (by decide) _
    ·rw [if_neg k2, if_neg (fun g => k2 (isSg_iff.1 g.2.2).2.2)]; exact H0
   ·rw [if_neg k1, if_neg (fun g => k1 (isSg_iff.1 g.2.2).2.1)]; exact H0
  ·rw [if_neg k0, if_neg (fun g => k0 g.2.1)]; exact H0
 ·rw [if_neg (by omega), if_neg (fun g => h1 g.1)]; exact H0
end
end Rv
namespace Rv
open Go
theorem regOf_rn {a : Int} (h : rg a) : regOf (rn a) = (a, true) := by
 have : ∀ k : Nat, k < 16 → regOf (regN k) = ((k : Int), true) := by decide +kernel
 have h2 := this a.toNat (by have := h.1; have := h.2; omega)
 unfold rn
 rw [h2]
 have := h.1
 rw [show ((a.toNat : Nat) : Int) = a by omega]
theorem regOf_nil : regOf [] = (0, false) := by decide +kernel
theorem regOf_label {s : Str} (h : labelOk s = true) : (regOf s).2 = false := by
 unfold regOf
 cases hf : (List.range 16).find? (fun k => regN k == s) with
 | none => rfl
 | some k =>
  obtain ⟨h1, h2⟩ := regOf_some hf
  have : ∀ k : Nat, k < 16 → labelOk (regN k) = false := by decide +kernel
  rw [← h2, this k h1] at h
  cases h
theorem pk_at {l : List TokL} {p : Nat} {kd : Int} {tx : Str} {v : Int} {k : List Bt} (h : At l p ((kd, tx, v) :: k)) : pk kd l p 0 = tx := by
 obtain ⟨h1, h2, _⟩ := At.cons h
 simp only [bare, Prod.mk.injEq] at h2
 unfold pk
 rw [if_pos ⟨rfl, h1, h2.1⟩, h2.2.1]
theorem pk_other {l : List TokL} {p : Nat} {kd : Int} {b : Bt} {k : List Bt} (h : At l p (b :: k)) (hb : b.1 ≠ kd) : pk kd l p 0 = [] := by
 obtain ⟨h1, h2, _⟩ := At.cons h
 unfold pk
 rw [if_neg (fun g => hb (by rw [← h2]; exact g.2.2))]
theorem rd_A {l : List TokL} {p : Nat} {k : List Bt} {a : Int} (ha : rg a) (h : At l p ((1, rn a, 0) :: k)) (s : Sm) : rd l p 0 s .A = (p + 1, 0, { s with a := a }) := by
 show (p + 1, chk (regOf (pk 1 l p 0)).2 0, { s with a := (regOf (pk 1 l p 0)).1 }) = _
 rw [pk_at h, regOf_rn ha]; rfl
theorem rd_B {l : List TokL} {p : Nat} {k : List Bt} {a : Int} (ha : rg a) (h : At l p ((1, rn a, 0) :: k)) (s : Sm) : rd l p 0 s .B = (p + 1, 0, { s with b := a }) := by
 show (p + 1, chk (regOf (pk 1 l p 0)).2 0, { s with b := (regOf (pk 1 l p 0)).1 }) = _
 rw [pk_at h, regOf_rn ha]; rfl
theorem rd_C {l : List TokL} {p : Nat} {k : List Bt} {a : Int} (ha : rg a) (h : At l p ((1, rn a, 0) :: k)) (s : Sm) : rd l p 0 s .C = (p + 1, 0, { s with c := a }) := by
 show (p + 1, chk (regOf (pk 1 l p 0)).2 0, { s with c := (regOf (pk 1 l p 0)).1 }) = _
 rw [pk_at h, regOf_rn ha]; rfl
theorem rd_N {l : List TokL} {p : Nat} {k : List Bt} {nm : Str} (hn : nameOk nm = true) (h : At l p ((1, nm, 0) :: k)) (s : Sm) : rd l p 0 s .N = (p + 1, 0, { s with nm := nm }) := by
 show (p + 1, chk (nameOk (pk 1 l p 0)) 0, { s with nm := pk 1 l p 0 }) = _
 rw [pk_at h, hn]; rfl
def deepR (x : Tr) (p : Nat) (s : Sm) : Nat × Int × Sm := if x.dep ≤ 8 then (p + x.toks.length, 0, { s with e := x.post }) else (0, 24, { s with e := [] })
theorem rd_E {l : List TokL} (hl : l.length ≤ 1000000) {p : Nat} {x : Tr} (hx : okT' x) {K : List Bt} (hK : noS sMul K ∧ noS sAdd K) (h : At l p (x.toks ++ K)) (s : Sm) : rd l p 0 s .E = deepR x p s := by
 obtain ⟨g1, g2⟩ := eparse_eq hx.1 l p K hl hx.2.2.2 h hK.1 hK.2
 rw [parseX_eq l hl p] at g1 g2
 show rdE l p 0 s = _
 unfold rdE deepR
 rw [if_pos rfl]
 by_cases hd : x.dep ≤ 8
 ·rw [if_pos hd, Option.some.inj (g1 hd)]
  dsimp only
  rw [Int.toNat_natCast]
 ·rw [if_neg hd, Option.some.inj (g2 hd)]; rfl
theorem rd_Q {l : List TokL} (hl : l.length ≤ 1000000) {p : Nat} {x : Tr} (hx : okT' x) {K : List Bt} (hK : noS sMul K ∧ noS sAdd K) (h : At l p ((3, [61], 0) :: (x.toks ++ K))) (s : Sm) : rd l p 0 s .Q = deepR x (p + 1) s := by
 obtain ⟨_, _, h2⟩ := At.cons h
 rw [← rd_E hl hx hK h2 s]
 show rdE l (p + 1) (chk (decide (pk 3 l p 0 = [61])) 0) s = rdE l (p + 1) 0 s
 rw [pk_at h]; rfl
theorem brk_head (b : Bool) {l : List Bt} (h : ∃ b r, l = b :: r ∧ (b.1 = 1 → labelOk b.2.1 = true) ∧ b.2.1 ≠ [58]) : ∃ x r, brk b l = x :: r ∧ (x.1 = 1 → labelOk x.2.1 = true) ∧ x.2.1 ≠ [58] := by
 unfold brk
 split
 ·exact ⟨tLp, _, rfl, fun h => (by cases h), by decide⟩
 ·exact h
theorem toks_head : ∀ t : Tr, t.ok → ∃ b r, t.toks = b :: r ∧ (b.1 = 1 → labelOk b.2.1 = true) ∧ b.2.1 ≠ [58]
 | .num n, h => by
  refine ⟨_, _, rfl, fun h => (by cases h), fun e => ?_⟩
  have e : Lib.itoa n = [58] := e
  obtain ⟨m, rfl⟩ : ∃ m : Nat, n = m := ⟨n.toNat, by have := h.1; omega⟩
  have hi : Lib.itoa (m : Int) = Lib.decDigits m := by unfold Lib.itoa; rw [if_neg (by omega)]; rfl
  have := (dec_all m).1
  rw [← hi, e] at this
  exact absurd this (by decide)
 | .nam s, h => by
  refine ⟨_, _, rfl, fun _ => h, fun e => ?_⟩
  have h : labelOk s = true := h
  have e : s = [58] := e
  rw [e] at h
  exact absurd h (by decide)
 | .neg x, _ => ⟨tNeg, _, rfl, fun h => (by cases h), by decide⟩
 | .br x, _ => ⟨tLp, _, rfl, fun h => (by cases h), by decide⟩
 | .bin o a b, h => by
  obtain ⟨x, r, h1, h2, h3⟩ := brk_head (decide (a.tight < o.tight)) (toks_head a h.1)
  exact ⟨x, _, by show brk _ _ ++ _ = _; rw [h1]; rfl, h2, h3⟩
theorem no_reg {l : List TokL} {p : Nat} {x : Tr} (hx : x.ok) {k : List Bt} (h : At l p (x.toks ++ k)) : (regOf (pk 1 l p 0)).2 = false := by
 obtain ⟨b, r, h1, h2, _⟩ := toks_head x hx
 rw [h1] at h
 by_cases hb : b.1 = 1
 ·obtain ⟨b1, b2, b3⟩ := b
  have hb : b1 = 1 := hb
  subst hb
  rw [pk_at h]
  exact regOf_label (h2 rfl)
 ·rw [pk_other h hb, regOf_nil]
theorem st_first {l : List TokL} {op : Int} {many p : Nat} {s : Sm} {d : Od} (hm : many ≠ 1) (hd : (odL s.k op)[0]? = some d) : stepR l op many 0 p 0 s = rd l p 0 s d := by
 unfold stepR
 dsimp only
 rw [if_neg (by omega), if_neg (by omega), if_neg (by omega), hd]
theorem st_mid {l : List TokL} {op : Int} {many i p : Nat} {s : Sm} {d : Od} {k : List Bt} (h0 : 0 < i) (hm : i + 1 ≠ many) (hd : (odL s.k op)[i]? = some d) (h : At l p ((3, [44], 0) :: k)) : stepR l op many i p 0 s = rd l (p + 1) 0 s d := by
 unfold stepR
 dsimp only
 rw [if_pos h0, if_pos h0, if_neg hm, hd, pk_at h]; rfl
theorem st_last {l : List TokL} {op : Int} {many i p : Nat} {s : Sm} {d : Od} {k : List Bt} {K : Int} (h0 : 0 < i) (hm : i + 1 = many) (hK : chK l (p + 1) 0 s = K) (hd : (odL K op)[i]? = some d) (h : At l p ((3, [44], 0) :: k)) : stepR l op many i p 0 s = rd l (p + 1) 0 { s with k := K } d := by
 unfold stepR
 have hc : chk (decide (pk 3 l p 0 = [44])) 0 = 0 := by rw [pk_at h]; rfl
 dsimp only
 rw [if_pos h0, if_pos h0, if_pos hm, hc, hK]
 dsimp only
 rw [hd]
theorem st_only {l : List TokL} {op : Int} {many p : Nat} {s : Sm} {d : Od} {K : Int} (hm : many = 1) (hK : chK l p 0 s = K) (hd : (odL K op)[0]? = some d) : stepR l op many 0 p 0 s = rd l p 0 { s with k := K } d := by
 subst hm
 unfold stepR
 dsimp only
 rw [if_neg (show ¬ 0 < 0 by decide), if_neg (show ¬ 0 < 0 by decide), if_pos (show 0 + 1 = 1 from rfl), hK]
 dsimp only
 rw [hd]
def endR (q : Nat) (s : Sm) (t : Option Tr) (r : Nat × Int × Sm) : Prop :=
 ((∀ x, t = some x → x.dep ≤ 8) → r = (q, 0, s)) ∧ ((∃ x, t = some x ∧ ¬ x.dep ≤ 8) → ∃ s', r = (0, 24, s'))
theorem end_none {q : Nat} {s : Sm} {p : Nat} (hp : p = q) : endR q s none (p, 0, s) := ⟨fun _ => by rw [hp], fun ⟨x, h, _⟩ => by cases h⟩
theorem end_some {q : Nat} {s s' : Sm} {x : Tr} {p : Nat} (hp : p + x.toks.length = q) (hs : { s' with e := x.post } = s) : endR q s (some x) (deepR x p s') := by
 unfold deepR
 constructor
 ·intro h
  rw [if_pos (h x rfl), hs, hp]
 ·rintro ⟨y, hy, hd⟩
  obtain rfl := Option.some.inj hy
  rw [if_neg hd]
  exact ⟨_, rfl⟩
theorem At.end {l : List TokL} {p : Nat} (h : At l p []) (hp : p ≤ l.length) : p = l.length := by
 unfold At at h
 have := congrArg List.length h
 simp at this
 omega
theorem At.tot {l : List TokL} {p : Nat} {k : List Bt} (h : At l p k) (hp : p ≤ l.length) : p + k.length = l.length := by
 unfold At at h
 have := congrArg List.length h
 simp at this
 omega
theorem chK_self {l : List TokL} {p : Nat} {e : Int} {s : Sm} (h1 : s.k ≠ 1) (h7 : s.k ≠ 7) : chK l p e s = s.k := by
 unfold chK
 rw [if_neg (fun g => h1 g.1), if_neg (fun g => h7 g.1)]
theorem loop_good {l : List TokL} (hl : l.length ≤ 1000000) {s : Sm} {t : Option Tr} (h : GoodS s t) (h0 : s.k ≠ 0) {K : List Bt} (hK : noS sMul K ∧ noS sAdd K) {p : Nat} (hp : p ≤ l.length) (hat : At l p (joinB ((odL s.k s.o).map (wtk s t)) ++ K)) :
  endR (l.length - K.length) s t (loopR l s.o (odL (hk s.k) s.o).length (odL (hk s.k) s.o).length 0 (p, 0, ⟨hk s.k, s.o, 0, 0, 0, s.u, [], []⟩)) := by
 cases h with
 | none => exact absurd rfl h0
 | ins0 h hk0 =>
  cases h with
  | reg q1 q2 ha hb hc hu =>
   rename_i o a b c u
   dsimp only at hat ⊢
   rw [odL_reg q1] at hat
   have hat : At l p ((1, rn a, 0) :: (3, [44], 0) :: (1, rn b, 0) :: (3, [44], 0) :: (1, rn c, 0) :: K) := hat
   obtain ⟨_, _, a1⟩ := At.cons hat
   obtain ⟨_, _, a2⟩ := At.cons a1
   obtain ⟨_, _, a3⟩ := At.cons a2
   obtain ⟨_, _, a4⟩ := At.cons a3
   rw [show hk 1 = 1 from rfl, odL_reg q1]
   show endR _ _ _ (loopR l o 3 3 0 (p, 0, _))
   simp only [loopR]
   rw [st_first (d := .A) (by decide) (by rw [odL_reg q1]; rfl), rd_A ha hat]
   dsimp only
   rw [st_mid (d := .B) (by decide) (by decide) (by rw [odL_reg q1]; rfl) a1, rd_B hb a2]
   dsimp only
   rw [st_last (K := 1) (d := .C) (by decide) (by decide) (by
    unfold chK
    rw [pk_at a4, regOf_rn hc, if_neg (by rintro ⟨_, h | h⟩; cases h; have := h.2; dsimp only at this; omega), if_neg (by rintro ⟨h, _⟩; exact absurd (show (1 : Int) = 7 from h) (by decide))]) (by rw [odL_reg q1]; rfl) a3, rd_C hc a4]
   exact end_none (by have := At.tot hat hp; simp at this; omega)
  | mov ha hc =>
   rename_i a c
   have hat : At l p ((1, rn a, 0) :: (3, [44], 0) :: (1, rn c, 0) :: K) := hat
   obtain ⟨_, _, a1⟩ := At.cons hat
   obtain ⟨_, _, a2⟩ := At.cons a1
   show endR _ _ _ (loopR l 0 2 2 0 (p, 0, _))
   simp only [loopR]
   rw [st_first (d := .A) (by decide) rfl, rd_A ha hat]
   dsimp only
   rw [st_last (K := 1) (d := .C) (by decide) (by decide) (by
    unfold chK
    rw [pk_at a2, regOf_rn hc, if_neg (by rintro ⟨_, h | h⟩; cases h; exact absurd (show false = true from h.1) (by decide)), if_neg (by rintro ⟨h, _⟩; exact absurd (show (1 : Int) = 7 from h) (by decide))]; rfl) rfl a1, rd_C hc a2]
   exact end_none (by have := At.tot hat hp; simp at this; omega)
  | hi ha =>
   rename_i a
   have hat : At l p ((1, rn a, 0) :: K) := hat
   show endR _ _ _ (loopR l 0 1 1 0 (p, 0, _))
   simp only [loopR]
   rw [st_only (K := 3) (d := .A) rfl (chK_self (show (3 : Int) ≠ 1 by decide) (show (3 : Int) ≠ 7 by decide)) rfl, rd_A ha hat]
   exact end_none (by have := At.tot hat hp; simp at this; omega)
  | fl ha =>
   rename_i a
   have hat : At l p ((1, rn a, 0) :: K) := hat
   show endR _ _ _ (loopR l 0 1 1 0 (p, 0, _))
   simp only [loopR]
   rw [st_only (K := 4) (d := .A) rfl (chK_self (show (4 : Int) ≠ 1 by decide) (show (4 : Int) ≠ 7 by decide)) rfl, rd_A ha hat]
   exact end_none (by have := At.tot hat hp; simp at this; omega)
  | br ho hc =>
   rename_i o c u
   have hat : At l p ((1, rn c, 0) :: K) := hat
   show endR _ _ _ (loopR l o 1 1 0 (p, 0, _))
   simp only [loopR]
   rw [st_only (K := 6) (d := .C) rfl (by
    unfold chK
    rw [pk_at hat, regOf_rn hc, if_neg (by rintro ⟨h, _⟩; exact absurd (show (7 : Int) = 1 from h) (by decide)), if_pos ⟨rfl, rfl⟩]) rfl, rd_C hc hat]
   exact end_none (by have := At.tot hat hp; simp at this; omega)
  | imm => simp at hk0
  | movi => simp at hk0
  | mem => simp at hk0
  | jmp => simp at hk0
 | @ins1 _ _ _ _ _ _ x h hk0 hx =>
  cases h with
  | imm q1 q2 ha hb hu =>
   rename_i o a b u
   dsimp only at hat ⊢
   rw [odL_imm q1] at hat
   have hat : At l p ((1, rn a, 0) :: (3, [44], 0) :: (1, rn b, 0) :: (3, [44], 0) :: (x.toks ++ K)) := by rw [← List.append_nil x.toks]; exact hat
   obtain ⟨_, _, a1⟩ := At.cons hat
   obtain ⟨_, _, a2⟩ := At.cons a1
   obtain ⟨_, _, a3⟩ := At.cons a2
   obtain ⟨_, _, a4⟩ := At.cons a3
   rw [show hk 2 = 1 from rfl, odL_reg q1]
   show endR _ _ _ (loopR l o 3 3 0 (p, 0, _))
   simp only [loopR]
   rw [st_first (d := .A) (by decide) (by rw [odL_reg q1]; rfl), rd_A ha hat]
   dsimp only
   rw [st_mid (d := .B) (by decide) (by decide) (by rw [odL_reg q1]; rfl) a1, rd_B hb a2]
   dsimp only
   rw [st_last (K := 2) (d := .E) (by decide) (by decide) (by
    unfold chK
    rw [no_reg hx.1 a4, if_pos ⟨rfl, .inl rfl⟩]) (by rw [odL_imm q1]; rfl) a3, rd_E hl hx hK a4]
   exact end_some (by have := At.tot hat hp; simp at this; omega) rfl
  | movi ha =>
   rename_i a u
   have hat : At l p ((1, rn a, 0) :: (3, [44], 0) :: (x.toks ++ K)) := by rw [← List.append_nil x.toks]; exact hat
   obtain ⟨_, _, a1⟩ := At.cons hat
   obtain ⟨_, _, a2⟩ := At.cons a1
   show endR _ _ _ (loopR l 0 2 2 0 (p, 0, _))
   simp only [loopR]
   rw [st_first (d := .A) (by decide) rfl, rd_A ha hat]
   dsimp only
   rw [st_last (K := 2) (d := .E) (by decide) (by decide) (by
    unfold chK
    rw [no_reg hx.1 a2, if_pos ⟨rfl, .inl rfl⟩]) rfl a1, rd_E hl hx hK a2]
   exact end_some (by have := At.tot hat hp; simp at this; omega) rfl
  | mem q1 q2 ha hb =>
   rename_i o a b
   have hat : At l p ((1, rn a, 0) :: (3, [44], 0) :: (1, rn b, 0) :: (3, [44], 0) :: (x.toks ++ K)) := by rw [← List.append_nil x.toks]; exact hat
   obtain ⟨_, _, a1⟩ := At.cons hat
   obtain ⟨_, _, a2⟩ := At.cons a1
   obtain ⟨_, _, a3⟩ := At.cons a2
   obtain ⟨_, _, a4⟩ := At.cons a3
   show endR _ _ _ (loopR l o 3 3 0 (p, 0, _))
   simp only [loopR]
   rw [st_first (d := .A) (by decide) rfl, rd_A ha hat]
   dsimp only
   rw [st_mid (d := .B) (by decide) (by decide) rfl a1, rd_B hb a2]
   dsimp only
   rw [st_last (K := 5) (d := .E) (by decide) (by decide) (chK_self (show (5 : Int) ≠ 1 by decide) (show (5 : Int) ≠ 7 by decide)) rfl a3, rd_E hl hx hK a4]
   exact end_some (by have := At.tot hat hp; simp at this; omega) rfl
  | jmp ho =>
   rename_i o u
   have hat : At l p (x.toks ++ K) := by rw [← List.append_nil x.toks]; exact hat
   show endR _ _ _ (loopR l o 1 1 0 (p, 0, _))
   simp only [loopR]
   rw [st_only (K := 7) (d := .E) rfl (by
    unfold chK
    rw [no_reg hx.1 hat, if_neg (by rintro ⟨h, _⟩; exact absurd (show (7 : Int) = 1 from h) (by decide)), if_neg (by rintro ⟨_, h⟩; cases h)]; rfl) rfl, rd_E hl hx hK hat]
   exact end_some (by have := At.tot hat hp; simp at this; omega) rfl
  | reg => simp at hk0
  | mov => simp at hk0
  | hi => simp at hk0
  | fl => simp at hk0
  | br => simp at hk0
 | @load a x ha hx =>
  have hat : At l p ((1, rn a, 0) :: (3, [44], 0) :: (3, [61], 0) :: (x.toks ++ K)) := by rw [← List.append_nil x.toks]; exact hat
  obtain ⟨_, _, a1⟩ := At.cons hat
  obtain ⟨_, _, a2⟩ := At.cons a1
  show endR _ _ _ (loopR l 0 2 2 0 (p, 0, _))
  simp only [loopR]
  rw [st_first (d := .A) (by decide) rfl, rd_A ha hat]
  dsimp only
  rw [st_last (K := 8) (d := .Q) (by decide) (by decide) (chK_self (show (8 : Int) ≠ 1 by decide) (show (8 : Int) ≠ 7 by decide)) rfl a1, rd_Q hl hx hK a2]
  exact end_some (by have := At.tot hat hp; simp at this; omega) rfl
 | @word x hx =>
  have hat : At l p (x.toks ++ K) := by rw [← List.append_nil x.toks]; exact hat
  show endR _ _ _ (loopR l 0 1 1 0 (p, 0, _))
  simp only [loopR]
  rw [st_only (K := 9) (d := .E) rfl (chK_self (show (9 : Int) ≠ 1 by decide) (show (9 : Int) ≠ 7 by decide)) rfl, rd_E hl hx hK hat]
  exact end_some (by have := At.tot hat hp; simp at this; omega) rfl
 | @exp nm hn =>
  have hat : At l p ((1, nm, 0) :: K) := hat
  show endR _ _ _ (loopR l 0 1 1 0 (p, 0, _))
  simp only [loopR]
  rw [st_only (K := 10) (d := .N) rfl (chK_self (show (10 : Int) ≠ 1 by decide) (show (10 : Int) ≠ 7 by decide)) rfl, rd_N hn hat]
  exact end_none (by have := At.tot hat hp; simp at this; omega)
end Rv
namespace Rv
open Go
theorem hk_dot (k : Int) : (hk k = 9 ∨ hk k = 10) ↔ (k = 9 ∨ k = 10) := by
 unfold hk
 split
 ·omega
 ·split <;> omega
def smP (lb : Str) (s : Sm) : PR := (lb, s.k, s.o, s.a, s.b, s.c, s.u, s.e, s.nm, 0, ())
def noP (e : Int) : PR := ([], 0, 0, 0, 0, 0, false, [], [], e, ())
def deepOk (t : Option Tr) : Prop := ∀ x, t = some x → x.dep ≤ 8
theorem chk_stick {b : Bool} {e : Int} (h : e ≠ 0) : chk b e = e := by unfold chk; rw [if_neg (fun g => h g.2)]
theorem rd_stick {l : List TokL} {p : Nat} {e : Int} {s : Sm} (h : e ≠ 0) (d : Od) : (rd l p e s d).2.1 = e := by
 have hE : ∀ p, (rdE l p e s).2.1 = e := fun p => by unfold rdE; rw [if_neg h]
 cases d with
 | E => exact hE p
 | Q =>
  show (rdE l (p + 1) (chk (decide (pk 3 l p e = [61])) e) s).2.1 = e
  rw [chk_stick h]; exact hE _
 | _ => exact chk_stick h
theorem step_stick {l : List TokL} {op : Int} {many i p : Nat} {e : Int} {s : Sm} (h : e ≠ 0) : (stepR l op many i p e s).2.1 = e := by
 unfold stepR
 dsimp only
 have : (if 0 < i then chk (decide (pk 3 l p e = [44])) e else e) = e := by
  split
  ·exact chk_stick h
  ·rfl
 rw [this]
 split
 ·exact rd_stick h _
 ·rfl
theorem loop_stick {l : List TokL} {op : Int} {many : Nat} {e : Int} (h : e ≠ 0) : ∀ (m i : Nat) (r : Nat × Int × Sm), r.2.1 = e → (loopR l op many m i r).2.1 = e
 | 0, _, _, hr => hr
 | m + 1, i, r, hr => loop_stick h m (i + 1) _ (by rw [hr]; exact step_stick h)
theorem fin_stick {l : List TokL} {lb : Str} {r : Nat × Int × Sm} {e : Int} (h : e ≠ 0) (hr : r.2.1 = e) : finR l lb r = noP e := by
 unfold finR outR
 rw [hr, chk_stick h, if_pos h]; rfl
abbrev noGo (K : List Bt) : Prop := noS sMul K ∧ noS sAdd K
theorem noGo_nil : noGo [] := ⟨noS_nil _, noS_nil _⟩
theorem noGo_comma : noGo [(3, [44], 0)] := by
 constructor <;> (intro b r h g; obtain ⟨rfl, _⟩ := List.cons.inj h; exact absurd g.2 (by decide))
theorem head_wrong {l : List TokL} {lb : Str} {p : Nat} (hp : p < l.length) (h : (L.ofR (l.getD p dTok).2.2.1).2.2.2.1 = false) : headR l lb p 0 = noP 22 := by
 unfold headR
 rw [if_pos ⟨rfl, hp⟩]
 dsimp only
 rw [h]
 exact fin_stick (by decide) (loop_stick (by decide) _ _ _ rfl)
theorem head_goodK {l : List TokL} (hl : l.length ≤ 1000000) {s : Sm} {t : Option Tr} (h : GoodS s t) {lb : Str} {K : List Bt} (hK : K = [] ∨ K = [(3, [44], 0)]) {p : Nat} (hp : p ≤ l.length) (hat : At l p (stk s t ++ K)) :
  (deepOk t → headR l lb p 0 = if K = [] then smP lb s else noP 22) ∧ (¬ deepOk t → headR l lb p 0 = noP 24) := by
 have hKe : noGo K := by rcases hK with rfl | rfl; exact noGo_nil; exact noGo_comma
 by_cases h0 : s.k = 0
 ·have hs : s = ⟨0, 0, 0, 0, 0, false, [], []⟩ ∧ t = none := by
   cases h with
   | none => exact ⟨rfl, rfl⟩
   | ins0 h hk => dsimp only at h0; omega
   | ins1 h hk _ => dsimp only at h0; omega
   | load _ _ => exact absurd (show (8 : Int) = 0 from h0) (by decide)
   | word _ => exact absurd (show (9 : Int) = 0 from h0) (by decide)
   | exp _ => exact absurd (show (10 : Int) = 0 from h0) (by decide)
  obtain ⟨rfl, rfl⟩ := hs
  refine ⟨fun _ => ?_, fun g => absurd (fun x hx => by cases hx) g⟩
  rcases hK with rfl | rfl
  ·have hat : At l p [] := hat
   have he := At.end hat hp
   rw [if_pos rfl]
   unfold headR
   rw [if_neg (fun g => by omega)]
   rfl
  ·have hat : At l p [(3, [44], 0)] := hat
   obtain ⟨a1, a2, _⟩ := At.cons hat
   rw [if_neg (by simp)]
   refine head_wrong a1 ?_
   simp only [bare, Prod.mk.injEq] at a2
   rw [a2.2.1]
   decide +kernel
 ·have hstk : stk s t = mtk s :: joinB ((odL s.k s.o).map (wtk s t)) := by unfold stk; rw [if_neg h0]
  rw [hstk] at hat
  obtain ⟨a1, a2, a3⟩ := At.cons hat
  have hm := good_mnem h h0
  have hof := (mnem_of hm).1
  simp only [bare, mtk, Prod.mk.injEq] at a2
  have hk10 := good_kr h
  have hloop := loop_good hl h h0 hKe (by omega) a3
  unfold headR
  rw [if_pos ⟨rfl, a1⟩]
  dsimp only
  rw [a2.2.1, hof, a2.1]
  dsimp only
  have hok : (true && (decide ((if s.k = 9 ∨ s.k = 10 then (4 : Int) else 1) = 4) == decide (hk s.k = 9 ∨ hk s.k = 10)) && (decide ((if s.k = 9 ∨ s.k = 10 then (4 : Int) else 1) = 4) || decide ((if s.k = 9 ∨ s.k = 10 then (4 : Int) else 1) = 1))) = true := by
   by_cases hd : s.k = 9 ∨ s.k = 10
   ·rw [if_pos hd, decide_eq_true ((hk_dot s.k).2 hd)]; rfl
   ·rw [if_neg hd, decide_eq_false (fun g => hd ((hk_dot s.k).1 g))]; rfl
  rw [hok, show chk true 0 = 0 from rfl]
  generalize loopR l s.o (odL (hk s.k) s.o).length (odL (hk s.k) s.o).length 0 (p + 1, 0, ⟨hk s.k, s.o, 0, 0, 0, s.u, [], []⟩) = r at hloop
  obtain ⟨e1, e2⟩ := hloop
  constructor
  ·intro hd
   rw [e1 hd]
   unfold finR
   dsimp only
   rcases hK with rfl | rfl
   ·rw [decide_eq_true (show l.length ≤ l.length - ([] : List Bt).length from Nat.le_refl _)]
    rfl
   ·rw [decide_eq_false (show ¬ l.length ≤ l.length - ([(3, [44], 0)] : List Bt).length by simp; omega), if_neg (by simp)]
    rfl
  ·intro hd
   obtain ⟨s', e⟩ := e2 (by
    apply Classical.byContradiction
    intro hc
    exact hd fun x hx => Classical.byContradiction fun hx2 => hc ⟨x, hx, hx2⟩)
   rw [e]
   exact fin_stick (by decide) rfl
theorem stk_second {s : Sm} {t : Option Tr} (h : GoodS s t) {b c : Bt} {r : List Bt} (e : stk s t = b :: c :: r) : c.2.1 ≠ [58] := by
 have hod := good_od h
 have hname : ∀ n : Str, labelOk n = true → n ≠ [58] := fun n hn e => by rw [e] at hn; exact absurd hn (by decide)
 have hreg : ∀ a, rg a → rn a ≠ [58] := fun a ha e => by
  have := rn_word ha
  rw [e] at this
  exact absurd this (by decide)
 have first : ∀ d : Od, okOd s t d → ∀ x y, wtk s t d = x :: y → x.2.1 ≠ [58] := by
  intro d hd x y he
  cases d with
  | A => obtain ⟨rfl, _⟩ := List.cons.inj he; exact hreg _ hd
  | B => obtain ⟨rfl, _⟩ := List.cons.inj he; exact hreg _ hd
  | C => obtain ⟨rfl, _⟩ := List.cons.inj he; exact hreg _ hd
  | N => obtain ⟨rfl, _⟩ := List.cons.inj he; exact hname _ (name_label hd)
  | Q => obtain ⟨rfl, _⟩ := List.cons.inj he; decide
  | E =>
   obtain ⟨z, rfl, hz, _⟩ := hd
   obtain ⟨b', r', h1, _, h3⟩ := toks_head z hz.1
   have he : z.toks = x :: y := he
   rw [h1] at he
   obtain ⟨rfl, _⟩ := List.cons.inj he
   exact h3
 have ne : ∀ d : Od, okOd s t d → wtk s t d ≠ [] := by
  intro d hd
  cases d with
  | E => obtain ⟨z, rfl, hz, _⟩ := hd; exact toks_ne z
  | _ => simp [wtk]
 unfold stk at e
 split at e
 ·cases e
 ·have e2 := (List.cons.inj e).2
  cases hl : odL s.k s.o with
  | nil => rw [hl] at e2; cases e2
  | cons d ds =>
   rw [hl] at e2 hod
   have hd := hod d (List.mem_cons_self ..)
   cases hw : wtk s t d with
   | nil => exact absurd hw (ne d hd)
   | cons x y =>
    have e3 : wtk s t d ++ ((ds.map (wtk s t)).map ((3, [44], 0) :: ·)).flatten = c :: r := e2
    rw [hw] at e3
    obtain ⟨rfl, _⟩ := List.cons.inj e3
    exact first d hd x y hw
theorem toks_len : ∀ x : Tr, x.ok → ∀ b ∈ x.toks, b.2.1.length ≤ 1000 := by
 have hb : ∀ (q : Bool) (l : List Bt), (∀ b ∈ l, b.2.1.length ≤ 1000) → ∀ b ∈ brk q l, b.2.1.length ≤ 1000 := by
  intro q l h b hm
  unfold brk at hm
  split at hm
  ·simp only [List.mem_cons, List.mem_append, List.not_mem_nil, or_false] at hm
   rcases hm with rfl | hm | rfl
   ·decide
   ·exact h b hm
   ·decide
  ·exact h b hm
 intro x
 induction x with
 | num n =>
  intro h b hm
  have hm : b ∈ [((2 : Int), Lib.itoa n, n)] := hm
  simp only [List.mem_singleton] at hm
  subst hm
  have := txt_len (.num n) h trivial
  exact Nat.le_trans this (show 20 * 1 ≤ 1000 by decide)
 | nam s =>
  intro h b hm
  have hm : b ∈ [((1 : Int), s, (0 : Int))] := hm
  simp only [List.mem_singleton] at hm
  subst hm
  have := txt_len (.nam s) h trivial
  exact Nat.le_trans this (show 20 * 1 ≤ 1000 by decide)
 | neg x ih =>
  intro h b hm
  have hm : b ∈ tNeg :: brk (decide (x.tight < 2)) x.toks := hm
  simp only [List.mem_cons] at hm
  rcases hm with rfl | hm
  ·decide
  ·exact hb _ _ (ih h) b hm
 | br x ih => intro h b hm; exact hb true _ (ih h) b hm
 | bin o a c iha ihc =>
  intro h b hm
  have hm : b ∈ brk (decide (a.tight < o.tight)) a.toks ++ tOp o :: brk (decide (c.tight < o.tight + 1)) c.toks := hm
  simp only [List.mem_append, List.mem_cons] at hm
  rcases hm with hm | rfl | hm
  ·exact hb _ _ (iha h.1) b hm
  ·show ([o.byte] : Str).length ≤ 1000; simp
  ·exact hb _ _ (ihc h.2) b hm
theorem label_len {lb : Str} (h : labelOk lb = true) : lb.length ≤ 12 := by
 unfold labelOk at h
 simp only [Bool.and_eq_true, decide_eq_true_eq] at h
 exact h.1.1.1.2
theorem stk_len {s : Sm} {t : Option Tr} (h : GoodS s t) : ∀ b ∈ stk s t, b.2.1.length ≤ 1000 := by
 have hod := good_od h
 have hr : ∀ a, (rn a).length ≤ 1000 := fun a => Nat.le_trans (regN_len _) (by decide)
 have one : ∀ d : Od, okOd s t d → ∀ b ∈ wtk s t d, b.2.1.length ≤ 1000 := by
  intro d hd b hb
  cases d with
  | A => simp only [wtk, List.mem_singleton] at hb; subst hb; exact hr _
  | B => simp only [wtk, List.mem_singleton] at hb; subst hb; exact hr _
  | C => simp only [wtk, List.mem_singleton] at hb; subst hb; exact hr _
  | N => simp only [wtk, List.mem_singleton] at hb; subst hb; exact Nat.le_trans (label_len (name_label hd)) (by decide)
  | E => obtain ⟨z, rfl, hz, _⟩ := hd; exact toks_len z hz.1 b hb
  | Q =>
   obtain ⟨z, rfl, hz, _⟩ := hd
   simp only [wtk, List.mem_cons] at hb
   rcases hb with rfl | hb
   ·decide
   ·exact toks_len z hz.1 b hb
 intro b hb
 unfold stk at hb
 split at hb
 ·cases hb
 ·simp only [List.mem_cons] at hb
  rcases hb with rfl | hb
  ·exact Nat.le_trans (mnem_len _ _ _) (by decide)
  ·cases hl : odL s.k s.o with
   | nil => rw [hl] at hb; cases hb
   | cons d ds =>
    rw [hl] at hb hod
    have hb : b ∈ wtk s t d ++ ((ds.map (wtk s t)).map ((3, [44], 0) :: ·)).flatten := hb
    simp only [List.mem_append, List.mem_flatten, List.mem_map] at hb
    rcases hb with hb | ⟨l, ⟨l', ⟨d', hd', rfl⟩, rfl⟩, hb⟩
    ·exact one d (hod d (List.mem_cons_self ..)) b hb
    ·simp only [List.mem_cons] at hb
     rcases hb with rfl | hb
     ·decide
     ·exact one d' (hod d' (List.mem_cons_of_mem _ hd')) b hb
theorem bare_len {l : List TokL} {k : List Bt} (hb : l.map bare = k) (h : ∀ b ∈ k, b.2.1.length ≤ 1000) : ∀ t ∈ l, t.2.2.1.length ≤ 1000000 := by
 intro t ht
 have := h (bare t) (by rw [← hb]; exact List.mem_map.2 ⟨t, ht, rfl⟩)
 exact Nat.le_trans this (by decide)
theorem ltk_lens {s : Sm} {t : Option Tr} (h : GoodS s t) {lb : Str} (hlb : lb = [] ∨ labelOk lb = true) : ∀ b ∈ ltk lb s t, b.2.1.length ≤ 1000 := by
 intro b hb
 unfold ltk at hb
 split at hb
 ·exact stk_len h b hb
 ·rename_i hne
  simp only [List.mem_cons] at hb
  rcases hb with rfl | rfl | hb
  ·exact Nat.le_trans (label_len (hlb.resolve_left hne)) (by decide)
  ·decide
  ·exact stk_len h b hb
theorem no_colon {l : List TokL} {s : Sm} {t : Option Tr} (h : GoodS s t) {K : List Bt} (hK : K = [] ∨ K = [(3, [44], 0)]) (hat : At l 0 (stk s t ++ K)) : ¬ (1 < l.length ∧ (l.getD 0 dTok).1 = 1 ∧ isSg l 1 58 = true) := by
 rintro ⟨h1, _, h3⟩
 obtain ⟨h1, _, h3⟩ := isSg_iff.1 h3
 have tot := At.tot hat (by omega)
 match hs : stk s t with
 | [] => rcases hK with rfl | rfl <;> (rw [hs] at tot; simp at tot; omega)
 | [b] =>
  rw [hs] at tot hat
  rcases hK with rfl | rfl
  ·simp at tot; omega
  ·obtain ⟨_, _, a1⟩ := At.cons hat
   obtain ⟨_, a2, _⟩ := At.cons a1
   have : (bare (l.getD (0 + 1) dTok)).2.1 = [44] := by rw [a2]
   rw [show (bare (l.getD (0 + 1) dTok)).2.1 = (l.getD 1 dTok).2.2.1 from rfl, h3] at this
   exact absurd this (by decide)
 | b :: c :: r =>
  rw [hs] at hat
  obtain ⟨_, _, a1⟩ := At.cons hat
  obtain ⟨_, a2, _⟩ := At.cons a1
  exact stk_second h hs (by rw [← a2]; exact h3)
theorem parse_goodK {l : List TokL} (hl : l.length ≤ 1000000) {s : Sm} {t : Option Tr} (h : GoodS s t) {lb : Str} (hlb : lb = [] ∨ labelOk lb = true) {K : List Bt} (hK : K = [] ∨ K = [(3, [44], 0)]) (hb : l.map bare = ltk lb s t ++ K) :
  (deepOk t → stmt_Parse.g l = some (if K = [] then smP lb s else noP 22)) ∧ (¬ deepOk t → stmt_Parse.g l = some (noP 24)) := by
 have hlen : ∀ t ∈ l, t.2.2.1.length ≤ 1000000 := by
  refine bare_len hb fun b hb => ?_
  rcases List.mem_append.1 hb with hb | hb
  ·exact ltk_lens h hlb b hb
  ·rcases hK with rfl | rfl
   ·cases hb
   ·rw [List.mem_singleton] at hb; subst hb; decide
 rw [parse_eq' hl hlen]
 have hat0 : At l 0 (ltk lb s t ++ K) := by unfold At; rw [List.drop_zero]; exact hb
 unfold parseS
 by_cases hne : lb = []
 ·subst hne
  have hat : At l 0 (stk s t ++ K) := hat0
  rw [if_neg (no_colon h hK hat)]
  obtain ⟨g1, g2⟩ := head_goodK hl h (lb := []) hK (Nat.zero_le _) hat
  exact ⟨fun hd => by rw [g1 hd], fun hd => by rw [g2 hd]⟩
 ·have hok := hlb.resolve_left hne
  have hat : At l 0 ((1, lb, 0) :: (3, [58], 0) :: (stk s t ++ K)) := by unfold ltk at hat0; rw [if_neg hne] at hat0; exact hat0
  obtain ⟨b0, b1, a1⟩ := At.cons hat
  obtain ⟨b2, b3, a2⟩ := At.cons a1
  simp only [bare, Prod.mk.injEq] at b1 b3
  rw [if_pos ⟨b2, b1.1, isSg_iff.2 ⟨b2, b3.1, b3.2.1⟩⟩, b1.2.1, hok, show chk true 0 = 0 from rfl]
  obtain ⟨g1, g2⟩ := head_goodK hl h (lb := lb) hK (show 0 + 1 + 1 ≤ l.length from b2) a2
  exact ⟨fun hd => by rw [← g1 hd], fun hd => by rw [← g2 hd]⟩
theorem parse_good {l : List TokL} (hl : l.length ≤ 1000000) {s : Sm} {t : Option Tr} (h : GoodS s t) {lb : Str} (hlb : lb = [] ∨ labelOk lb = true) (hb : l.map bare = ltk lb s t) :
  (deepOk t → stmt_Parse.g l = some (smP lb s)) ∧ (¬ deepOk t → stmt_Parse.g l = some (noP 24)) := by
 have := parse_goodK hl h hlb (.inl rfl) (by rw [List.append_nil]; exact hb)
 rw [if_pos rfl] at this
 exact this
theorem text_good {s : Sm} {t : Option Tr} (h : GoodS s t) {lb : Str} (hlb : lb = [] ∨ labelOk lb = true) :
  ∃ ts : List TokL, ts.map bare = ltk lb s t ∧ ts.length ≤ 5000 ∧ scan_Line.g (ltx lb s t) = some (ts, 0, ()) ∧ (deepOk t → stmt_Parse.g ts = some (smP lb s)) ∧ (¬ deepOk t → stmt_Parse.g ts = some (noP 24)) := by
 have hlen := ltx_len h hlb
 obtain ⟨ts, h1, h2⟩ := scans_line (scans_ltx h hlb) (by omega)
 have hts : ts.length ≤ 5000 := by
  have := (lineOut_len (k := 0) (s := ltx lb s t))
  rw [line_eq _ (by omega)] at h2
  have := congrArg (fun o => (Option.map (fun y : List TokL × Int × Unit => y.1.length) o).getD 0) h2
  simp at this
  omega
 obtain ⟨g1, g2⟩ := parse_good (by omega) h hlb h1
 exact ⟨ts, h1, hts, h2, g1, g2⟩
end Rv
namespace Rv
open Go
theorem same_refl (s : Sm) (he : s.e.length ≤ 1000) : rivetref17_Same.g s.k s.o s.a s.b s.c s.u s.e s.nm s.k s.o s.a s.b s.c s.u s.e s.nm = some (true, ()) := by
 unfold rivetref17_Same.g
 generalize 1000 + _ + _ + _ + _ + _ + _ + _ + _ + _ + _ + _ + _ + _ + _ = n
 unfold rivetref17_Same.f rivetref17_Instr.g rivetref17_Instr.f
 rw [Option.bind_some, Option.bind_some, sameE_refl s.e he, if_pos (by simp), Option.bind_some, if_pos rfl]
 simp
end Rv
namespace Rv
open Go
def linesR : Str → List Str
 | [] => []
 | b :: s => if b = 10 then [] :: linesR s else match linesR s with
  | [] => [[b]]
  | l :: r => (b :: l) :: r
theorem split_ne (c : UInt8) : ∀ s, L.splitR c s ≠ []
 | [] => by simp [L.splitR]
 | b :: s => by
  rw [L.splitR]
  split
  ·simp
  ·split <;> simp
def trimR (l : List Str) : List Str := if l.getD (l.length - 1) [] = [] then l.take (l.length - 1) else l
theorem trim_cons (x : Str) {l : List Str} (h : l ≠ []) : trimR (x :: l) = x :: trimR l := by
 obtain ⟨y, r, rfl⟩ := List.exists_cons_of_ne_nil h
 unfold trimR
 have e : (x :: y :: r).getD ((x :: y :: r).length - 1) [] = (y :: r).getD ((y :: r).length - 1) [] := rfl
 rw [e]
 split
 ·rfl
 ·rfl
theorem lines_split : ∀ s : Str, trimR (L.splitR 10 s) = linesR s
 | [] => rfl
 | b :: s => by
  have ih := lines_split s
  have hne := split_ne 10 s
  rw [L.splitR, linesR]
  by_cases h : b = 10
  ·rw [if_pos h, if_pos h, trim_cons _ hne, ih]
  ·rw [if_neg h, if_neg h, ← ih]
   obtain ⟨y, r, hs⟩ := List.exists_cons_of_ne_nil hne
   rw [hs]
   dsimp only
   cases r with
   | nil =>
    have h1 : trimR [b :: y] = [b :: y] := by unfold trimR; rw [if_neg (by simp)]
    rw [h1]
    unfold trimR
    cases y with
    | nil => rfl
    | cons c t => rw [if_neg (by simp)]
   | cons z r =>
    rw [trim_cons (b :: y) (l := z :: r) (by simp), trim_cons y (l := z :: r) (by simp)]
theorem lines_le : ∀ s : Str, (linesR s).length ≤ s.length ∧ ∀ l ∈ linesR s, l.length ≤ s.length
 | [] => ⟨Nat.le_refl _, fun l h => by cases h⟩
 | b :: s => by
  obtain ⟨h1, h2⟩ := lines_le s
  rw [linesR]
  split
  ·refine ⟨by simp; omega, fun l hl => ?_⟩
   rcases List.mem_cons.1 hl with rfl | hl
   ·simp
   ·have := h2 l hl; simp; omega
  ·split
   ·refine ⟨by simp, fun l hl => ?_⟩
    rw [List.mem_singleton] at hl; subst hl; simp
   ·rename_i x r hx
    rw [hx] at h1 h2
    refine ⟨by simp at h1 ⊢; omega, fun l hl => ?_⟩
    rcases List.mem_cons.1 hl with rfl | hl
    ·have := h2 x (List.mem_cons_self ..); simp; omega
    ·have := h2 l (List.mem_cons_of_mem _ hl); simp; omega
theorem lineR_text : ∀ (n : Nat) (k : Int) (s : Str) (l : List Tok), s.length ≤ n → lineR k s = .ok l → ∀ t ∈ l, t.2.2.1.length ≤ s.length
 | _, k, [], l, _, h => by rw [lineR_nil] at h; cases h; intro t ht; cases ht
 | 0, k, c :: r, l, hn, _ => by simp at hn
 | n + 1, k, c :: r, l, hn, h => by
  simp only [List.length_cons] at hn ⊢
  rw [lineR_cons] at h
  split at h
  ·cases h; intro t ht; cases ht
  ·split at h
   ·intro t ht
    have := lineR_text n (k + 1) r l (by omega) h t ht; omega
   ·split at h
    ·cases h
    ·rename_i d q tx v hT
     obtain ⟨h1, h2, _⟩ := tokAt_ok hT
     split at h
     ·cases h
     ·rename_i l' hl
      cases h
      intro t ht
      rcases List.mem_cons.1 ht with rfl | ht
      ·simp only; omega
      ·have := lineR_text n _ _ l' (by simp; omega) hl t ht
       simp at this; omega
def oneR (s : Str) : PR := let y := lineOut [] (lineR 0 s); if y.2.1 ≠ 0 then noP y.2.1 else parseS y.1
abbrev errP (p : PR) : Int := p.2.2.2.2.2.2.2.2.2.1
abbrev lnP (p : PR) : Ln := (p.1, (p.2.1, p.2.2.1, p.2.2.2.1, p.2.2.2.2.1, p.2.2.2.2.2.1, p.2.2.2.2.2.2.1, p.2.2.2.2.2.2.2.1, p.2.2.2.2.2.2.2.2.1, ()), ())
theorem toks_small {k : Int} {s : Str} (hs : s.length ≤ 1000000) : (lineOut [] (lineR k s)).1.length ≤ 1000000 := Nat.le_trans lineOut_len hs
theorem one_parse (s : Str) (hs : s.length ≤ 1000000) : stmt_Parse.g (lineOut [] (lineR 0 s)).1 = some (parseS (lineOut [] (lineR 0 s)).1) := by
 refine parse_eq' (toks_small hs) fun t ht => ?_
 have h : ∀ t ∈ (lineOut [] (lineR 0 s)).1, t.2.2.1.length ≤ s.length := by
  cases h : lineR 0 s with
  | error e => intro t ht; cases ht
  | ok l =>
   intro t ht
   have ht : t ∈ l := by simpa [lineOut] using ht
   exact lineR_text s.length 0 s l (Nat.le_refl _) h t ht
 exact Nat.le_trans (h t ht) hs
theorem one_eq (s : Str) (hs : s.length ≤ 1000000) : text_one.g s = some (oneR s) := by
 unfold text_one.g text_one.f oneR
 rw [line_eq s hs, Option.bind_some]
 generalize hy : lineOut [] (lineR 0 s) = y
 have hp := one_parse s hs
 rw [hy] at hp
 by_cases h : y.2.1 ≠ 0
 ·rw [if_pos (by simpa using h)]
  show _ = some (if _ then _ else _)
  rw [if_pos h]; rfl
 ·rw [if_neg (by simpa using h), hp, Option.bind_some]
  show _ = some (if _ then _ else _)
  rw [if_neg h]
def eachR : Nat → List Str → Except (Nat × Int) (List Ln)
 | _, [] => .ok []
 | i, s :: r => if errP (oneR s) ≠ 0 then .error (i + 1, errP (oneR s)) else match eachR (i + 1) r with
  | .error x => .error x
  | .ok l => .ok (lnP (oneR s) :: l)
def outE (out : List Ln) : Except (Nat × Int) (List Ln) → List Ln × Int × Int × Unit
 | .ok l => (out ++ l, 0, 0, ())
 | .error x => ([], (x.1 : Int), x.2, ())
theorem each_loop (l : List Str) (hl : l.length ≤ 1000000) (hs : ∀ s ∈ l, s.length ≤ 1000000) (n : Nat) : ∀ (m i : Nat) (out : List Ln), i ≤ l.length → l.length - i < m → out.length = i →
  text_each_string_api_Line.l5 n m out l (l.length : Int) (i : Int) = some (outE out (eachR i (l.drop i))) := by
 intro m
 induction m with
 | zero => intro i out _ h; omega
 | succ m ih =>
  intro i out hi hm ho
  rw [text_each_string_api_Line.l5]
  simp only [dt, Int.toNat_natCast]
  by_cases h : i < l.length
  ·have hd : l.drop i = l.getD i [] :: l.drop (i + 1) := by
    rw [List.drop_eq_getElem_cons h, List.getD_eq_getElem?_getD, List.getElem?_eq_getElem h]; rfl
   have hg : l.getD i [] ∈ l := by rw [List.getD_eq_getElem?_getD, List.getElem?_eq_getElem h]; exact List.getElem_mem h
   have W1 : IntKind.i64.wrap ((i : Int) + 1) = ((i + 1 : Nat) : Int) := by rw [w64 (by omega)]; omega
   rw [if_pos (by omega), if_pos (by omega), one_eq _ (hs _ hg), Option.bind_some, hd, eachR, W1]
   by_cases he : errP (oneR (l.getD i [])) ≠ 0
   ·rw [if_pos he, if_pos he]; rfl
   ·rw [if_neg he, if_neg he, if_pos (by simp; omega), ih (i + 1) _ (by omega) (by omega) (by simp [ho])]
    cases eachR (i + 1) (l.drop (i + 1)) with
    | error x => rfl
    | ok r => show some (_ ++ r, _) = some (_ ++ _, _); rw [List.append_assoc]; rfl
  ·obtain rfl : i = l.length := by omega
   rw [if_neg (by omega), List.drop_length, eachR]
   simp [outE]
def parseT (s : Str) : List Ln × Int × Int × Unit :=
 if 262144 < s.length then ([], 0, 2, ()) else if 4096 < (linesR s).length then ([], 0, 2, ()) else outE [] (eachR 0 (linesR s))
theorem eachs_eq (l : List Str) (hl : l.length ≤ 1000000) (hs : ∀ s ∈ l, s.length ≤ 1000000) : text_each_string_api_Line.g l = some (if 4096 < l.length then ([], 0, 2, ()) else outE [] (eachR 0 l)) := by
 unfold text_each_string_api_Line.g text_each_string_api_Line.f
 by_cases h : 4096 < l.length
 ·rw [if_pos (by simp; omega), if_pos h]
 ·rw [if_neg (by simp; omega), if_neg h]
  have := each_loop l hl hs (1000 + l.length) (1000 + l.length) 0 [] (by omega) (by omega) rfl
  rw [List.drop_zero] at this
  exact this
theorem split_len : ∀ s : Str, (L.splitR 10 s).length ≤ s.length + 1
 | [] => Nat.le_refl _
 | b :: s => by
  have := split_len s
  rw [L.splitR]
  split
  ·simp; omega
  ·split
   ·simp
   ·rename_i x r hx; rw [hx] at this; simp at this ⊢; omega
theorem parseT_eq (s : Str) (hs : s.length ≤ 1000000) : text_Parse.g s = some (parseT s) := by
 unfold text_Parse.g text_Parse.f parseT
 by_cases h : 262144 < s.length
 ·rw [if_pos (by simp; omega), if_pos h]
 ·rw [if_neg (by simp; omega), if_neg h]
  have hO : L.splitO s [10] = some (L.splitR 10 s, ()) := by unfold L.splitO; dsimp only; rw [if_pos (by omega)]
  have h1 := split_len s
  have h2 := List.length_pos_iff.2 (split_ne 10 s)
  have ht := lines_split s
  obtain ⟨g1, g2⟩ := lines_le s
  rw [hO, Option.bind_some]
  dsimp only
  generalize L.splitR 10 s = S at h1 h2 ht
  have W : IntKind.i64.wrap ((S.length : Int) - 1) = ((S.length - 1 : Nat) : Int) := by rw [w64 (by omega)]; omega
  have fin : text_Parse.j7 (1000 + s.length) (trimR S) = some (if 4096 < (linesR s).length then ([], 0, 2, ()) else outE [] (eachR 0 (linesR s))) := by
   rw [ht]
   unfold text_Parse.j7
   rw [eachs_eq _ (by omega) (fun l hl => by have := g2 l hl; omega), Option.bind_some]
  simp only [dt]
  rw [W, Int.toNat_natCast, if_pos (by omega)]
  unfold trimR at fin
  by_cases he : S.getD (S.length - 1) [] = []
  ·rw [if_pos he] at fin
   rw [if_pos he, if_pos (by omega), List.drop_zero]
   exact fin
  ·rw [if_neg he] at fin
   rw [if_neg he]
   exact fin
def shortL (x : Ln) : Prop := x.2.1.2.2.2.2.2.2.1.length ≤ 64
theorem same18_refl (a : List Ln) (ha : a.length ≤ 1000000) (h : ∀ x ∈ a, shortL x) : rivetref18_Same.g a a = some (true, ()) := by
 have loop : ∀ (n m i : Nat), i ≤ a.length → a.length - i < m → rivetref18_Same.l4 n m a a (i : Int) = some (true, ()) := by
  intro n m
  induction m with
  | zero => intro i _ h; omega
  | succ m ih =>
   intro i hi hm
   rw [rivetref18_Same.l4]
   simp only [dt, df, Int.toNat_natCast]
   by_cases hlt : i < a.length
   ·have hx : shortL (a.getD i zL) := by
     refine h _ ?_
     rw [List.getD_eq_getElem?_getD, List.getElem?_eq_getElem hlt]; exact List.getElem_mem hlt
    generalize a.getD i zL = x at hx
    have hs := same_refl ⟨x.2.1.1, x.2.1.2.1, x.2.1.2.2.1, x.2.1.2.2.2.1, x.2.1.2.2.2.2.1, x.2.1.2.2.2.2.2.1, x.2.1.2.2.2.2.2.2.1, x.2.1.2.2.2.2.2.2.2.1⟩ (by have : x.2.1.2.2.2.2.2.2.1.length ≤ 64 := hx; dsimp only; omega)
    dsimp only at hs
    rw [if_pos (by omega), if_pos (by omega), if_pos (by omega), hs, Option.bind_some, if_pos (by decide), if_pos (by omega), if_pos (by omega), if_neg (by simp), w64 (by omega)]
    exact ih (i + 1) (by omega) (by omega)
   ·rw [if_neg (by omega)]
 unfold rivetref18_Same.g rivetref18_Same.f
 rw [if_neg (by simp)]
 exact loop _ _ 0 (by omega) (by omega)
end Rv
namespace Rv
open Go
theorem shown18 : rivetlaw18_shown.g = some (true, ()) := by decide +kernel
end Rv
namespace Rv
open Go
section
variable {l l' : List TokL} (hl : l.length = l'.length) (hb : ∀ p, bare (l.getD p dTok) = bare (l'.getD p dTok))
end
theorem lines_one : ∀ (u v : Str), 10 ∉ u → linesR (u ++ 10 :: v) = u :: linesR v
 | [], v, _ => by rw [List.nil_append, linesR, if_pos rfl]
 | b :: u, v, h => by
  have h1 : b ≠ 10 := fun e => h (by rw [e]; exact List.mem_cons_self ..)
  rw [List.cons_append, linesR, if_neg h1, lines_one u v (fun g => h (List.mem_cons_of_mem _ g))]
end Rv
namespace Rv
open Go
theorem and15_rg (x : Int) : rg (bitsI .and .i64 x 15) := by
 have h1 : (BitVec.ofInt 64 x &&& BitVec.ofInt 64 15).toNat ≤ 15 := by
  rw [BitVec.toNat_and]
  exact Nat.and_le_right
 show rg (IntKind.i64.wrap (((BitVec.ofInt 64 x &&& BitVec.ofInt 64 15).toNat : Nat) : Int))
 rw [w64 (by omega)]
 exact ⟨by omega, by omega⟩
theorem and3_rg (x : Int) : 0 ≤ bitsI .and .i64 x 3 ∧ bitsI .and .i64 x 3 < 4 := by
 have h1 : (BitVec.ofInt 64 x &&& BitVec.ofInt 64 3).toNat ≤ 3 := by
  rw [BitVec.toNat_and]
  exact Nat.and_le_right
 show 0 ≤ IntKind.i64.wrap (((BitVec.ofInt 64 x &&& BitVec.ofInt 64 3).toNat : Nat) : Int) ∧ IntKind.i64.wrap (((BitVec.ofInt 64 x &&& BitVec.ofInt 64 3).toNat : Nat) : Int) < 4
 rw [w64 (by omega)]
 omega
def goodQ (K : Int) (r : Option (Int × Int × Int × Int × Int × Int × Bool × Unit)) : Prop := ∃ O A B C I U, r = some (K, O, A, B, C, I, U, ()) ∧ GoodI0 K O A B C U
theorem goodQ_mk {a b c d e f : Int} {g : Bool} (h : GoodI0 a b c d e g) : goodQ a (some (a, b, c, d, e, f, g, ())) := ⟨_, _, _, _, _, _, rfl, h⟩
theorem j10_q (n : Nat) (op a0 a1 a2 a3 a4 a5 : Int) (a6 : Bool) (b0 b1 b2 b3 b4 b5 : Int) (b6 : Bool) (k c d f : Int) (u : Bool) (hk : k = 1 ∨ k = 2) (ho : 0 ≤ op ∧ op < 12) (hu : u = true → 8 ≤ op ∧ op ≤ 10) (hc : rg c) (hd : rg d) (h0 : op = 0 → d = 0) :
  goodQ k (rivetref03_Fit.j10 n op a0 a1 a2 a3 a4 a5 a6 b0 b1 b2 b3 b4 b5 b6 k op c d 0 f u) := by
 unfold rivetref03_Fit.j10
 by_cases e1 : k = 1
 ·rw [if_pos (by simp [e1])]
  subst e1
  by_cases e2 : op = 0
  ·subst e2
   obtain rfl := h0 rfl
   have : u = false := by cases u; rfl; exact absurd (hu rfl).1 (by decide)
   subst this
   exact goodQ_mk (.mov hc (and15_rg _))
  ·exact goodQ_mk (.reg (by omega) ho.2 hc hd (and15_rg _) hu)
 ·obtain rfl : k = 2 := by omega
  rw [if_neg (by decide)]
  by_cases e2 : op = 0
  ·subst e2
   obtain rfl := h0 rfl
   have : u = false := by cases u; rfl; exact absurd (hu rfl).1 (by decide)
   subst this
   rw [if_pos (by decide)]
   unfold rivetref03_Fit.j25
   split
   ·exact goodQ_mk (.movi hc)
   ·exact goodQ_mk (.movi hc)
  ·rw [if_neg (by simp [e2])]
   exact goodQ_mk (.imm (by omega) ho.2 hc hd hu)
theorem j7_q (n : Nat) (op a0 a1 a2 a3 a4 a5 : Int) (a6 : Bool) (b0 b1 b2 b3 b4 b5 : Int) (b6 : Bool) (k c f : Int) (hk : k = 1 ∨ k = 2) (ho : 0 ≤ op ∧ op < 12) (hc : rg c) :
  goodQ k (rivetref03_Fit.j7 n op a0 a1 a2 a3 a4 a5 a6 b0 b1 b2 b3 b4 b5 b6 k op c 0 0 f false) := by
 have h9 : ∀ d, rg d → (op = 0 → d = 0) → goodQ k (rivetref03_Fit.j9 n op a0 a1 a2 a3 a4 a5 a6 b0 b1 b2 b3 b4 b5 b6 k op c d 0 f false) := by
  intro d hd h0
  unfold rivetref03_Fit.j9
  by_cases e1 : a6 = true
  ·rw [if_pos e1]
   by_cases e2 : (8 : Int) ≤ op
   ·rw [if_pos (by simpa using e2)]
    exact j10_q _ _ _ _ _ _ _ _ _ _ _ _ _ _ _ _ _ _ _ _ _ hk ho (fun h => ⟨e2, by simpa using h⟩) hc hd h0
   ·rw [if_neg (by simpa using e2)]
    exact j10_q _ _ _ _ _ _ _ _ _ _ _ _ _ _ _ _ _ _ _ _ _ hk ho (fun h => by cases h) hc hd h0
  ·rw [if_neg e1]
   exact j10_q _ _ _ _ _ _ _ _ _ _ _ _ _ _ _ _ _ _ _ _ _ hk ho (fun h => by cases h) hc hd h0
 unfold rivetref03_Fit.j7
 by_cases e : op = 0
 ·rw [if_neg (by simp [e])]; exact h9 0 ⟨by decide, by decide⟩ fun _ => rfl
 ·rw [if_pos (by simp [e])]; exact h9 _ (and15_rg _) fun h => absurd h e
theorem tmodB (x : Int) {m : Int} (hm : 0 < m) : -m < Int.tmod x m ∧ Int.tmod x m < m := ⟨Int.lt_tmod_of_pos x hm, Int.tmod_lt_of_pos x hm⟩
theorem fit03_q (i0 i1 i2 i3 i4 i5 : Int) (u : Bool) : goodQ (1 + Int.tmod (Int.tmod i0 7 + 7) 7) (rivetref03_Fit.g i0 i1 i2 i3 i4 i5 u) := by
 unfold rivetref03_Fit.g
 generalize 1000 + i0.toNat + i1.toNat + i2.toNat + i3.toNat + i4.toNat + i5.toNat = n
 unfold rivetref03_Fit.f
 have t1 := tmodB i0 (m := 7) (by decide)
 have t2 := tmodB i1 (m := 12) (by decide)
 have e1 : IntKind.i64.wrap (Int.tmod i0 7 + 7) = Int.tmod i0 7 + 7 := w64 (by omega)
 have e2 : IntKind.i64.wrap (Int.tmod i1 12 + 12) = Int.tmod i1 12 + 12 := w64 (by omega)
 rw [e1, e2]
 have t3 := tmodB (Int.tmod i0 7 + 7) (m := 7) (by decide)
 have t4 := tmodB (Int.tmod i1 12 + 12) (m := 12) (by decide)
 have t5 : 0 ≤ Int.tmod (Int.tmod i0 7 + 7) 7 := Int.tmod_nonneg _ (by omega)
 have t6 : 0 ≤ Int.tmod (Int.tmod i1 12 + 12) 12 := Int.tmod_nonneg _ (by omega)
 generalize Int.tmod (Int.tmod i0 7 + 7) 7 = q at *
 generalize Int.tmod (Int.tmod i1 12 + 12) 12 = op at *
 have e3 : IntKind.i64.wrap (1 + q) = 1 + q := w64 (by omega)
 rw [e3]
 clear e1 e2 e3 t1 t2
 generalize hk : 1 + q = k
 simp only [dt]
 have hop : 0 ≤ op ∧ op < 12 := ⟨t6, t4.2⟩
 have m3 := and3_rg i1
 by_cases k1 : k = 1
 ·rw [if_pos k1, if_pos k1]; exact j7_q _ _ _ _ _ _ _ _ _ _ _ _ _ _ _ _ _ _ _ (Or.inl k1) hop (and15_rg _)
 ·rw [if_neg k1]
  by_cases k2 : k = 2
  ·rw [if_pos k2]; exact j7_q _ _ _ _ _ _ _ _ _ _ _ _ _ _ _ _ _ _ _ (Or.inr k2) hop (and15_rg _)
  ·rw [if_neg k2]
   by_cases k5 : k = 5
   ·rw [if_pos k5, k5]; exact goodQ_mk (.mem m3.1 m3.2 (and15_rg _) (and15_rg _))
   ·rw [if_neg k5]
    by_cases k6 : k = 6
    ·rw [if_pos k6, k6]; exact goodQ_mk (.br (and15_rg _) (and15_rg _))
    ·rw [if_neg k6]
     by_cases k7 : k = 7
     ·rw [if_pos k7, k7]; exact goodQ_mk (.jmp (and15_rg _))
     ·rw [if_neg k7]
      have : k = 3 ∨ k = 4 := by omega
      rcases this with rfl | rfl
      ·exact goodQ_mk (.hi (and15_rg _))
      ·exact goodQ_mk (.fl (and15_rg _))
theorem fit07_name (s : Str) (hs : s.length ≤ 9223372036854775807) : ∃ r, rivetref07_Fit.g s = some (r, ()) ∧ nameOk r = true := by
 have key : ∃ r, rivetref07_Fit.g s = some (r, ()) ∧ (∃ c t, r = c :: t ∧ isA c = true ∧ c ≠ 82) ∧ r.all isW = true ∧ r.length ≤ 7 := by
  unfold rivetref07_Fit.g rivetref07_Fit.f
  have e1 : Int.tmod (s.length : Int) 26 = ((s.length % 26 : Nat) : Int) := by
   have : Int.tmod (s.length : Int) 26 = (s.length : Int) % 26 := Int.tmod_eq_emod_of_nonneg (by omega)
   rw [this]; omega
  have hk : s.length % 26 < 26 := Nat.mod_lt _ (by omega)
  rw [e1]
  have e2 : IntKind.u8.wrap (97 + IntKind.u8.wrap ((s.length % 26 : Nat) : Int)) = ((97 + s.length % 26 : Nat) : Int) := by
   rw [w8u (x := ((s.length % 26 : Nat) : Int)) (by omega), w8u (by omega)]; omega
  rw [e2]
  have hb : bytesOf [((97 + s.length % 26 : Nat) : Int)] = [UInt8.ofNat (97 + s.length % 26)] := rfl
  rw [hb]
  have hn : (UInt8.ofNat (97 + s.length % 26)).toNat = 97 + s.length % 26 := by rw [UInt8.toNat_ofNat', Nat.mod_eq_of_lt (by omega)]
  have hA : isA (UInt8.ofNat (97 + s.length % 26)) = true := by unfold isA; rw [hn]; simp; omega
  have hne : UInt8.ofNat (97 + s.length % 26) ≠ 82 := fun e => by have := congrArg UInt8.toNat e; rw [hn] at this; simp at this; omega
  exact fit07_loop (Q := fun c => isA c = true ∧ c ≠ 82) s hs (1000 + s.length) (1000 + s.length) 0 _ (by omega) (by omega) (by omega) rfl ⟨_, _, rfl, hA, hne⟩ (by rw [List.all_cons, isW, isA_L, hA]; rfl)
 obtain ⟨r, hr, ⟨c, t, rfl, hA, hne⟩, ha, hl⟩ := key
 refine ⟨_, hr, ?_⟩
 unfold nameOk regLike
 have h1 : (c :: t : Str).getD 0 0 = c := rfl
 have h2 : decide ((c :: t : Str).length ≤ 12) = true := by rw [decide_eq_true_eq]; omega
 rw [h1, h2, hA, ha, decide_eq_false hne]
 rfl
def smF (s : Sm) : Int × Int × Int × Int × Int × Bool × List Item × Str × Unit := (s.k, s.o, s.a, s.b, s.c, s.u, s.e, s.nm, ())
abbrev wfSm (s : Sm) : Prop := s.e.length ≤ 9223372036854775807 ∧ wfItems s.e ∧ s.nm.length ≤ 9223372036854775807
theorem fit17 (s : Sm) (hw : wfSm s) : ∃ x t, rivetref17_Fit.g s.k s.o s.a s.b s.c s.u s.e s.nm = some (smF x) ∧ GoodS x t := by
 unfold rivetref17_Fit.g
 generalize 1000 + s.k.toNat + s.o.toNat + s.a.toNat + s.b.toNat + s.c.toNat + s.e.length + s.nm.length = n
 unfold rivetref17_Fit.f
 obtain ⟨t, hf, ho, hp, hwl, hlen⟩ := fit_tree s.e hw.1 hw.2.1
 have hT : okT' t := ⟨ho, hp, hwl, by omega⟩
 rw [hf, Option.bind_some]
 have t1 := tmodB s.k (m := 11) (by decide)
 have e1 : IntKind.i64.wrap (Int.tmod s.k 11 + 11) = Int.tmod s.k 11 + 11 := w64 (by omega)
 rw [e1]
 have t3 := tmodB (Int.tmod s.k 11 + 11) (m := 11) (by decide)
 have t5 : 0 ≤ Int.tmod (Int.tmod s.k 11 + 11) 11 := Int.tmod_nonneg _ (by omega)
 generalize Int.tmod (Int.tmod s.k 11 + 11) 11 = k at *
 simp only [dt, df]
 have J9 : (k = 0 ∨ 8 ≤ k) → ∃ x t', rivetref17_Fit.j9 n k t.post s.k s.o s.a s.b s.c s.u s.e s.nm 0 0 0 0 0 false [] [] = some (smF x) ∧ GoodS x t' := by
  intro hk
  unfold rivetref17_Fit.j9
  simp only [dt]
  by_cases h8 : k = 8
  ·rw [if_pos h8, h8]; exact ⟨_, _, rfl, .load (and15_rg s.a) hT⟩
  ·rw [if_neg h8]
   by_cases h9 : k = 9
   ·rw [if_pos h9, h9]; exact ⟨_, _, rfl, .word hT⟩
   ·rw [if_neg h9]
    by_cases h10 : k = 10
    ·have hmn : 0 ≤ mn (s.nm.length : Int) 6 ∧ mn (s.nm.length : Int) 6 ≤ s.nm.length := by unfold mn; split <;> omega
     obtain ⟨r, hr, hn⟩ := fit07_name ((s.nm.take ((mn (s.nm.length : Int) 6)).toNat).drop 0) (by simp; omega)
     rw [if_pos h10, if_pos hmn, hr, Option.bind_some, h10]
     exact ⟨_, _, rfl, .exp hn⟩
    ·rw [if_neg h10]; exact ⟨_, _, rfl, .none⟩
 by_cases h1 : 1 ≤ k
 ·rw [if_pos h1]
  by_cases h7 : k ≤ 7
  ·rw [if_pos h7, w64 (x := k - 1) (by omega)]
   have hq := fit03_q (k - 1) s.o s.a s.b s.c 0 s.u
   have hkk : 1 + Int.tmod (Int.tmod (k - 1) 7 + 7) 7 = k := by
    have a1 : Int.tmod (k - 1) 7 = k - 1 := by rw [Int.tmod_eq_emod_of_nonneg (by omega)]; omega
    rw [a1, Int.tmod_eq_emod_of_nonneg (by omega)]; omega
   rw [hkk] at hq
   obtain ⟨O, A, B, C, I, U, hr, hg⟩ := hq
   rw [hr, Option.bind_some]
   unfold rivetref17_Fit.j8
   by_cases h2 : k = 2
   ·rw [if_neg (by simp [h2])]; exact ⟨_, _, rfl, .ins1 hg (by omega) hT⟩
   ·rw [if_pos h2]
    by_cases h5 : k = 5
    ·rw [if_neg (by simp [h5])]; exact ⟨_, _, rfl, .ins1 hg (by omega) hT⟩
    ·rw [if_pos h5]
     by_cases h77 : k = 7
     ·rw [if_pos h77]; exact ⟨_, _, rfl, .ins1 hg (by omega) hT⟩
     ·rw [if_neg h77]; exact ⟨_, _, rfl, .ins0 hg (by omega)⟩
  ·rw [if_neg h7]; exact J9 (by omega)
 ·rw [if_neg h1]; exact J9 (by omega)
theorem good_elen {s : Sm} {t : Option Tr} (h : GoodS s t) : s.e.length ≤ 64 ∧ s.e = postO t ∧ (∀ x, t = some x → okT' x) := by
 cases h with
 | none => exact ⟨by simp, rfl, fun x h => by cases h⟩
 | ins0 _ _ => exact ⟨by simp, rfl, fun x h => by cases h⟩
 | ins1 _ _ ht => exact ⟨ht.2.2.2, rfl, fun x h => by obtain rfl := Option.some.inj h; exact ht⟩
 | load _ ht => exact ⟨ht.2.2.2, rfl, fun x h => by obtain rfl := Option.some.inj h; exact ht⟩
 | word ht => exact ⟨ht.2.2.2, rfl, fun x h => by obtain rfl := Option.some.inj h; exact ht⟩
 | exp _ => exact ⟨by simp, rfl, fun x h => by cases h⟩
end Rv
namespace Rv
open Go
set_option maxRecDepth 100000
end Rv
namespace Rv
open Go
abbrev wfE (l : List Item) : Prop := l.length ≤ maxLen ∧ ∀ x ∈ l, (Lit.int .i64 x.1).wf = true ∧ (Lit.int .u32 x.2.1).wf = true ∧ x.2.2.1.length ≤ maxLen ∧ True
theorem wfE_items {l : List Item} (h : wfE l) : l.length ≤ 9223372036854775807 ∧ wfItems l :=
 ⟨wfLen h.1, fun x hx => ⟨(wfU32 (h.2 x hx).2.1).1, (wfU32 (h.2 x hx).2.1).2, wfLen (h.2 x hx).2.2.1⟩⟩
theorem wfSm_of {k o a b c : Int} {u : Bool} {e : List Item} {nm : Str} (he : wfE e) (hn : nm.length ≤ maxLen) : wfSm ⟨k, o, a, b, c, u, e, nm⟩ := ⟨(wfE_items he).1, (wfE_items he).2, wfLen hn⟩
theorem deep_ex {t : Option Tr} (h : ¬ deepOk t) : ∃ x, t = some x ∧ ¬ x.dep ≤ 8 :=
 Classical.byContradiction fun hc => h fun x hx => Classical.byContradiction fun hx2 => hc ⟨x, hx, hx2⟩
theorem label_take (s : Str) (hs : s.length ≤ 9223372036854775807) : 0 ≤ mn (s.length : Int) 20 ∧ mn (s.length : Int) 20 ≤ (s.length : Int) ∧ ∃ r, rivetref13_Fit.g ((s.take ((mn (s.length : Int) 20)).toNat).drop 0) = some (r, ()) ∧ labelOk r = true := by
 have hmn : 0 ≤ mn (s.length : Int) 20 ∧ mn (s.length : Int) 20 ≤ s.length := by unfold mn; split <;> omega
 obtain ⟨r, hr, hn, _⟩ := fit13_label ((s.take ((mn (s.length : Int) 20)).toNat).drop 0) (by simp; omega)
 exact ⟨hmn.1, hmn.2, r, hr, hn⟩
end Rv
namespace Rv
open Go
theorem dep_post : ∀ x : Tr, x.plain → x.dep + 1 ≤ x.post.length ∧ (x.tight < 2 → x.dep + 2 ≤ x.post.length)
 | .num n, _ => ⟨by simp [Tr.dep, Tr.post], fun h => absurd h (by simp [Tr.tight])⟩
 | .nam s, _ => ⟨by simp [Tr.dep, Tr.post], fun h => absurd h (by simp [Tr.tight])⟩
 | .neg x, h => by
  obtain ⟨h1, h2⟩ := dep_post x h
  refine ⟨?_, fun h => absurd h (by simp [Tr.tight])⟩
  show 1 + (x.dep + if x.tight < 2 then 1 else 0) + 1 ≤ (x.post ++ [(3, 0, [], ())]).length
  rw [List.length_append, List.length_singleton]
  split
  ·rename_i ht; have := h2 ht; omega
  ·omega
 | .br x, h => h.elim
 | .bin o a b, h => by
  obtain ⟨h1, _⟩ := dep_post a h.1
  obtain ⟨h2, _⟩ := dep_post b h.2
  have pa := a.post_pos
  have pb := b.post_pos
  have e1 : (Tr.bin o a b).dep = max (a.dep + if a.tight < o.tight then 1 else 0) (b.dep + if b.tight < o.tight + 1 then 1 else 0) := rfl
  have e2 : (Tr.bin o a b).post.length = a.post.length + b.post.length + 1 := by simp [Tr.post]; omega
  have i1 : (if a.tight < o.tight then 1 else 0) ≤ 1 := by split <;> omega
  have i2 : (if b.tight < o.tight + 1 then 1 else 0) ≤ 1 := by split <;> omega
  rw [e1, e2]
  constructor
  ·omega
  ·intro _; omega
def noNl (s : Str) : Prop := 10 ∉ s
theorem noNl_app {a b : Str} (ha : noNl a) (hb : noNl b) : noNl (a ++ b) := fun h => (List.mem_append.1 h).elim ha hb
theorem noNl_all {s : Str} {p : UInt8 → Bool} (h : s.all p = true) (hp : p 10 = false) : noNl s := fun g => by
 have := List.all_eq_true.1 h 10 g
 rw [hp] at this; cases this
theorem noNl_wordy {s : Str} (h : wordy s = true) : noNl s := by
 unfold wordy at h
 rw [Bool.and_eq_true] at h
 exact noNl_all h.1 (by decide)
theorem noNl_label {s : Str} (h : labelOk s = true) : noNl s := by
 unfold labelOk at h
 simp only [Bool.and_eq_true] at h
 exact noNl_all h.1.2 (by decide)
theorem noNl_cons {c : UInt8} {s : Str} (hc : c ≠ 10) (hs : noNl s) : noNl (c :: s) := fun h => (List.mem_cons.1 h).elim (fun e => hc e.symm) hs
theorem noNl_nil : noNl [] := fun h => by cases h
theorem noNl_brk {b : Bool} {s : Str} (h : noNl s) : noNl (brkT b s) := by
 unfold brkT
 split
 ·exact noNl_cons (by decide) (noNl_app h (noNl_cons (by decide) noNl_nil))
 ·exact h
theorem noNl_itoa {n : Int} (h : 0 ≤ n) : noNl (Lib.itoa n) := by
 obtain ⟨m, rfl⟩ : ∃ m : Nat, n = m := ⟨n.toNat, by omega⟩
 have hi : Lib.itoa (m : Int) = Lib.decDigits m := by unfold Lib.itoa; rw [if_neg (by omega)]; rfl
 rw [hi]
 exact noNl_all (dec_all m).1 (by decide)
theorem noNl_txt : ∀ x : Tr, x.ok → noNl x.txt
 | .num n, h => noNl_itoa h.1
 | .nam s, h => noNl_label h
 | .neg x, h => noNl_cons (by decide) (noNl_brk (noNl_txt x h))
 | .bin o a b, h => noNl_app (noNl_brk (noNl_txt a h.1)) (noNl_app (noNl_cons (by decide) (noNl_cons (by cases o <;> decide) (noNl_cons (by decide) noNl_nil))) (noNl_brk (noNl_txt b h.2)))
 | .br x, h => noNl_cons (by decide) (noNl_app (noNl_txt x h) (noNl_cons (by decide) noNl_nil))
theorem noNl_od {s : Sm} {t : Option Tr} {d : Od} (h : okOd s t d) : noNl (wtx s t d) := by
 cases d with
 | A => exact noNl_wordy (rn_word h)
 | B => exact noNl_wordy (rn_word h)
 | C => exact noNl_wordy (rn_word h)
 | N => exact noNl_label (name_label h)
 | E => obtain ⟨x, rfl, hx, _⟩ := h; exact noNl_txt x hx.1
 | Q => obtain ⟨x, rfl, hx, _⟩ := h; exact noNl_cons (by decide) (noNl_cons (by decide) (noNl_txt x hx.1))
theorem noNl_join : ∀ (l : List Str), (∀ x ∈ l, noNl x) → noNl (L.sjoinR [44, 32] l)
 | [], _ => noNl_nil
 | x :: r, h => by
  refine noNl_app (h x (List.mem_cons_self ..)) fun g => ?_
  obtain ⟨y, hy, hg⟩ := List.mem_flatten.1 g
  obtain ⟨z, hz, rfl⟩ := List.mem_map.1 hy
  exact noNl_app (a := [44, 32]) (noNl_cons (by decide) (noNl_cons (by decide) noNl_nil)) (h z (List.mem_cons_of_mem _ hz)) hg
theorem noNl_stx {s : Sm} {t : Option Tr} (h : GoodS s t) : noNl (stx s t) := by
 unfold stx
 split
 ·exact noNl_nil
 ·rename_i h0
  have hm := noNl_wordy (mnem_word (good_mnem h h0))
  refine noNl_app ?_ (noNl_cons (by decide) (noNl_join _ fun x hx => ?_))
  ·unfold mtx
   split
   ·exact noNl_cons (by decide) hm
   ·exact hm
  ·obtain ⟨d, hd, rfl⟩ := List.mem_map.1 hx
   exact noNl_od (good_od h d hd)
theorem noNl_ltx {s : Sm} {t : Option Tr} (h : GoodS s t) {lb : Str} (hlb : lb = [] ∨ labelOk lb = true) : noNl (ltx lb s t) := by
 unfold ltx
 split
 ·exact noNl_stx h
 ·rename_i hne
  refine noNl_app (noNl_label (hlb.resolve_left hne)) (noNl_cons (by decide) ?_)
  split
  ·exact noNl_nil
  ·exact noNl_cons (by decide) (noNl_stx h)
structure GLn where
 lb : Str
 s : Sm
 t : Option Tr
 hl : lb = [] ∨ labelOk lb = true
 hg : GoodS s t
abbrev lnS (lb : Str) (s : Sm) : Ln := (lb, (s.k, s.o, s.a, s.b, s.c, s.u, s.e, s.nm, ()), ())
abbrev GLn.ln (x : GLn) : Ln := lnS x.lb x.s
abbrev GLn.tx (x : GLn) : Str := ltx x.lb x.s x.t
theorem one_good (x : GLn) : (deepOk x.t → oneR x.tx = smP x.lb x.s) ∧ (¬ deepOk x.t → oneR x.tx = noP 24) := by
 obtain ⟨ts, hb, hn, hs, g1, g2⟩ := text_good x.hg x.hl
 have hlen := ltx_len x.hg x.hl
 have h1 := line_eq (ltx x.lb x.s x.t) (by omega)
 rw [hs] at h1
 have h1 := (Option.some.inj h1).symm
 have h2 := one_parse (ltx x.lb x.s x.t) (by omega)
 have e : oneR x.tx = parseS ts := by
  unfold oneR
  show (if (lineOut [] (lineR 0 (ltx x.lb x.s x.t))).2.1 ≠ 0 then _ else _) = _
  rw [h1]
  rfl
 rw [h1] at h2
 exact ⟨fun h => by have := g1 h; rw [h2] at this; rw [e, Option.some.inj this], fun h => by have := g2 h; rw [h2] at this; rw [e, Option.some.inj this]⟩
def txL (l : List GLn) : Str := (l.map fun x => x.tx ++ [10]).flatten
theorem lines_txL : ∀ (l : List GLn), linesR (txL l) = l.map GLn.tx
 | [] => rfl
 | x :: l => by
  have e : txL (x :: l) = x.tx ++ 10 :: txL l := by show (x.tx ++ [10]) ++ txL l = _; simp
  rw [e, lines_one _ _ (noNl_ltx x.hg x.hl), lines_txL l]; rfl
theorem each_good : ∀ (l : List GLn) (i : Nat), eachR i (l.map GLn.tx) = .ok (l.map GLn.ln) ∨ ∃ k, ∃ h : k < l.length, eachR i (l.map GLn.tx) = .error (i + k + 1, 24) ∧ ¬ deepOk l[k].t
 | [], _ => .inl rfl
 | x :: l, i => by
  obtain ⟨g1, g2⟩ := one_good x
  rw [List.map_cons, eachR]
  by_cases hd : deepOk x.t
  ·rw [g1 hd, if_neg (show ¬ errP (smP x.lb x.s) ≠ 0 from fun h => h rfl)]
   rcases each_good l (i + 1) with h | ⟨k, hk, h, h2⟩
   ·rw [h]; exact .inl rfl
   ·rw [h]
    exact .inr ⟨k + 1, by simp; omega, by rw [show i + 1 + k + 1 = i + (k + 1) + 1 by omega], by simpa using h2⟩
  ·rw [g2 hd, if_pos (show errP (noP 24) ≠ 0 by decide)]
   exact .inr ⟨0, by simp, rfl, hd⟩
theorem txL_len : ∀ (l : List GLn), (txL l).length ≤ 5001 * l.length
 | [] => Nat.le_refl _
 | x :: l => by
  have h1 := ltx_len x.hg x.hl
  have h2 := txL_len l
  have e : txL (x :: l) = (x.tx ++ [10]) ++ txL l := rfl
  rw [e, List.length_append, List.length_append, List.length_singleton, List.length_cons]
  have : x.tx.length ≤ 5000 := h1
  omega
theorem sjoin_nl : ∀ (l : List Str), L.sjoinR [10] (l ++ [[]]) = (l.map (· ++ [10])).flatten
 | [] => rfl
 | x :: l => by
  have ih : ∀ m : List Str, ((m ++ [[]]).map (([10] : Str) ++ ·)).flatten = [10] ++ (m.map (· ++ [10])).flatten := by
   intro m
   induction m with
   | nil => rfl
   | cons y m ih => rw [List.cons_append, List.map_cons, List.flatten_cons, ih, List.map_cons, List.flatten_cons]; simp
  show x ++ ((l ++ [[]]).map (([10] : Str) ++ ·)).flatten = (x ++ [10]) ++ (l.map (· ++ [10])).flatten
  rw [ih]; simp
theorem prints_loop (l : List GLn) (hl : l.length ≤ 4096) (n : Nat) : ∀ (m i : Nat) (out : List Str), i ≤ l.length → l.length - i < m → out.length = i →
  text_each_api_Line_string.l5 n m out (l.map GLn.ln) ((l.map GLn.ln).length : Int) (i : Int) = some (out ++ (l.drop i).map GLn.tx, 0, 0, ()) := by
 intro m
 induction m with
 | zero => intro i out _ h; omega
 | succ m ih =>
  intro i out hi hm ho
  rw [text_each_api_Line_string.l5]
  simp only [dt, Int.toNat_natCast, List.length_map]
  by_cases h : i < l.length
  ·have hd : l.drop i = l[i] :: l.drop (i + 1) := List.drop_eq_getElem_cons h
   have hg : (l.map GLn.ln).getD i zL = (l[i]).ln := by
    rw [List.getD_eq_getElem?_getD, List.getElem?_map, List.getElem?_eq_getElem h]; rfl
   have W1 : IntKind.i64.wrap ((i : Int) + 1) = ((i + 1 : Nat) : Int) := by rw [w64 (by omega)]; omega
   rw [if_pos (by omega), if_pos (by omega), hg, hd]
   generalize l[i] = x
   have hp : stmt_Print.g x.lb x.s.k x.s.o x.s.a x.s.b x.s.c x.s.u x.s.e x.s.nm = some (x.tx, 0, ()) := print_good x.hg x.hl
   have hp1 : text_Print_1.g x.lb x.s.k x.s.o x.s.a x.s.b x.s.c x.s.u x.s.e x.s.nm = some (x.tx, 0, ()) := by
    unfold text_Print_1.g text_Print_1.f
    rw [hp, Option.bind_some]
   rw [hp1, Option.bind_some]
   dsimp only
   rw [if_neg (show ¬ (0 : Int) ≠ 0 by decide), if_pos (by simp; omega), W1]
   have := ih (i + 1) (out ++ [x.tx]) (by omega) (by omega) (by simp [ho])
   rw [List.length_map] at this
   rw [this, List.map_cons, List.append_assoc]
   rfl
  ·rw [if_neg (by omega), List.drop_eq_nil_of_le (by omega)]
   simp
theorem textprint_good (l : List GLn) (hl : l.length ≤ 4096) : text_Print.g (l.map GLn.ln) = some (txL l, 0, 0, ()) := by
 unfold text_Print.g text_Print.f text_each_api_Line_string.g text_each_api_Line_string.f
 rw [if_neg (by simp; omega)]
 have := prints_loop l hl (1000 + (l.map GLn.ln).length) (1000 + (l.map GLn.ln).length) 0 [] (by omega) (by rw [List.length_map]; omega) rfl
 rw [show ((0 : Nat) : Int) = 0 from rfl, List.drop_zero, List.nil_append] at this
 rw [this, Option.bind_some]
 dsimp only
 have hj : L.sjoinR [10] (l.map GLn.tx ++ [[]]) = txL l := by
  rw [sjoin_nl, List.map_map]; rfl
 have hlen := txL_len l
 have hm : 5001 * l.length ≤ 5001 * 4096 := Nat.mul_le_mul_left _ hl
 rw [if_neg (show ¬ decide ((0 : Int) ≠ 0) = true by decide), if_pos (by simp; omega)]
 unfold L.sjoinO
 rw [hj, if_pos ⟨by omega, by simp; omega⟩, Option.bind_some]
theorem textback_good (l : List GLn) (hl : l.length ≤ 50) : parseT (txL l) = (l.map GLn.ln, 0, 0, ()) ∨ ∃ k, ∃ h : k < l.length, parseT (txL l) = ([], ((k + 1 : Nat) : Int), 24, ()) ∧ ¬ deepOk l[k].t := by
 have hlen := txL_len l
 have hm : 5001 * l.length ≤ 5001 * 50 := Nat.mul_le_mul_left _ hl
 unfold parseT
 rw [if_neg (by omega), lines_txL, List.length_map, if_neg (by omega)]
 rcases each_good l 0 with h | ⟨k, hk, h, h2⟩
 ·rw [h]; exact .inl (by simp [outE])
 ·rw [h]
  refine .inr ⟨k, hk, ?_, h2⟩
  show (([] : List Ln), ((0 + k + 1 : Nat) : Int), (24 : Int), ()) = _
  rw [Nat.zero_add]
end Rv
namespace Rv
open Go
abbrev wfLn (x : Ln) : Prop := x.1.length ≤ maxLen ∧ ((Lit.int .i64 x.2.1.1).wf = true ∧ (Lit.int .i64 x.2.1.2.1).wf = true ∧ (Lit.int .i64 x.2.1.2.2.1).wf = true ∧ (Lit.int .i64 x.2.1.2.2.2.1).wf = true ∧ (Lit.int .i64 x.2.1.2.2.2.2.1).wf = true ∧ True ∧ wfE x.2.1.2.2.2.2.2.2.1 ∧ x.2.1.2.2.2.2.2.2.2.1.length ≤ maxLen ∧ True) ∧ True
theorem fit18_loop (a : List Ln) (ha : ∀ x ∈ a, wfLn x) (n : Nat) : ∀ (m i : Nat) (out : List GLn), i ≤ a.length → i ≤ 20 → 20 - i < m → out.length = i →
  ∃ r : List GLn, rivetref18_Fit.l3 n m a (out.map GLn.ln) (i : Int) = some (r.map GLn.ln, ()) ∧ r.length ≤ 20 := by
 intro m
 induction m with
 | zero => intro i out _ _ h; omega
 | succ m ih =>
  intro i out hi h20 hm ho
  rw [rivetref18_Fit.l3]
  simp only [dt, Int.toNat_natCast]
  by_cases h : i < a.length
  ·rw [if_pos (by omega)]
   by_cases h2 : i < 20
   ·rw [if_pos (by omega), if_pos (by omega)]
    have hmem : a.getD i zL ∈ a := by rw [List.getD_eq_getElem?_getD, List.getElem?_eq_getElem h]; exact List.getElem_mem h
    obtain ⟨w1, ⟨_, _, _, _, _, _, w2, w3, _⟩, _⟩ := ha _ hmem
    generalize a.getD i zL = x at w1 w2 w3
    obtain ⟨lb, ⟨k, o, A, b, c, u, e, nm, _⟩, _⟩ := x
    dsimp only at w1 w2 w3 ⊢
    obtain ⟨s, t, hf, hg⟩ := fit17 _ (wfSm_of (k := k) (o := o) (a := A) (b := b) (c := c) (u := u) w2 w3)
    dsimp only at hf
    rw [hf, Option.bind_some]
    unfold smF
    dsimp only
    rw [if_pos (by omega)]
    have W1 : IntKind.i64.wrap ((i : Int) + 1) = ((i + 1 : Nat) : Int) := by rw [w64 (by omega)]; omega
    have J8 : ∀ lb', (lb' = [] ∨ labelOk lb' = true) → ∃ r : List GLn, rivetref18_Fit.j8 n (rivetref18_Fit.l3 n m) a (out.map GLn.ln) (i : Int) lb' s.k s.o s.a s.b s.c s.u s.e s.nm = some (r.map GLn.ln, ()) ∧ r.length ≤ 20 := fun lb' hl => by
     unfold rivetref18_Fit.j8
     rw [if_pos (by simp; omega), W1]
     have e : out.map GLn.ln ++ [(lb', (s.k, s.o, s.a, s.b, s.c, s.u, s.e, s.nm, ()), ())] = (out ++ [(⟨lb', s, t, hl, hg⟩ : GLn)]).map GLn.ln := by rw [List.map_append]; rfl
     rw [e]
     exact ih (i + 1) _ (by omega) (by omega) (by omega) (by simp [ho])
    obtain ⟨m1, m2, r, hr, hl⟩ := label_take lb (wfLen w1)
    by_cases h3 : (2 : Int) < (lb.length : Int)
    ·rw [if_pos h3, if_pos (by omega), if_pos (by omega), if_pos ⟨m1, m2⟩, hr, Option.bind_some]
     exact J8 r (.inr hl)
    ·rw [if_neg h3]
     exact J8 [] (.inl rfl)
   ·rw [if_neg (by omega)]
    exact ⟨out, rfl, by omega⟩
  ·rw [if_neg (by omega)]
   exact ⟨out, rfl, by omega⟩
theorem fit18 (a : List Ln) (ha : ∀ x ∈ a, wfLn x) : ∃ r : List GLn, rivetref18_Fit.g a = some (r.map GLn.ln, ()) ∧ r.length ≤ 20 := by
 unfold rivetref18_Fit.g rivetref18_Fit.f
 exact fit18_loop a ha _ _ 0 [] (by omega) (by omega) (by omega) rfl
theorem xback_wf {a : List Ln} (h : (a.length ≤ maxLen ∧ ∀ x ∈ a, wfLn x) ∧ True) : rivetlaw18_TextBack.g a = some (true, ()) := by
 obtain ⟨r, hr, h20⟩ := fit18 a h.1.2
 have hlen := txL_len r
 have hm : 5001 * r.length ≤ 5001 * 20 := Nat.mul_le_mul_left _ h20
 unfold rivetlaw18_TextBack.g rivetlaw18_TextBack.f
 rw [shown18, Option.bind_some, hr, Option.bind_some]
 dsimp only
 rw [textprint_good r (by omega), Option.bind_some]
 dsimp only
 rw [parseT_eq _ (by omega), Option.bind_some]
 rcases textback_good r (by omega) with h | ⟨k, hk, h, h2⟩
 ·rw [h]
  dsimp only
  have hs : ∀ x ∈ r.map GLn.ln, shortL x := fun x hx => by
   obtain ⟨y, _, rfl⟩ := List.mem_map.1 hx
   exact (good_elen y.hg).1
  rw [same18_refl _ (by simp; omega) hs, Option.bind_some]
  rfl
 ·obtain ⟨x, hx, hd⟩ := deep_ex h2
  have hp := (good_elen r[k].hg).2.1
  have hok := (good_elen r[k].hg).2.2 x hx
  have hdp := (dep_post x hok.2.1).1
  rw [hx] at hp
  have hW : IntKind.i64.wrap (((k + 1 : Nat) : Int) - 1) = (k : Int) := by rw [w64 (by omega)]; omega
  have hg : (r.map GLn.ln).getD k zL = (r[k]).ln := by
   rw [List.getD_eq_getElem?_getD, List.getElem?_map, List.getElem?_eq_getElem hk]; rfl
  rw [h]
  dsimp only
  rw [hW, Int.toNat_natCast, hg, List.length_map]
  have h8 : 8 < r[k].s.e.length := by rw [hp]; show 8 < x.post.length; omega
  rw [if_pos (show (!true) = false from rfl), if_pos (show decide ((0 : Int) ≠ 0) = false by decide), if_neg (show ¬ decide ((0 : Int) ≠ 0) = true by decide), if_pos (show decide ((24 : Int) = 24) = true by decide), if_pos (by simp; omega), if_pos (by simp; omega), if_pos (by omega), decide_eq_true (show (8 : Int) < (r[k].s.e.length : Int) by omega)]
end Rv
