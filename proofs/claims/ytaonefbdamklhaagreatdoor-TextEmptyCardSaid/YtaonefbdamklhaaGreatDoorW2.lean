/- Texts put together. -/
import Derived.Test.YtaonefbdamklhaaGreatDoorW1
set_option linter.all false
namespace Rv
open Go
abbrev R := rec_expr_parser_sum
abbrev dTok : TokL := ((0 : Int), ((0 : Int), (([] : Str), ((0 : Int), ()))))
theorem next_at (l : List TokL) (p : Nat) (out : List Item) (hp : p < l.length) : expr_parser_next.g l p out 0 = some ((l.getD p dTok).1, (l.getD p dTok).2.1, (l.getD p dTok).2.2.1, (l.getD p dTok).2.2.2.1, true, l, (p : Int), out, 0, ()) := by
 unfold expr_parser_next.g expr_parser_next.f
 simp only [df, dt]
 rw [if_pos (by simp), if_pos (by omega), if_neg (by omega), if_pos (by omega), Int.toNat_natCast]
theorem next_end (l : List TokL) (p : Nat) (out : List Item) (hp : l.length ≤ p) : expr_parser_next.g l p out 0 = some (0, 0, [], 0, false, l, (p : Int), out, 0, ()) := by
 unfold expr_parser_next.g expr_parser_next.f
 simp only [df, dt]
 rw [if_pos (by simp), if_pos (by omega), if_pos (by omega)]
theorem next_err (l : List TokL) (p : Int) (out : List Item) (e : Int) (he : e ≠ 0) : expr_parser_next.g l p out e = some (0, 0, [], 0, false, l, p, out, e, ()) := by
 unfold expr_parser_next.g expr_parser_next.f
 simp only [df]
 rw [if_neg (by simpa using he)]
theorem sign_loop (n : Nat) (all : List Str) (hall : all.length ≤ 100) (ok : Bool) (l : List TokL) (p : Int) (out : List Item) (e k a : Int) (tx : Str) (nn : Int) : ∀ (m i : Nat), i ≤ all.length → all.length - i < m →
  expr_parser_sign.l3 n m ok all (all.length : Int) (i : Int) l p out e k a tx nn = if ok = true ∧ k = 3 ∧ tx ∈ all.drop i then some (tx, true, l, IntKind.i64.wrap (p + 1), out, e, ()) else some ([], false, l, p, out, e, ()) := by
 intro m
 induction m with
 | zero => intro i _ h; omega
 | succ m ih =>
  intro i hi hm
  rw [expr_parser_sign.l3]
  simp only [dt, expr_parser_sign.j8, Int.toNat_natCast]
  by_cases h : i < all.length
  ·have hd : all.drop i = all.getD i [] :: all.drop (i + 1) := by
    rw [List.drop_eq_getElem_cons h, List.getD_eq_getElem?_getD, List.getElem?_eq_getElem h]; rfl
   have hih := ih (i + 1) (by omega) (by omega)
   rw [if_pos (by omega), if_pos (by omega), w64 (x := (i : Int) + 1) (by omega), show (i : Int) + 1 = ((i + 1 : Nat) : Int) by omega, hih, hd]
   generalize all.getD i [] = s
   by_cases h1 : ok = true
   ·rw [if_pos h1]
    by_cases h2 : k = 3
    ·rw [if_pos h2]
     by_cases h3 : tx = s
     ·rw [if_pos h3, if_pos ⟨h1, h2, by simp [h3]⟩, h3]
     ·rw [if_neg h3]
      by_cases h4 : tx ∈ all.drop (i + 1)
      ·rw [if_pos ⟨h1, h2, h4⟩, if_pos ⟨h1, h2, by simp [h4]⟩]
      ·rw [if_neg (fun h => h4 h.2.2), if_neg (fun h => by simp [h3, h4] at h)]
    ·rw [if_neg h2, if_neg (fun h => h2 h.2.1), if_neg (fun h => h2 h.2.1)]
   ·rw [if_neg h1, if_neg (fun h => h1 h.1), if_neg (fun h => h1 h.1)]
  ·have : i = all.length := by omega
   subst this
   rw [if_neg (by omega), if_neg (fun h => by simp at h)]
theorem sign_err (all : List Str) (hall : all.length ≤ 100) (l : List TokL) (p : Int) (out : List Item) (e : Int) (he : e ≠ 0) : expr_parser_sign.g all l p out e = some ([], false, l, p, out, e, ()) := by
 unfold expr_parser_sign.g expr_parser_sign.f
 rw [next_err l p out e he, Option.bind_some]
 have := sign_loop (1000 + all.length + l.length + p.toNat + out.length + e.toNat) all hall false l p out e 0 0 [] 0 (1000 + all.length + l.length + p.toNat + out.length + e.toNat) 0 (by omega) (by omega)
 rw [if_neg (fun h => by cases h.1)] at this
 exact this
theorem fail_eq (x : Int) (l : List TokL) (p : Int) (out : List Item) : expr_parser_fail.g x l p out 0 = some (l, p, out, x, ()) := by
 unfold expr_parser_fail.g expr_parser_fail.f
 rw [if_pos (by decide)]
abbrev sMul : List Str := [[42]]
abbrev sAdd : List Str := [[43], [45]]
def mc : Tr → Nat
 | .bin .mul a _ => mc a + 1
 | _ => 0
end Rv
namespace Rv
open Go
theorem fail_err (x : Int) (l : List TokL) (p : Int) (out : List Item) (e : Int) (he : e ≠ 0) : expr_parser_fail.g x l p out e = some (l, p, out, e, ()) := by
 unfold expr_parser_fail.g expr_parser_fail.f
 rw [if_neg (by simpa using he)]
theorem l52_err (n : Nat) (r : Rec_expr_parser_sum) (m : Nat) (l : List TokL) (p : Int) (out : List Item) (e d : Int) (he : e ≠ 0) : expr_parser_row_c201.l1 n r (m + 1) sMul l p out e d = some (l, p, out, e, (), d, ()) := by
 rw [expr_parser_row_c201.l1, sign_err sMul (by simp) l p out e he, Option.bind_some]
 rfl
theorem l51_err (n : Nat) (r : Rec_expr_parser_sum) (m : Nat) (l : List TokL) (p : Int) (out : List Item) (e d : Int) (he : e ≠ 0) : expr_parser_row_c200.l1 n r (m + 1) sAdd l p out e d = some (l, p, out, e, (), d, ()) := by
 rw [expr_parser_row_c200.l1, sign_err sAdd (by simp) l p out e he, Option.bind_some]
 rfl
theorem F_deep (q : Nat) (l : List TokL) (p : Int) (out : List Item) : (R (q + 1)).expr_parser_factor 9 l p out 0 = some (l, p, out, 24, ()) := by
 show expr_parser_factor.h (R q) 9 l p out 0 = _
 unfold expr_parser_factor.h expr_parser_factor.f
 rw [if_neg (by decide), if_pos (by decide), fail_eq, Option.bind_some]
end Rv
namespace Rv
open Go
theorem sameE_refl (a : List Item) (ha : a.length ≤ 1000) : rivetref15_Same.g a a = some (true, ()) := by
 have loop : ∀ (n m i : Nat), i ≤ a.length → a.length - i < m → rivetref15_Same.l4 n m a a (i : Int) = some (true, ()) := by
  intro n m
  induction m with
  | zero => intro i _ h; omega
  | succ m ih =>
   intro i hi hm
   rw [rivetref15_Same.l4]
   simp only [dt]
   by_cases h : i < a.length
   ·rw [if_pos (by omega), if_pos (by omega), if_pos (by omega), if_neg (by simp), w64 (by omega)]
    exact ih (i + 1) (by omega) (by omega)
   ·rw [if_neg (by omega)]
 unfold rivetref15_Same.g rivetref15_Same.f
 rw [if_neg (by simp)]
 exact loop _ _ 0 (by omega) (by omega)
end Rv
namespace Rv
open Go
structure Sm where
 k : Int
 o : Int
 a : Int
 b : Int
 c : Int
 u : Bool
 e : List Item
 nm : Str
end Rv
namespace Rv
open Go
inductive Od
 | A | B | C | E | Q | N
def Od.rd : Od → Fn
 | .A => K.rdA | .B => K.rdB | .C => K.rdC | .E => K.rdE | .Q => K.rdQ | .N => K.rdN
def Od.wr : Od → Fn
 | .A => K.wrA | .B => K.wrB | .C => K.wrC | .E => K.wrE | .Q => K.wrQ | .N => K.wrN
def odL (k o : Int) : List Od :=
 if k = 1 then (if o = 0 then [.A, .C] else [.A, .B, .C]) else
 if k = 2 then (if o = 0 then [.A, .E] else [.A, .B, .E]) else
 if k = 3 ∨ k = 4 then [.A] else
 if k = 5 then [.A, .B, .E] else
 if k = 6 then [.C] else
 if k = 7 ∨ k = 9 then [.E] else
 if k = 8 then [.A, .Q] else
 if k = 10 then [.N] else []
abbrev odF (d : Od) : Fn × Fn × Unit := (d.rd, d.wr, ())
theorem opsR_eq (k o : Int) : L.opsR k o = (odL k o).map odF := by
 unfold L.opsR odL
 split
 ·split <;> rfl
 ·split
  ·split <;> rfl
  ·repeat' split
   all_goals rfl
theorem odL_len (k o : Int) : (odL k o).length ≤ 3 := by
 unfold odL
 repeat' split
 all_goals simp
def et : Option Tr → Str
 | none => []
 | some t => t.txt
def hk (k : Int) : Int := if k = 2 then 1 else if k = 6 then 7 else k
theorem dotted_eq (k : Int) : stmt_dotted.g k = some (decide (k = 9 ∨ k = 10), ()) := by
 unfold stmt_dotted.g stmt_dotted.f
 simp only [df]
 by_cases h : k = 9
 ·rw [if_neg (by simp [h])]; simp [h]
 ·rw [if_pos h]; simp [h]
end Rv
namespace Rv
open Go
end Rv
namespace Rv
open Go
def isSg (l : List TokL) (p : Nat) (c : UInt8) : Bool := decide (p < l.length) && decide ((l.getD p dTok).1 = 3) && decide ((l.getD p dTok).2.2.1 = [c])
abbrev XR := Except Int (List Item × Nat)
def xF (l : List TokL) (S F : Nat → XR) (p : Nat) : XR :=
 if isSg l p 45 = true then (match F (p + 1) with | .error e => .error e | .ok r => .ok (r.1 ++ [(3, 0, [], ())], r.2))
 else if isSg l p 40 = true then (match S (p + 1) with | .error e => .error e | .ok r => if isSg l r.2 41 = true then .ok (r.1, r.2 + 1) else .error 23)
 else if p < l.length ∧ (l.getD p dTok).1 = 2 then .ok ([(1, (l.getD p dTok).2.2.2.1, [], ())], p + 1)
 else if p < l.length ∧ (l.getD p dTok).1 = 1 ∧ labelOk (l.getD p dTok).2.2.1 = true then .ok ([(2, 0, (l.getD p dTok).2.2.1, ())], p + 1)
 else .error 23
def lT (l : List TokL) (F : Nat → XR) : Nat → List Item → Nat → XR
 | 0, it, p => .ok (it, p)
 | m + 1, it, p => if isSg l p 42 = true then (match F (p + 1) with | .error e => .error e | .ok r => lT l F m (it ++ r.1 ++ [(6, 0, [], ())]) r.2) else .ok (it, p)
def xT (l : List TokL) (F : Nat → XR) (p : Nat) : XR := match F p with | .error e => .error e | .ok r => lT l F (l.length + 1) r.1 r.2
def lS (l : List TokL) (T : Nat → XR) : Nat → List Item → Nat → XR
 | 0, it, p => .ok (it, p)
 | m + 1, it, p => if isSg l p 43 = true then (match T (p + 1) with | .error e => .error e | .ok r => lS l T m (it ++ r.1 ++ [(4, 0, [], ())]) r.2)
  else if isSg l p 45 = true then (match T (p + 1) with | .error e => .error e | .ok r => lS l T m (it ++ r.1 ++ [(5, 0, [], ())]) r.2) else .ok (it, p)
def xS (l : List TokL) (F : Nat → XR) (p : Nat) : XR := match xT l F p with | .error e => .error e | .ok r => lS l (xT l F) (l.length + 1) r.1 r.2
def pF (l : List TokL) : Nat → Nat → XR
 | 0, _ => .error 24
 | q + 1, p => xF l (xS l (pF l q)) (pF l q) p
def parseX (l : List TokL) (p : Nat) : List Item × Int × Int × Unit :=
 match xS l (pF l 9) p with
 | .error e => ([], 0, e, ())
 | .ok r => if 64 < r.1.length then ([], 0, 24, ()) else (r.1, (r.2 : Int), 0, ())
structure OkX (l : List TokL) (p : Nat) (it : List Item) (p' : Nat) : Prop where
 lt : p < p'
 le : p' ≤ l.length
 len : it.length ≤ p' - p
 well : wellL it
 good : (∀ t ∈ l, 0 ≤ t.2.2.2.1 ∧ t.2.2.2.1 ≤ 4294967295) → ∀ x ∈ it, goodItem x
def GoodX (l : List TokL) (p : Nat) : XR → Prop
 | .error e => e = 23 ∨ e = 24
 | .ok r => OkX l p r.1 r.2
theorem isSg_lt {l : List TokL} {p : Nat} {c : UInt8} (h : isSg l p c = true) : p < l.length := by
 unfold isSg at h
 simp only [Bool.and_eq_true, decide_eq_true_eq] at h
 exact h.1.1
theorem getD_memT {l : List TokL} {p : Nat} (h : p < l.length) : l.getD p dTok ∈ l := by
 rw [List.getD_eq_getElem?_getD, List.getElem?_eq_getElem h]; exact List.getElem_mem h
theorem goodX_F {l : List TokL} {S F : Nat → XR} (hS : ∀ p, GoodX l p (S p)) (hF : ∀ p, GoodX l p (F p)) (p : Nat) : GoodX l p (xF l S F p) := by
 unfold xF
 split
 ·rename_i h
  have := hF (p + 1)
  cases hr : F (p + 1) with
  | error e => rw [hr] at this; exact this
  | ok r =>
   rw [hr] at this
   have h1 := this.lt; have h2 := this.len; have h3 := this.le
   refine ⟨by dsimp only; omega, h3, by simp; omega, well_one this.well _ rfl, fun ht x hx => ?_⟩
   simp only [List.mem_append, List.mem_singleton] at hx
   rcases hx with hx | rfl
   ·exact this.good ht x hx
   ·exact ⟨by decide, by decide, rfl⟩
 ·split
  ·have := hS (p + 1)
   cases hr : S (p + 1) with
   | error e => rw [hr] at this; exact this
   | ok r =>
    rw [hr] at this
    dsimp only
    split
    ·rename_i h
     have h0 := isSg_lt h
     have h1 := this.lt; have h2 := this.len; have h3 := this.le
     exact ⟨by dsimp only; omega, by dsimp only; omega, by dsimp only; omega, this.well, this.good⟩
    ·exact .inl rfl
  ·split
   ·rename_i h
    refine ⟨by dsimp only; omega, by have := h.1; dsimp only; omega, by simp, rfl, fun ht x hx => ?_⟩
    simp only [List.mem_singleton] at hx
    subst hx
    have := ht _ (getD_memT h.1)
    exact ⟨this.1, this.2, rfl⟩
   ·split
    ·rename_i h
     have hn : needsR (2, 0, (l.getD p dTok).2.2.1, ()) = (0, true) := by
      generalize (l.getD p dTok).2.2.1 = tx at h
      unfold needsR
      simp [h.2.2]
     refine ⟨by dsimp only; omega, by have := h.1; dsimp only; omega, by simp, ?_, fun ht x hx => ?_⟩
     ·show enough 0 [((2, 0, (l.getD p dTok).2.2.1, ()) : Item)] = some 1
      generalize ((2, 0, (l.getD p dTok).2.2.1, ()) : Item) = x at hn
      simp [enough, hn]
     ·simp only [List.mem_singleton] at hx
      subst hx
      exact ⟨by show (0 : Int) ≤ 0; decide, by show (0 : Int) ≤ _; decide, by rw [hn]⟩
    ·exact .inl rfl
theorem goodX_bin {l : List TokL} {a b c : Nat} {A B : List Item} (ha : OkX l a A b) (hb : OkX l (b + 1) B c) (x : Item) (hx : needsR x = (2, true)) (h0 : x.2.1 = 0) : OkX l a (A ++ B ++ [x]) c := by
 have h1 := ha.lt; have h2 := ha.len; have h3 := hb.lt; have h4 := hb.len
 refine ⟨by omega, hb.le, by simp; omega, well_two ha.well hb.well x hx, fun ht y hy => ?_⟩
 simp only [List.mem_append, List.mem_singleton] at hy
 rcases hy with (hy | hy) | rfl
 ·exact ha.good ht y hy
 ·exact hb.good ht y hy
 ·exact ⟨by rw [h0]; decide, by rw [h0]; decide, by rw [hx]⟩
theorem goodX_lT {l : List TokL} {F : Nat → XR} (hF : ∀ p, GoodX l p (F p)) (a : Nat) : ∀ (m : Nat) (it : List Item) (p : Nat), OkX l a it p → GoodX l a (lT l F m it p)
 | 0, it, p, h => h
 | m + 1, it, p, h => by
  rw [lT]
  split
  ·have := hF (p + 1)
   cases hr : F (p + 1) with
   | error e => rw [hr] at this; exact this
   | ok r =>
    rw [hr] at this
    exact goodX_lT hF a m _ _ (goodX_bin h this _ rfl rfl)
  ·exact h
theorem goodX_T {l : List TokL} {F : Nat → XR} (hF : ∀ p, GoodX l p (F p)) (p : Nat) : GoodX l p (xT l F p) := by
 unfold xT
 have := hF p
 cases hr : F p with
 | error e => rw [hr] at this; exact this
 | ok r => rw [hr] at this; exact goodX_lT hF p _ _ _ this
theorem goodX_lS {l : List TokL} {F : Nat → XR} (hF : ∀ p, GoodX l p (F p)) (a : Nat) : ∀ (m : Nat) (it : List Item) (p : Nat), OkX l a it p → GoodX l a (lS l F m it p)
 | 0, it, p, h => h
 | m + 1, it, p, h => by
  rw [lS]
  split
  ·have := hF (p + 1)
   cases hr : F (p + 1) with
   | error e => rw [hr] at this; exact this
   | ok r =>
    rw [hr] at this
    exact goodX_lS hF a m _ _ (goodX_bin h this _ rfl rfl)
  ·split
   ·have := hF (p + 1)
    cases hr : F (p + 1) with
    | error e => rw [hr] at this; exact this
    | ok r =>
     rw [hr] at this
     exact goodX_lS hF a m _ _ (goodX_bin h this _ rfl rfl)
   ·exact h
theorem goodX_S {l : List TokL} {F : Nat → XR} (hF : ∀ p, GoodX l p (F p)) (p : Nat) : GoodX l p (xS l F p) := by
 unfold xS
 have := goodX_T hF p
 cases hr : xT l F p with
 | error e => rw [hr] at this; exact this
 | ok r => rw [hr] at this; exact goodX_lS (goodX_T hF) p _ _ _ this
theorem goodX_pF (l : List TokL) : ∀ (q p : Nat), GoodX l p (pF l q p)
 | 0, _ => .inr rfl
 | q + 1, p => goodX_F (goodX_S (goodX_pF l q)) (goodX_pF l q) p
theorem sign_any (all : List Str) (hall : all.length ≤ 100) (l : List TokL) (p : Nat) (hl : l.length ≤ 1000000) (out : List Item) : expr_parser_sign.g all l p out 0 =
  if p < l.length ∧ (l.getD p dTok).1 = 3 ∧ (l.getD p dTok).2.2.1 ∈ all then some ((l.getD p dTok).2.2.1, true, l, ((p + 1 : Nat) : Int), out, 0, ()) else some ([], false, l, (p : Int), out, 0, ()) := by
 unfold expr_parser_sign.g expr_parser_sign.f
 by_cases hp : p < l.length
 ·rw [next_at l p out hp, Option.bind_some]
  dsimp only
  have := sign_loop (1000 + all.length + l.length + (p : Int).toNat + out.length + (0 : Int).toNat) all hall true l p out 0 (l.getD p dTok).1 (l.getD p dTok).2.1 (l.getD p dTok).2.2.1 (l.getD p dTok).2.2.2.1 (1000 + all.length + l.length + (p : Int).toNat + out.length + (0 : Int).toNat) 0 (by omega) (by omega)
  rw [show ((0 : Nat) : Int) = 0 from rfl] at this
  rw [this, w64 (by omega), List.drop_zero]
  by_cases h : (l.getD p dTok).1 = 3 ∧ (l.getD p dTok).2.2.1 ∈ all
  ·rw [if_pos ⟨rfl, h⟩, if_pos ⟨hp, h⟩]; rfl
  ·rw [if_neg (fun g => h g.2), if_neg (fun g => h g.2)]
 ·rw [next_end l p out (by omega), Option.bind_some]
  dsimp only
  have := sign_loop (1000 + all.length + l.length + (p : Int).toNat + out.length + (0 : Int).toNat) all hall false l p out 0 0 0 [] 0 (1000 + all.length + l.length + (p : Int).toNat + out.length + (0 : Int).toNat) 0 (by omega) (by omega)
  rw [show ((0 : Nat) : Int) = 0 from rfl] at this
  rw [this, if_neg (fun g => by cases g.1), if_neg (fun g => hp g.1)]
theorem isSg_iff {l : List TokL} {p : Nat} {c : UInt8} : isSg l p c = true ↔ p < l.length ∧ (l.getD p dTok).1 = 3 ∧ (l.getD p dTok).2.2.1 = [c] := by
 unfold isSg
 simp only [Bool.and_eq_true, decide_eq_true_eq, and_assoc]
theorem put_big (a b : Int) (c : Str) (l : List TokL) (p : Int) (out : List Item) (e : Int) (ho : out.length ≤ 3000000) : expr_parser_put.g a b c l p out e = some (l, p, out ++ [(a, b, c, ())], e, ()) := by
 unfold expr_parser_put.g expr_parser_put.f
 rw [if_pos (by simp; omega)]
def ResF (l : List TokL) (out : List Item) (B : Nat) (r : Option (List TokL × Int × List Item × Int × Unit)) : XR → Prop
 | .ok x => r = some (l, (x.2 : Int), out ++ x.1, 0, ())
 | .error e => ∃ p' out', r = some (l, p', out', e, ()) ∧ out'.length ≤ B
def ResT (l : List TokL) (out : List Item) (d : Int) (B : Nat) (r : Option (List TokL × Int × List Item × Int × Unit × Int × Unit)) : XR → Prop
 | .ok x => r = some (l, (x.2 : Int), out ++ x.1, 0, (), d, ())
 | .error e => ∃ p' out', r = some (l, p', out', e, (), d, ()) ∧ out'.length ≤ B
def okFq (l : List TokL) (q : Nat) : Prop := ∀ (p : Nat) (out : List Item) (Q : Nat), out.length + (l.length - p) ≤ 1000000 → 6 * q + 1 ≤ Q → ResF l out (2000000 + 3 * q) ((R Q).expr_parser_factor ((9 - q : Nat) : Int) l p out 0) (pF l q p)
def okTq (l : List TokL) (q : Nat) : Prop := ∀ (p : Nat) (out : List Item) (Q : Nat), out.length + (l.length - p) ≤ 1000000 → 6 * q + 4 ≤ Q → ∃ r, (R Q).expr_parser_sum_1 ((9 - q : Nat) : Int) l p out 0 = r.map (fun y => ((), ((9 - q : Nat) : Int), y)) ∧ ResF l out (2000000 + 3 * q + 1) r (xT l (pF l q) p)
def okSq (l : List TokL) (q : Nat) : Prop := ∀ (p : Nat) (out : List Item) (Q : Nat), out.length + (l.length - p) ≤ 1000000 → 6 * q + 6 ≤ Q → ResF l out (2000000 + 3 * q + 2) ((R Q).expr_parser_sum ((9 - q : Nat) : Int) l p out 0) (xS l (pF l q) p)
theorem err_ne {l : List TokL} {p : Nat} {x : XR} {e : Int} (h : GoodX l p x) (hx : x = .error e) : e ≠ 0 := by
 subst hx
 rcases h with rfl | rfl <;> decide
theorem T_loop {l : List TokL} (hl : l.length ≤ 1000000) {q : Nat} (hq9 : q ≤ 9) (hF : okFq l q) (n : Nat) (Q : Nat) (hQ : 6 * q + 2 ≤ Q) (out : List Item) : ∀ (m M : Nat) (it : List Item) (p : Nat), l.length - p < m → l.length - p < M → (out ++ it).length + (l.length - p) ≤ 1000000 →
  ResT l out ((9 - q : Nat) : Int) (2000000 + 3 * q + 1) (expr_parser_row_c201.l1 n (R Q) M sMul l p (out ++ it) 0 ((9 - q : Nat) : Int)) (lT l (pF l q) m it p) := by
 intro m
 induction m with
 | zero => intro M it p h; omega
 | succ m ih =>
  intro M it p hm hM ho
  obtain ⟨M, rfl⟩ : ∃ M', M = M' + 1 := ⟨M - 1, by omega⟩
  rw [expr_parser_row_c201.l1, sign_any sMul (by simp) l p hl, lT]
  by_cases hs : isSg l p 42 = true
  ·have hs' := isSg_iff.1 hs
   rw [if_pos ⟨hs'.1, hs'.2.1, by rw [hs'.2.2]; decide⟩, if_pos hs, Option.bind_some, hs'.2.2]
   dsimp only
   rw [if_neg (by decide)]
   obtain ⟨Q, rfl⟩ : ∃ Q', Q = Q' + 1 := ⟨Q - 1, by omega⟩
   have e : (R (Q + 1)).expr_parser_sum_1_1 ((9 - q : Nat) : Int) l ((p + 1 : Nat) : Int) (out ++ it) 0 = expr_parser_sum_1_1.h (R Q) ((9 - q : Nat) : Int) l ((p + 1 : Nat) : Int) (out ++ it) 0 := rfl
   rw [e]
   unfold expr_parser_sum_1_1.h expr_parser_sum_1_1.f
   have hg := goodX_pF l q (p + 1)
   have hr := hF (p + 1) (out ++ it) Q (by omega) (by omega)
   cases hx : pF l q (p + 1) with
   | error e =>
    rw [hx] at hr
    obtain ⟨p', out', h1, h2⟩ := hr
    have hne := err_ne hg hx
    have hlt := hs'.1
    rw [h1, Option.bind_some, Option.bind_some]
    dsimp only
    rw [put_big _ _ _ _ _ _ _ (by omega), Option.bind_some]
    dsimp only
    obtain ⟨M, rfl⟩ : ∃ M', M = M' + 1 := ⟨M - 1, by omega⟩
    rw [l52_err n _ M l p' _ e _ hne]
    exact ⟨p', _, rfl, by simp; omega⟩
   | ok r =>
    rw [hx] at hr hg
    have hr : (R Q).expr_parser_factor ((9 - q : Nat) : Int) l ((p + 1 : Nat) : Int) (out ++ it) 0 = some (l, (r.2 : Int), (out ++ it) ++ r.1, 0, ()) := hr
    have g1 := hg.lt; have g2 := hg.len; have g3 := hg.le
    rw [hr, Option.bind_some, Option.bind_some]
    dsimp only
    rw [put_big _ _ _ _ _ _ _ (by simp at ho ⊢; omega), Option.bind_some]
    dsimp only
    have := ih M (it ++ r.1 ++ [(6, 0, [], ())]) r.2 (by omega) (by omega) (by simp at ho ⊢; omega)
    rw [show out ++ it ++ r.1 ++ [((L.kinds [42]).1, 0, [], ())] = out ++ (it ++ r.1 ++ [(6, 0, [], ())]) by simp [L.kinds]]
    exact this
  ·rw [if_neg (fun h => hs (isSg_iff.2 ⟨h.1, h.2.1, by simpa using h.2.2⟩)), if_neg hs, Option.bind_some]
   rfl
theorem T_of {l : List TokL} (hl : l.length ≤ 1000000) {q : Nat} (hq9 : q ≤ 9) (hF : okFq l q) : okTq l q := by
 intro p out Q ho hQ
 obtain ⟨Q, rfl⟩ : ∃ Q', Q = Q' + 2 := ⟨Q - 2, by omega⟩
 have e : (R (Q + 2)).expr_parser_sum_1 ((9 - q : Nat) : Int) l (p : Int) out 0 = expr_parser_sum_1.h (R (Q + 1)) ((9 - q : Nat) : Int) l (p : Int) out 0 := rfl
 rw [e]
 unfold expr_parser_sum_1.h expr_parser_sum_1.f
 have e2 : (R (Q + 1)).expr_parser_row_c201 sMul l (p : Int) out 0 ((9 - q : Nat) : Int) = expr_parser_row_c201.h (R Q) sMul l (p : Int) out 0 ((9 - q : Nat) : Int) := rfl
 rw [e2]
 unfold expr_parser_row_c201.h expr_parser_row_c201.f
 obtain ⟨N, hN⟩ : ∃ N, 1000 + sMul.length + l.length + (p : Int).toNat + out.length + (0 : Int).toNat + (((9 - q : Nat) : Int)).toNat = N := ⟨_, rfl⟩
 rw [hN]
 obtain ⟨Q, rfl⟩ : ∃ Q', Q = Q' + 1 := ⟨Q - 1, by omega⟩
 have e3 : (R (Q + 1)).expr_parser_sum_1_1 ((9 - q : Nat) : Int) l (p : Int) out 0 = expr_parser_sum_1_1.h (R Q) ((9 - q : Nat) : Int) l (p : Int) out 0 := rfl
 rw [e3]
 unfold expr_parser_sum_1_1.h expr_parser_sum_1_1.f
 have hg := goodX_pF l q p
 have hr := hF p out Q (by omega) (by omega)
 unfold xT
 cases hx : pF l q p with
 | error e =>
  rw [hx] at hr
  obtain ⟨p', out', h1, h2⟩ := hr
  have hne := err_ne hg hx
  rw [h1, Option.bind_some, Option.bind_some]
  dsimp only
  obtain ⟨M, rfl⟩ : ∃ M', N = M' + 1 := ⟨N - 1, by omega⟩
  rw [l52_err _ _ M l p' _ e _ hne, Option.bind_some]
  exact ⟨some (l, p', out', e, ()), rfl, p', out', rfl, by omega⟩
 | ok r =>
  rw [hx] at hr hg
  have hr : (R Q).expr_parser_factor ((9 - q : Nat) : Int) l (p : Int) out 0 = some (l, (r.2 : Int), out ++ r.1, 0, ()) := hr
  have g1 := hg.lt; have g2 := hg.len; have g3 := hg.le
  rw [hr, Option.bind_some, Option.bind_some]
  dsimp only
  have := T_loop hl hq9 hF N (Q + 1) (by omega) out (l.length + 1) N r.1 r.2 (by omega) (by omega) (by simp; omega)
  generalize expr_parser_row_c201.l1 N (R (Q + 1)) N sMul l (r.2 : Int) (out ++ r.1) 0 ((9 - q : Nat) : Int) = X at this
  cases hy : lT l (pF l q) (l.length + 1) r.1 r.2 with
  | error e =>
   rw [hy] at this
   obtain ⟨p', out', h1, h2⟩ := this
   rw [h1, Option.bind_some]
   exact ⟨some (l, p', out', e, ()), rfl, p', out', rfl, h2⟩
  | ok x =>
   rw [hy] at this
   have this : X = some (l, (x.2 : Int), out ++ x.1, 0, (), ((9 - q : Nat) : Int), ()) := this
   rw [this, Option.bind_some]
   exact ⟨some (l, (x.2 : Int), out ++ x.1, 0, ()), rfl, rfl⟩
theorem S_loop {l : List TokL} (hl : l.length ≤ 1000000) {q : Nat} (hq9 : q ≤ 9) (hT : okTq l q) (n : Nat) (Q : Nat) (hQ : 6 * q + 4 ≤ Q) (out : List Item) : ∀ (m M : Nat) (it : List Item) (p : Nat), l.length - p < m → l.length - p < M → (out ++ it).length + (l.length - p) ≤ 1000000 →
  ResT l out ((9 - q : Nat) : Int) (2000000 + 3 * q + 2) (expr_parser_row_c200.l1 n (R Q) M sAdd l p (out ++ it) 0 ((9 - q : Nat) : Int)) (lS l (xT l (pF l q)) m it p) := by
 intro m
 induction m with
 | zero => intro M it p h; omega
 | succ m ih =>
  intro M it p hm hM ho
  obtain ⟨M, rfl⟩ : ∃ M', M = M' + 1 := ⟨M - 1, by omega⟩
  rw [expr_parser_row_c200.l1, sign_any sAdd (by simp) l p hl, lS]
  have step : ∀ (c : UInt8) (K : Int), (L.kinds [c]).1 = K → isSg l p c = true →
    ResT l out ((9 - q : Nat) : Int) (2000000 + 3 * q + 2) (((R Q).expr_parser_sum_1 ((9 - q : Nat) : Int) l ((p + 1 : Nat) : Int) (out ++ it) 0).bind fun y2 => (expr_parser_put.g ((L.kinds [c]).1) 0 ([] : Str) y2.2.2.1 y2.2.2.2.1 y2.2.2.2.2.1 y2.2.2.2.2.2.1).bind fun y3 => (expr_parser_row_c200.l1 n (R Q) M) sAdd y3.1 y3.2.1 y3.2.2.1 y3.2.2.2.1 y2.2.1)
     (match xT l (pF l q) (p + 1) with | .error e => .error e | .ok r => lS l (xT l (pF l q)) m (it ++ r.1 ++ [(K, 0, [], ())]) r.2) := by
   intro c K hK hs
   have hs' := isSg_iff.1 hs
   have hlt := hs'.1
   have hg := goodX_T (goodX_pF l q) (p + 1)
   obtain ⟨rr, h0, hr⟩ := hT (p + 1) (out ++ it) Q (by omega) hQ
   rw [h0]
   cases hx : xT l (pF l q) (p + 1) with
   | error e =>
    rw [hx] at hr
    obtain ⟨p', out', h1, h2⟩ := hr
    have hne := err_ne hg hx
    rw [h1, Option.map_some, Option.bind_some]
    dsimp only
    rw [put_big _ _ _ _ _ _ _ (by omega), Option.bind_some]
    dsimp only
    obtain ⟨M, rfl⟩ : ∃ M', M = M' + 1 := ⟨M - 1, by omega⟩
    rw [l51_err n _ M l p' _ e _ hne]
    exact ⟨p', _, rfl, by simp; omega⟩
   | ok r =>
    rw [hx] at hr hg
    have hr : rr = some (l, (r.2 : Int), (out ++ it) ++ r.1, 0, ()) := hr
    have g1 := hg.lt; have g2 := hg.len; have g3 := hg.le
    rw [hr, Option.map_some, Option.bind_some]
    dsimp only
    rw [put_big _ _ _ _ _ _ _ (by simp at ho ⊢; omega), Option.bind_some]
    dsimp only
    have := ih M (it ++ r.1 ++ [(K, 0, [], ())]) r.2 (by omega) (by omega) (by simp at ho ⊢; omega)
    rw [hK, show out ++ it ++ r.1 ++ [(K, 0, [], ())] = out ++ (it ++ r.1 ++ [(K, 0, [], ())]) by simp]
    exact this
  by_cases hs : isSg l p 43 = true
  ·have hs' := isSg_iff.1 hs
   rw [if_pos ⟨hs'.1, hs'.2.1, by rw [hs'.2.2]; decide⟩, if_pos hs, Option.bind_some, hs'.2.2]
   dsimp only
   rw [if_neg (by decide)]
   exact step 43 4 rfl hs
  ·by_cases hs2 : isSg l p 45 = true
   ·have hs' := isSg_iff.1 hs2
    rw [if_pos ⟨hs'.1, hs'.2.1, by rw [hs'.2.2]; decide⟩, if_neg hs, if_pos hs2, Option.bind_some, hs'.2.2]
    dsimp only
    rw [if_neg (by decide)]
    exact step 45 5 rfl hs2
   ·rw [if_neg (fun h => by
     have h3 := h.2.2
     simp only [List.mem_cons, List.not_mem_nil, or_false] at h3
     rcases h3 with h3 | h3
     ·exact hs (isSg_iff.2 ⟨h.1, h.2.1, h3⟩)
     ·exact hs2 (isSg_iff.2 ⟨h.1, h.2.1, h3⟩)), if_neg hs, if_neg hs2, Option.bind_some]
    rfl
theorem S_of {l : List TokL} (hl : l.length ≤ 1000000) {q : Nat} (hq9 : q ≤ 9) (hT : okTq l q) : okSq l q := by
 intro p out Q ho hQ
 obtain ⟨Q, rfl⟩ : ∃ Q', Q = Q' + 2 := ⟨Q - 2, by omega⟩
 have e : (R (Q + 2)).expr_parser_sum ((9 - q : Nat) : Int) l (p : Int) out 0 = expr_parser_sum.h (R (Q + 1)) ((9 - q : Nat) : Int) l (p : Int) out 0 := rfl
 rw [e]
 unfold expr_parser_sum.h expr_parser_sum.f
 have e2 : (R (Q + 1)).expr_parser_row_c200 sAdd l (p : Int) out 0 ((9 - q : Nat) : Int) = expr_parser_row_c200.h (R Q) sAdd l (p : Int) out 0 ((9 - q : Nat) : Int) := rfl
 rw [e2]
 unfold expr_parser_row_c200.h expr_parser_row_c200.f
 obtain ⟨N, hN⟩ : ∃ N, 1000 + sAdd.length + l.length + (p : Int).toNat + out.length + (0 : Int).toNat + (((9 - q : Nat) : Int)).toNat = N := ⟨_, rfl⟩
 rw [hN]
 have hg := goodX_T (goodX_pF l q) p
 obtain ⟨rr, h0, hr⟩ := hT p out Q (by omega) (by omega)
 rw [h0]
 unfold xS
 cases hx : xT l (pF l q) p with
 | error e =>
  rw [hx] at hr
  obtain ⟨p', out', h1, h2⟩ := hr
  have hne := err_ne hg hx
  rw [h1, Option.map_some, Option.bind_some]
  dsimp only
  obtain ⟨M, rfl⟩ : ∃ M', N = M' + 1 := ⟨N - 1, by omega⟩
  rw [l51_err _ _ M l p' _ e _ hne, Option.bind_some]
  exact ⟨p', out', rfl, by omega⟩
 | ok r =>
  rw [hx] at hr hg
  have hr : rr = some (l, (r.2 : Int), out ++ r.1, 0, ()) := hr
  have g1 := hg.lt; have g2 := hg.len; have g3 := hg.le
  rw [hr, Option.map_some, Option.bind_some]
  dsimp only
  have := S_loop hl hq9 hT N Q (by omega) out (l.length + 1) N r.1 r.2 (by omega) (by omega) (by simp; omega)
  generalize expr_parser_row_c200.l1 N (R Q) N sAdd l (r.2 : Int) (out ++ r.1) 0 ((9 - q : Nat) : Int) = X at this
  cases hy : lS l (xT l (pF l q)) (l.length + 1) r.1 r.2 with
  | error e =>
   rw [hy] at this
   obtain ⟨p', out', h1, h2⟩ := this
   rw [h1, Option.bind_some]
   exact ⟨p', out', rfl, h2⟩
  | ok x =>
   rw [hy] at this
   have this : X = some (l, (x.2 : Int), out ++ x.1, 0, (), ((9 - q : Nat) : Int), ()) := this
   rw [this, Option.bind_some]
   rfl
theorem F_of {l : List TokL} (hl : l.length ≤ 1000000) {q : Nat} (hq9 : q + 1 ≤ 9) (hF : okFq l q) (hS : okSq l q) : okFq l (q + 1) := by
 intro p out Q ho hQ
 obtain ⟨Q, rfl⟩ : ∃ Q', Q = Q' + 1 := ⟨Q - 1, by omega⟩
 have e : (R (Q + 1)).expr_parser_factor ((9 - (q + 1) : Nat) : Int) l (p : Int) out 0 = expr_parser_factor.h (R Q) ((9 - (q + 1) : Nat) : Int) l (p : Int) out 0 := rfl
 rw [e]
 unfold expr_parser_factor.h expr_parser_factor.f
 have hd : IntKind.i64.wrap (((9 - (q + 1) : Nat) : Int) + 1) = ((9 - q : Nat) : Int) := by rw [w64 (by omega)]; omega
 rw [if_neg (by decide), if_neg (by simp; omega), sign_any [[45], [40]] (by simp) l p hl, hd]
 show ResF l out _ _ (xF l (xS l (pF l q)) (pF l q) p)
 unfold xF
 by_cases h1 : isSg l p 45 = true
 ·have hs' := isSg_iff.1 h1
  rw [if_pos ⟨hs'.1, hs'.2.1, by rw [hs'.2.2]; decide⟩, if_pos h1, Option.bind_some, hs'.2.2]
  dsimp only
  rw [if_pos (by decide)]
  have hlt := hs'.1
  have hg := goodX_pF l q (p + 1)
  have hr := hF (p + 1) out Q (by omega) (by omega)
  cases hx : pF l q (p + 1) with
  | error e =>
   rw [hx] at hr
   obtain ⟨p', out', h3, h2⟩ := hr
   rw [h3, Option.bind_some]
   dsimp only
   rw [put_big _ _ _ _ _ _ _ (by omega), Option.bind_some]
   exact ⟨p', _, rfl, by simp; omega⟩
  | ok r =>
   rw [hx] at hr hg
   have hr : (R Q).expr_parser_factor ((9 - q : Nat) : Int) l ((p + 1 : Nat) : Int) out 0 = some (l, (r.2 : Int), out ++ r.1, 0, ()) := hr
   have g1 := hg.lt; have g2 := hg.len; have g3 := hg.le
   rw [hr, Option.bind_some]
   dsimp only
   rw [put_big _ _ _ _ _ _ _ (by simp; omega), Option.bind_some]
   show some (l, (r.2 : Int), out ++ r.1 ++ [(3, 0, [], ())], 0, ()) = some (l, (r.2 : Int), out ++ (r.1 ++ [(3, 0, [], ())]), 0, ())
   rw [List.append_assoc]
 ·by_cases h2 : isSg l p 40 = true
  ·have hs' := isSg_iff.1 h2
   rw [if_pos ⟨hs'.1, hs'.2.1, by rw [hs'.2.2]; decide⟩, if_neg h1, if_pos h2, Option.bind_some, hs'.2.2]
   dsimp only
   rw [if_neg (by decide), if_pos (by decide)]
   have hlt := hs'.1
   have hg := goodX_S (goodX_pF l q) (p + 1)
   have hr := hS (p + 1) out Q (by omega) (by omega)
   cases hx : xS l (pF l q) (p + 1) with
   | error e =>
    rw [hx] at hr
    obtain ⟨p', out', h3, h4⟩ := hr
    have hne := err_ne hg hx
    rw [h3, Option.bind_some]
    dsimp only
    rw [sign_err _ (by simp) l p' out' e hne, Option.bind_some]
    dsimp only
    rw [if_pos (show (!false) = true from rfl), fail_err 23 l p' out' e hne, Option.bind_some]
    exact ⟨p', out', rfl, by omega⟩
   | ok r =>
    rw [hx] at hr hg
    have hr : (R Q).expr_parser_sum ((9 - q : Nat) : Int) l ((p + 1 : Nat) : Int) out 0 = some (l, (r.2 : Int), out ++ r.1, 0, ()) := hr
    have g1 := hg.lt; have g2 := hg.len; have g3 := hg.le
    rw [hr, Option.bind_some]
    dsimp only
    rw [sign_any [[41]] (by simp) l r.2 hl]
    by_cases h3 : isSg l r.2 41 = true
    ·have hs2 := isSg_iff.1 h3
     rw [if_pos ⟨hs2.1, hs2.2.1, by rw [hs2.2.2]; decide⟩, if_pos h3, Option.bind_some]
     dsimp only
     rw [if_neg (by decide)]
     rfl
    ·rw [if_neg (fun h => h3 (isSg_iff.2 ⟨h.1, h.2.1, by simpa using h.2.2⟩)), if_neg h3, Option.bind_some]
     dsimp only
     rw [if_pos (show (!false) = true from rfl), fail_eq, Option.bind_some]
     exact ⟨_, _, rfl, by simp; omega⟩
  ·rw [if_neg (fun h => by
     have h3 := h.2.2
     simp only [List.mem_cons, List.not_mem_nil, or_false] at h3
     rcases h3 with h3 | h3
     ·exact h1 (isSg_iff.2 ⟨h.1, h.2.1, h3⟩)
     ·exact h2 (isSg_iff.2 ⟨h.1, h.2.1, h3⟩)), if_neg h1, if_neg h2, Option.bind_some]
   dsimp only
   rw [if_neg (show ¬ decide (([] : Str) = [45]) = true by decide), if_neg (show ¬ decide (([] : Str) = [40]) = true by decide)]
   by_cases hp : p < l.length
   ·rw [next_at l p out hp, Option.bind_some]
    dsimp only
    generalize ht : l.getD p dTok = t
    by_cases k2 : t.1 = 2
    ·rw [if_pos (show true = true from rfl), if_pos (show decide (t.1 = 2) = true by simp [k2]), if_pos (show p < l.length ∧ t.1 = 2 from ⟨hp, k2⟩), put_big _ _ _ _ _ _ _ (by omega), Option.bind_some]
     unfold expr_parser_factor.j19
     dsimp only
     rw [w64 (by omega)]
     rfl
    ·rw [if_pos (show true = true from rfl), if_neg (show ¬ decide (t.1 = 2) = true by simp [k2]), if_pos (show true = true from rfl), if_neg (show ¬ (p < l.length ∧ t.1 = 2) from fun h => k2 h.2)]
     by_cases k1 : t.1 = 1
     ·rw [if_pos (show decide (t.1 = 1) = true by simp [k1]), label_eq, Option.bind_some]
      dsimp only
      by_cases hL : labelOk t.2.2.1 = true
      ·rw [if_pos hL, if_pos (show p < l.length ∧ t.1 = 1 ∧ labelOk t.2.2.1 = true from ⟨hp, k1, hL⟩), put_big _ _ _ _ _ _ _ (by omega), Option.bind_some]
       unfold expr_parser_factor.j19
       dsimp only
       rw [w64 (by omega)]
       rfl
      ·rw [if_neg hL, if_neg (show ¬ (p < l.length ∧ t.1 = 1 ∧ labelOk t.2.2.1 = true) from fun h => hL h.2.2), fail_eq, Option.bind_some]
       exact ⟨_, _, rfl, by dsimp only; omega⟩
     ·rw [if_neg (show ¬ decide (t.1 = 1) = true by simp [k1]), if_neg (show ¬ (p < l.length ∧ t.1 = 1 ∧ labelOk t.2.2.1 = true) from fun h => k1 h.2.1), fail_eq, Option.bind_some]
      exact ⟨_, _, rfl, by dsimp only; omega⟩
   ·rw [next_end l p out (by omega), Option.bind_some]
    dsimp only
    rw [if_neg (show ¬ false = true by decide), if_neg (show ¬ false = true by decide), if_neg (show ¬ (p < l.length ∧ (l.getD p dTok).1 = 2) from fun h => hp h.1), if_neg (show ¬ (p < l.length ∧ (l.getD p dTok).1 = 1 ∧ labelOk (l.getD p dTok).2.2.1 = true) from fun h => hp h.1), fail_eq, Option.bind_some]
    exact ⟨_, _, rfl, by dsimp only; omega⟩
theorem F_all {l : List TokL} (hl : l.length ≤ 1000000) : ∀ q, q ≤ 9 → okFq l q
 | 0, _ => fun p out Q ho hQ => by
  obtain ⟨Q, rfl⟩ : ∃ Q', Q = Q' + 1 := ⟨Q - 1, by omega⟩
  exact ⟨_, _, F_deep Q l p out, by omega⟩
 | q + 1, h => F_of hl h (F_all hl q (by omega)) (S_of hl (by omega) (T_of hl (by omega) (F_all hl q (by omega))))
theorem parseX_eq (l : List TokL) (hl : l.length ≤ 1000000) (p : Nat) : expr_Parse.g l p = some (parseX l p) := by
 unfold expr_Parse.g expr_Parse.f expr_parser_sum.g
 have hr := S_of hl (by decide) (T_of hl (by decide) (F_all hl 9 (by decide))) p [] (1000 + (0 : Int).toNat + l.length + (p : Int).toNat + ([] : List Item).length + (0 : Int).toNat) (by simp; omega) (by omega)
 have hg := goodX_S (goodX_pF l 9) p
 unfold parseX
 cases hx : xS l (pF l 9) p with
 | error e =>
  rw [hx] at hr
  obtain ⟨p', out', h3, _⟩ := hr
  have hne := err_ne hg hx
  rw [show ((9 - 9 : Nat) : Int) = 0 from rfl] at h3
  rw [h3, Option.bind_some]
  dsimp only
  rw [if_neg (by simpa using hne)]
  unfold expr_Parse.j5
  rw [if_pos (by simpa using hne)]
 | ok r =>
  rw [hx] at hr
  have hr : (R (1000 + (0 : Int).toNat + l.length + (p : Int).toNat + ([] : List Item).length + (0 : Int).toNat)).expr_parser_sum ((9 - 9 : Nat) : Int) l (p : Int) [] 0 = some (l, (r.2 : Int), [] ++ r.1, 0, ()) := hr
  rw [show ((9 - 9 : Nat) : Int) = 0 from rfl] at hr
  rw [hr, Option.bind_some]
  dsimp only
  rw [if_pos (show decide ((0 : Int) = 0) = true from rfl), List.nil_append]
  by_cases h64 : 64 < r.1.length
  ·rw [if_pos (by simp; omega), if_pos h64]
   unfold expr_Parse.j5
   rw [if_pos (by decide)]
  ·rw [if_neg (by simp; omega), if_neg h64]
   unfold expr_Parse.j5
   rw [if_neg (by decide)]
end Rv
namespace Rv
open Go
def pk (kd : Int) (l : List TokL) (p : Nat) (e : Int) : Str := if e = 0 ∧ p < l.length ∧ (l.getD p dTok).1 = kd then (l.getD p dTok).2.2.1 else []
def chk (ok : Bool) (e : Int) : Int := if ok = false ∧ e = 0 then 22 else e
theorem peek_eq (kd : Int) (l : List TokL) (p : Nat) (e : Int) : stmt_parser_peek.g kd l p e = some (pk kd l p e, l, (p : Int), e, ()) := by
 unfold stmt_parser_peek.g stmt_parser_peek.f pk
 simp only [dt, df, Int.toNat_natCast]
 by_cases h : e = 0
 ·rw [if_pos (by simp [h])]
  by_cases hp : p < l.length
  ·rw [if_pos (by omega), if_pos (by omega)]
   by_cases hk : (l.getD p dTok).1 = kd
   ·rw [if_neg (by simpa using hk), if_pos (by omega), if_pos ⟨h, hp, hk⟩]
   ·rw [if_pos (by simpa using hk), if_neg (fun g => hk g.2.2)]
  ·rw [if_neg (by omega), if_neg (fun g => hp g.2.1)]
 ·rw [if_neg (by simp [h]), if_neg (fun g => h g.1)]
theorem take_eq (kd : Int) (l : List TokL) (p : Nat) (e : Int) (hp : p ≤ 9000000) : stmt_parser_take.g kd l p e = some (pk kd l p e, l, ((p + 1 : Nat) : Int), e, ()) := by
 unfold stmt_parser_take.g stmt_parser_take.f
 rw [peek_eq, Option.bind_some]
 dsimp only
 rw [w64 (by omega)]
 rfl
theorem check_eq (ok : Bool) (l : List TokL) (p : Int) (e : Int) : stmt_parser_check.g ok l p e = some (l, p, chk ok e, ()) := by
 unfold stmt_parser_check.g stmt_parser_check.f chk
 cases ok
 ·by_cases h : e = 0
  ·rw [if_pos (show (!false) = true from rfl), if_pos (by simp [h]), if_pos ⟨rfl, h⟩]
  ·rw [if_pos (show (!false) = true from rfl), if_neg (by simp [h]), if_neg (fun g => h g.2)]
 ·rw [if_neg (by decide), if_neg (fun g => by cases g.1)]
theorem pk_len {l : List TokL} (hl : ∀ t ∈ l, t.2.2.1.length ≤ 1000000) (kd : Int) (p : Nat) (e : Int) : (pk kd l p e).length ≤ 1000000 := by
 unfold pk
 split
 ·rename_i h; exact hl _ (getD_memT h.2.1)
 ·simp
def chK (l : List TokL) (p : Nat) (e : Int) (s : Sm) : Int :=
 if s.k = 1 ∧ ((regOf (pk 1 l p e)).2 = false ∨ (s.u = true ∧ s.o = 0)) then 2 else if s.k = 7 ∧ (regOf (pk 1 l p e)).2 = true then 6 else s.k
abbrev smR (l : List TokL) (p : Nat) (e : Int) (s : Sm) : List TokL × Int × Int × Int × Int × Int × Int × Int × Bool × List Item × Str × Unit := (l, (p : Int), e, s.k, s.o, s.a, s.b, s.c, s.u, s.e, s.nm, ())
theorem choose_eq {l : List TokL} (hl : ∀ t ∈ l, t.2.2.1.length ≤ 1000000) (p : Nat) (e : Int) (s : Sm) : stmt_parser_choose.g l p e s.k s.o s.a s.b s.c s.u s.e s.nm = some (smR l p e { s with k := chK l p e s }) := by
 unfold stmt_parser_choose.g stmt_parser_choose.f chK
 rw [peek_eq, Option.bind_some]
 dsimp only
 rw [reg_eq _ (pk_len hl 1 p e), Option.bind_some]
 dsimp only
 generalize (regOf (pk 1 l p e)).2 = is
 simp only [dt]
 by_cases h1 : s.k = 1
 ·rw [if_pos h1]
  cases is
  ·rw [if_neg (by decide), if_pos ⟨h1, .inl rfl⟩]
  ·rw [if_pos (by decide)]
   by_cases hu : s.u = true
   ·rw [if_pos hu]
    by_cases ho : s.o = 0
    ·rw [if_pos ho, if_pos ⟨h1, .inr ⟨hu, ho⟩⟩]
    ·rw [if_neg ho, if_neg (by omega), if_neg (fun g => by rcases g.2 with g | g; cases g; exact ho g.2), if_neg (fun g => by omega)]
   ·rw [if_neg hu, if_neg (by omega), if_neg (fun g => by rcases g.2 with g | g; cases g; exact hu g.1), if_neg (fun g => by omega)]
 ·have hm : (if s.k = 1 ∧ (is = false ∨ (s.u = true ∧ s.o = 0)) then (2 : Int) else if s.k = 7 ∧ is = true then 6 else s.k) = if s.k = 7 ∧ is = true then 6 else s.k := if_neg (fun g => h1 g.1)
  rw [if_neg h1, hm]
  by_cases h7 : s.k = 7
  ·rw [if_pos h7]
   cases is
   ·rw [if_neg (by decide), if_neg (fun g => by cases g.2)]
   ·rw [if_pos rfl, if_pos ⟨h7, rfl⟩]
  ·have hm2 : (if s.k = 7 ∧ is = true then (6 : Int) else s.k) = s.k := if_neg (fun g => h7 g.1)
   rw [if_neg h7, hm2]
def rdE (l : List TokL) (p : Nat) (e : Int) (s : Sm) : Nat × Int × Sm := if e = 0 then ((parseX l p).2.1.toNat, (parseX l p).2.2.1, { s with e := (parseX l p).1 }) else (p, e, s)
def rd (l : List TokL) (p : Nat) (e : Int) (s : Sm) : Od → Nat × Int × Sm
 | .A => (p + 1, chk (regOf (pk 1 l p e)).2 e, { s with a := (regOf (pk 1 l p e)).1 })
 | .B => (p + 1, chk (regOf (pk 1 l p e)).2 e, { s with b := (regOf (pk 1 l p e)).1 })
 | .C => (p + 1, chk (regOf (pk 1 l p e)).2 e, { s with c := (regOf (pk 1 l p e)).1 })
 | .E => rdE l p e s
 | .Q => rdE l (p + 1) (chk (decide (pk 3 l p e = [61])) e) s
 | .N => (p + 1, chk (nameOk (pk 1 l p e)) e, { s with nm := pk 1 l p e })
abbrev smO (l : List TokL) (r : Nat × Int × Sm) := smR l r.1 r.2.1 r.2.2
theorem parseX_nn (l : List TokL) (p : Nat) : (parseX l p).2.1 = ((parseX l p).2.1.toNat : Int) ∧ (parseX l p).2.1.toNat ≤ l.length := by
 unfold parseX
 have hg := goodX_S (goodX_pF l 9) p
 cases hx : xS l (pF l 9) p with
 | error e => exact ⟨rfl, Nat.zero_le _⟩
 | ok r =>
  rw [hx] at hg
  have := hg.le
  dsimp only
  split
  ·exact ⟨rfl, Nat.zero_le _⟩
  ·exact ⟨by dsimp only; omega, by dsimp only; omega⟩
section
variable {l : List TokL} (hl0 : l.length ≤ 1000000) (hl : ∀ t ∈ l, t.2.2.1.length ≤ 1000000)
include hl0 in
theorem j2_eq (n p : Nat) (e : Int) (s : Sm) : stmt_number_1.j2 n l p e s.k s.o s.a s.b s.c s.u s.e s.nm = some (smO l (rdE l p e s)) := by
 unfold stmt_number_1.j2 rdE
 simp only [dt]
 by_cases h : e = 0
 ·rw [if_pos h, if_pos h, parseX_eq l hl0 p, Option.bind_some]
  have := (parseX_nn l p).1
  show some (l, (parseX l p).2.1, _) = some (l, ((parseX l p).2.1.toNat : Int), _)
  rw [← this]
 ·rw [if_neg h, if_neg h]
include hl in
theorem reg1_eq (p : Nat) (hp : p ≤ 9000000) (e : Int) (s : Sm) (d : Od) (f : Fn) (hd : (d = .A ∧ f = K.atA) ∨ (d = .B ∧ f = K.atB) ∨ (d = .C ∧ f = K.atC)) : stmt_register_1.g f l p e s.k s.o s.a s.b s.c s.u s.e s.nm = some (smO l (rd l p e s d)) := by
 unfold stmt_register_1.g stmt_register_1.f
 rw [take_eq 1 l p e hp, Option.bind_some]
 dsimp only
 rw [reg_eq _ (pk_len hl 1 p e), Option.bind_some]
 dsimp only
 rw [check_eq, Option.bind_some]
 dsimp only
 rcases hd with ⟨rfl, rfl⟩ | ⟨rfl, rfl⟩ | ⟨rfl, rfl⟩
 ·rw [if_pos rfl]; rfl
 ·rw [if_neg (by decide), if_pos rfl]; rfl
 ·rw [if_neg (by decide), if_neg (by decide), if_pos rfl]; rfl
include hl0 in
theorem num1_eq (p : Nat) (hp : p ≤ 9000000) (e : Int) (s : Sm) : stmt_number_1.g [] l p e s.k s.o s.a s.b s.c s.u s.e s.nm = some (smO l (rd l p e s .E)) ∧ stmt_number_1.g [61] l p e s.k s.o s.a s.b s.c s.u s.e s.nm = some (smO l (rd l p e s .Q)) := by
 constructor
 ·unfold stmt_number_1.g stmt_number_1.f
  rw [if_neg (by decide)]
  exact j2_eq hl0 _ p e s
 ·unfold stmt_number_1.g stmt_number_1.f
  rw [if_pos (by decide), take_eq 3 l p e hp, Option.bind_some]
  dsimp only
  rw [check_eq, Option.bind_some]
  exact j2_eq hl0 _ (p + 1) _ s
theorem nam1_eq (p : Nat) (hp : p ≤ 9000000) (e : Int) (s : Sm) : stmt_operands_4.g l p e s.k s.o s.a s.b s.c s.u s.e s.nm = some (smO l (rd l p e s .N)) := by
 unfold stmt_operands_4.g stmt_operands_4.f
 rw [take_eq 1 l p e hp, Option.bind_some]
 dsimp only
 rw [lename_eq, Option.bind_some]
 dsimp only
 rw [check_eq, Option.bind_some]
 rfl
def stepR (l : List TokL) (op : Int) (many i p : Nat) (e : Int) (s : Sm) : Nat × Int × Sm :=
 let p1 := if 0 < i then p + 1 else p
 let e1 := if 0 < i then chk (decide (pk 3 l p e = [44])) e else e
 let s1 := if i + 1 = many then { s with k := chK l p1 e1 s } else s
 match (odL s1.k op)[i]? with
 | some d => rd l p1 e1 s1 d
 | none => (p1, e1, s1)
def loopR (l : List TokL) (op : Int) (many : Nat) : Nat → Nat → Nat × Int × Sm → Nat × Int × Sm
 | 0, _, r => r
 | m + 1, i, r => loopR l op many m (i + 1) (stepR l op many i r.1 r.2.1 r.2.2)
abbrev PR := Str × Int × Int × Int × Int × Int × Bool × List Item × Str × Int × Unit
def outR (lb : Str) (e : Int) (s : Sm) : PR := if e ≠ 0 then ([], 0, 0, 0, 0, 0, false, [], [], e, ()) else (lb, s.k, s.o, s.a, s.b, s.c, s.u, s.e, s.nm, 0, ())
def finR (l : List TokL) (lb : Str) (r : Nat × Int × Sm) : PR := outR lb (chk (decide (l.length ≤ r.1)) r.2.1) r.2.2
theorem chK_len (p : Nat) (e : Int) (s : Sm) (op : Int) : (odL (chK l p e s) op).length = (odL s.k op).length := by
 unfold chK
 split
 ·rename_i h
  rw [h.1]
  unfold odL
  split <;> (first | contradiction | skip) <;> simp <;> split <;> rfl
 ·split
  ·rename_i h; rw [h.1]; rfl
  ·rfl
theorem rd_k (p : Nat) (e : Int) (s : Sm) (d : Od) : (rd l p e s d).2.2.k = s.k := by
 have h : ∀ p e, (rdE l p e s).2.2.k = s.k := fun p e => by unfold rdE; split <;> rfl
 cases d <;> first | rfl | exact h _ _
theorem rd_p (p : Nat) (e : Int) (s : Sm) (d : Od) : (rd l p e s d).1 ≤ max (p + 1) l.length := by
 have h : ∀ p e, (rdE l p e s).1 ≤ max p l.length := fun p e => by
  unfold rdE
  have := (parseX_nn l p).2
  split <;> dsimp only <;> omega
 cases d with
 | A => show p + 1 ≤ _; omega
 | B => show p + 1 ≤ _; omega
 | C => show p + 1 ≤ _; omega
 | N => show p + 1 ≤ _; omega
 | E => have := h p e; show (rdE l p e s).1 ≤ _; omega
 | Q => exact h (p + 1) _
theorem step_k (op : Int) (many i p : Nat) (e : Int) (s : Sm) : (odL (stepR l op many i p e s).2.2.k op).length = (odL s.k op).length := by
 unfold stepR
 dsimp only
 split
 ·rw [rd_k]; split
  ·exact chK_len _ _ s op
  ·rfl
 ·dsimp only; split
  ·exact chK_len _ _ s op
  ·rfl
theorem step_p (op : Int) (many i p : Nat) (e : Int) (s : Sm) : (stepR l op many i p e s).1 ≤ max (p + 2) l.length := by
 unfold stepR
 dsimp only
 generalize hp1 : (if 0 < i then p + 1 else p) = p1
 have h1 : p1 ≤ p + 1 := by rw [← hp1]; split <;> omega
 generalize (if 0 < i then chk (decide (pk 3 l p e = [44])) e else e) = e1
 split
 ·have := rd_p (l := l) p1 e1 (if i + 1 = many then { s with k := chK l p1 e1 s } else s) ‹Od›
  omega
 ·dsimp only; omega
include hl0 hl in
theorem j19_eq (n : Nat) (rl) (lb : Str) (op : Int) (many i : Nat) (p : Nat) (hp : p ≤ 9000000) (e : Int) (s : Sm) (d : Od) (hd : (odL s.k op)[i]? = some d) :
  stmt_Parse.j19 n rl l lb op (many : Int) (i : Int) (many : Int) (i : Int) s.k s.o s.a s.b s.c s.u s.e s.nm l p e =
   stmt_Parse.j20 n rl l lb op (many : Int) (many : Int) (i : Int) (rd l p e s d).2.2.k (rd l p e s d).2.2.o (rd l p e s d).2.2.a (rd l p e s d).2.2.b (rd l p e s d).2.2.c (rd l p e s d).2.2.u (rd l p e s d).2.2.e (rd l p e s d).2.2.nm l (rd l p e s d).1 (rd l p e s d).2.1 := by
 unfold stmt_Parse.j19
 have hi : i < (odL s.k op).length := by
  rcases Nat.lt_or_ge i (odL s.k op).length with h | h
  ·exact h
  ·rw [List.getElem?_eq_none h] at hd; cases hd
 have hg : ((odL s.k op).map odF).getD ((i : Int)).toNat (((0, []) : Fn), (((0, []) : Fn), ())) = odF d := by
  rw [Int.toNat_natCast, List.getD_eq_getElem?_getD, List.getElem?_map, hd]; rfl
 rw [opsR_eq, hg, if_pos (by rw [List.length_map]; omega)]
 cases d with
 | A =>
  show (if K.rdA = K.rdA then _ else _) = _
  rw [if_pos rfl, reg1_eq hl p hp e s .A _ (.inl ⟨rfl, rfl⟩), Option.bind_some]
 | B =>
  show (if K.rdB = K.rdA then _ else if K.rdB = K.rdB then _ else _) = _
  rw [if_neg (by decide), if_pos rfl, reg1_eq hl p hp e s .B _ (.inr (.inl ⟨rfl, rfl⟩)), Option.bind_some]
 | C =>
  show (if K.rdC = K.rdA then _ else if K.rdC = K.rdB then _ else if K.rdC = K.rdC then _ else _) = _
  rw [if_neg (by decide), if_neg (by decide), if_pos rfl, reg1_eq hl p hp e s .C _ (.inr (.inr ⟨rfl, rfl⟩)), Option.bind_some]
 | E =>
  show (if K.rdE = K.rdA then _ else if K.rdE = K.rdB then _ else if K.rdE = K.rdC then _ else if K.rdE = K.rdE then _ else _) = _
  rw [if_neg (by decide), if_neg (by decide), if_neg (by decide), if_pos rfl, (num1_eq hl0 p hp e s).1, Option.bind_some]
 | Q =>
  show (if K.rdQ = K.rdA then _ else if K.rdQ = K.rdB then _ else if K.rdQ = K.rdC then _ else if K.rdQ = K.rdE then _ else if K.rdQ = K.rdQ then _ else _) = _
  rw [if_neg (by decide), if_neg (by decide), if_neg (by decide), if_neg (by decide), if_pos rfl, (num1_eq hl0 p hp e s).2, Option.bind_some]
 | N =>
  show (if K.rdN = K.rdA then _ else if K.rdN = K.rdB then _ else if K.rdN = K.rdC then _ else if K.rdN = K.rdE then _ else if K.rdN = K.rdQ then _ else if K.rdN = K.rdN then _ else _) = _
  rw [if_neg (by decide), if_neg (by decide), if_neg (by decide), if_neg (by decide), if_neg (by decide), if_pos rfl, nam1_eq p hp e s, Option.bind_some]
include hl0 hl in
theorem parse_loop (n : Nat) (lb : Str) (op : Int) (many : Nat) (h3 : many ≤ 3) : ∀ (M m i : Nat) (p : Nat) (e : Int) (s : Sm), i + m = many → m < M → p ≤ 8000000 + 10 * i → (odL s.k op).length = many →
  stmt_Parse.l13 n M l lb op (many : Int) (many : Int) (i : Int) s.k s.o s.a s.b s.c s.u s.e s.nm l p e = some (finR l lb (loopR l op many m i (p, e, s))) := by
 intro M
 induction M with
 | zero => intro m i p e s _ h; omega
 | succ M ih =>
  intro m i p e s him hm hp hk
  rw [stmt_Parse.l13]
  simp only [dt]
  cases m with
  | zero =>
   rw [if_neg (by omega), check_eq, Option.bind_some]
   dsimp only [loopR]
   unfold stmt_Parse.j22 finR outR
   simp only [dt]
   have : decide ((l.length : Int) ≤ (p : Int)) = decide (l.length ≤ p) := by
    rw [Bool.eq_iff_iff, decide_eq_true_eq, decide_eq_true_eq]; omega
   rw [this]
   split <;> rfl
  | succ m =>
   rw [if_pos (by omega)]
   dsimp only [loopR]
   have hsk := step_k (l := l) op many i p e s
   have hsp := step_p (l := l) op many i p e s
   have nxt := fun h => ih m (i + 1) (stepR l op many i p e s).1 (stepR l op many i p e s).2.1 (stepR l op many i p e s).2.2 (by omega) (by omega) (by omega) h
   rw [hsk] at nxt
   have nxt := nxt hk
   have J : ∀ (p1 : Nat) (e1 : Int), p1 ≤ 9000000 → p1 = (if 0 < i then p + 1 else p) → e1 = (if 0 < i then chk (decide (pk 3 l p e = [44])) e else e) →
     stmt_Parse.j17 n (stmt_Parse.l13 n M) l lb op (many : Int) (i : Int) (many : Int) (i : Int) s.k s.o s.a s.b s.c s.u s.e s.nm l p1 e1 = some (finR l lb (loopR l op many m (i + 1) (stepR l op many i p e s))) := by
    intro p1 e1 hp1 hp1' he1'
    have fin : ∀ s1 : Sm, s1 = (if i + 1 = many then { s with k := chK l p1 e1 s } else s) → stmt_Parse.j19 n (stmt_Parse.l13 n M) l lb op (many : Int) (i : Int) (many : Int) (i : Int) s1.k s1.o s1.a s1.b s1.c s1.u s1.e s1.nm l p1 e1 = some (finR l lb (loopR l op many m (i + 1) (stepR l op many i p e s))) := by
     intro s1 hs1
     have hlen : (odL s1.k op).length = many := by
      rw [hs1]
      split
      ·rw [← hk]; exact chK_len _ _ s op
      ·exact hk
     obtain ⟨d, hd⟩ : ∃ d, (odL s1.k op)[i]? = some d := ⟨_, List.getElem?_eq_getElem (by omega)⟩
     have hst : stepR l op many i p e s = rd l p1 e1 s1 d := by
      unfold stepR
      dsimp only
      rw [← hp1', ← he1', ← hs1, hd]
     rw [j19_eq hl0 hl n _ lb op many i p1 hp1 e1 s1 d hd, ← hst]
     unfold stmt_Parse.j20
     rw [w64 (by omega), show (i : Int) + 1 = ((i + 1 : Nat) : Int) by omega]
     exact nxt
    unfold stmt_Parse.j17
    simp only [dt]
    have hw : IntKind.i64.wrap ((many : Int) - 1) = (many : Int) - 1 := w64 (by omega)
    rw [hw]
    by_cases hlast : i + 1 = many
    ·rw [if_pos (by omega), choose_eq hl p1 e1 s, Option.bind_some]
     exact fin { s with k := chK l p1 e1 s } (by rw [if_pos hlast])
    ·rw [if_neg (by omega)]
     exact fin s (by rw [if_neg hlast])
   by_cases h0 : 0 < i
   ·rw [if_pos (by omega), take_eq 3 l p e (by omega), Option.bind_some]
    dsimp only
    rw [check_eq, Option.bind_some]
    exact J (p + 1) _ (by omega) (by rw [if_pos h0]) (by rw [if_pos h0])
   ·rw [if_neg (by omega)]
    exact J p e (by omega) (by rw [if_neg h0]) (by rw [if_neg h0])
def headR (l : List TokL) (lb : Str) (p : Nat) (e : Int) : PR :=
 if e = 0 ∧ p < l.length then
  let t := l.getD p dTok
  let w := L.ofR t.2.2.1
  let ok := w.2.2.2.1 && (decide (t.1 = 4) == decide (w.1 = 9 ∨ w.1 = 10)) && (decide (t.1 = 4) || decide (t.1 = 1))
  finR l lb (loopR l w.2.1 (odL w.1 w.2.1).length (odL w.1 w.2.1).length 0 (p + 1, chk ok e, ⟨w.1, w.2.1, 0, 0, 0, w.2.2.1, [], []⟩))
 else outR lb e ⟨0, 0, 0, 0, 0, false, [], []⟩
def parseS (l : List TokL) : PR :=
 if 1 < l.length ∧ (l.getD 0 dTok).1 = 1 ∧ isSg l 1 58 = true then headR l (l.getD 0 dTok).2.2.1 2 (chk (labelOk (l.getD 0 dTok).2.2.1) 0) else headR l [] 0 0
include hl0 hl in
theorem head_ok (n : Nat) (hn : 10 ≤ n) (lb : Str) (p : Nat) (hp : p ≤ 2) (e : Int) : stmt_Parse.j5 n l lb 0 0 0 0 0 false [] [] l p e = some (headR l lb p e) := by
 unfold stmt_Parse.j5 headR
 simp only [dt]
 by_cases he : e = 0
 ·rw [if_pos he]
  by_cases hp' : p < l.length
  ·rw [if_pos (by omega), if_pos (by omega), if_pos ⟨he, hp'⟩, Int.toNat_natCast]
   unfold L.nameOfO
   rw [Option.bind_some]
   generalize l.getD p dTok = t
   generalize L.ofR t.2.2.1 = w
   have J9 : ∀ ok : Bool, stmt_Parse.j9 n l lb w.1 w.2.1 w.2.2.1 0 0 0 0 0 false [] [] l (p : Int) (chk ok e) = some (finR l lb (loopR l w.2.1 (odL w.1 w.2.1).length (odL w.1 w.2.1).length 0 (p + 1, chk ok e, ⟨w.1, w.2.1, 0, 0, 0, w.2.2.1, [], []⟩))) := fun ok => by
    unfold stmt_Parse.j9
    have hlen : ((L.opsR w.1 w.2.1).length : Int) = ((odL w.1 w.2.1).length : Int) := by rw [opsR_eq, List.length_map]
    rw [hlen, w64 (by omega)]
    have h3 := odL_len w.1 w.2.1
    exact parse_loop hl0 hl n lb w.2.1 (odL w.1 w.2.1).length h3 n (odL w.1 w.2.1).length 0 (p + 1) (chk ok e) ⟨w.1, w.2.1, 0, 0, 0, w.2.2.1, [], []⟩ (by omega) (by omega) (by omega) rfl
   cases hok : w.2.2.2.1 with
   | false =>
    rw [if_neg (by decide), check_eq, Option.bind_some]
    exact J9 false
   | true =>
    rw [if_pos rfl, dotted_eq, Option.bind_some]
    dsimp only
    cases hq : (decide (t.1 = 4) == decide (w.1 = 9 ∨ w.1 = 10)) with
    | false =>
     rw [if_neg (by decide), check_eq, Option.bind_some]
     exact J9 false
    | true =>
     rw [if_pos rfl]
     by_cases h4 : t.1 = 4
     ·rw [if_neg (by simp [h4]), check_eq, Option.bind_some, decide_eq_true h4]
      exact J9 true
     ·rw [if_pos (by simp [h4]), check_eq, Option.bind_some, decide_eq_false h4]
      exact J9 _
  ·rw [if_neg (by omega), if_neg (fun g => hp' g.2)]
   unfold stmt_Parse.j22 outR
   simp only [dt]
   split <;> rfl
 ·rw [if_neg he, if_neg (fun g => he g.1)]
  unfold stmt_Parse.j22 outR
  simp only [dt]
  split <;> rfl
include hl0 hl in
theorem parse_eq' : stmt_Parse.g l = some (parseS l) := by
 unfold stmt_Parse.g
 have hn : 10 ≤ 1000 + l.length := by omega
 generalize 1000 + l.length = n at hn
 unfold stmt_Parse.f parseS
 have H := head_ok hl0 hl n hn
 have H0 := H [] 0 (by decide) 0
 rw [show ((0 : Nat) : Int) = 0 from rfl] at H0
 simp only [dt]
 have t0 : ((0 : Int)).toNat = 0 := rfl
 have t1 : ((1 : Int)).toNat = 1 := rfl
 rw [t0, t1]
 by_cases h1 : 1 < l.length
 ·rw [if_pos (by omega), if_pos (by omega)]
  by_cases k0 : (l.getD 0 dTok).1 = 1
  ·rw [if_pos k0, if_pos (by omega)]
   by_cases k1 : (l.getD 1 dTok).1 = 3
   ·rw [if_pos k1, if_pos (by omega)]
    by_cases k2 : (l.getD 1 dTok).2.2.1 = [58]
    ·rw [if_pos k2, if_pos (by omega), label_eq, Option.bind_some]
     dsimp only
     rw [check_eq, Option.bind_some, if_pos ⟨h1, k0, isSg_iff.2 ⟨h1, k1, k2⟩⟩]
     exact H _ 2 (by decide) _
    ·rw [if_neg k2, if_neg (fun g => k2 (isSg_iff.1 g.2.2).2.2)]; exact H0
   ·rw [if_neg k1, if_neg (fun g => k1 (isSg_iff.1 g.2.2).2.1)]; exact H0
  ·rw [if_neg k0, if_neg (fun g => k0 g.2.1)]; exact H0
 ·rw [if_neg (by omega), if_neg (fun g => h1 g.1)]; exact H0
end
end Rv
namespace Rv
open Go
end Rv
namespace Rv
open Go
def noP (e : Int) : PR := ([], 0, 0, 0, 0, 0, false, [], [], e, ())
end Rv
namespace Rv
open Go
theorem same_refl (s : Sm) (he : s.e.length ≤ 1000) : rivetref17_Same.g s.k s.o s.a s.b s.c s.u s.e s.nm s.k s.o s.a s.b s.c s.u s.e s.nm = some (true, ()) := by
 unfold rivetref17_Same.g
 generalize 1000 + _ + _ + _ + _ + _ + _ + _ + _ + _ + _ + _ + _ + _ + _ = n
 unfold rivetref17_Same.f rivetref17_Instr.g rivetref17_Instr.f
 rw [Option.bind_some, Option.bind_some, sameE_refl s.e he, if_pos (by simp), Option.bind_some, if_pos rfl]
 simp
end Rv
namespace Rv
open Go
def linesR : Str → List Str
 | [] => []
 | b :: s => if b = 10 then [] :: linesR s else match linesR s with
  | [] => [[b]]
  | l :: r => (b :: l) :: r
theorem split_ne (c : UInt8) : ∀ s, L.splitR c s ≠ []
 | [] => by simp [L.splitR]
 | b :: s => by
  rw [L.splitR]
  split
  ·simp
  ·split <;> simp
def trimR (l : List Str) : List Str := if l.getD (l.length - 1) [] = [] then l.take (l.length - 1) else l
theorem trim_cons (x : Str) {l : List Str} (h : l ≠ []) : trimR (x :: l) = x :: trimR l := by
 obtain ⟨y, r, rfl⟩ := List.exists_cons_of_ne_nil h
 unfold trimR
 have e : (x :: y :: r).getD ((x :: y :: r).length - 1) [] = (y :: r).getD ((y :: r).length - 1) [] := rfl
 rw [e]
 split
 ·rfl
 ·rfl
theorem lines_split : ∀ s : Str, trimR (L.splitR 10 s) = linesR s
 | [] => rfl
 | b :: s => by
  have ih := lines_split s
  have hne := split_ne 10 s
  rw [L.splitR, linesR]
  by_cases h : b = 10
  ·rw [if_pos h, if_pos h, trim_cons _ hne, ih]
  ·rw [if_neg h, if_neg h, ← ih]
   obtain ⟨y, r, hs⟩ := List.exists_cons_of_ne_nil hne
   rw [hs]
   dsimp only
   cases r with
   | nil =>
    have h1 : trimR [b :: y] = [b :: y] := by unfold trimR; rw [if_neg (by simp)]
    rw [h1]
    unfold trimR
    cases y with
    | nil => rfl
    | cons c t => rw [if_neg (by simp)]
   | cons z r =>
    rw [trim_cons (b :: y) (l := z :: r) (by simp), trim_cons y (l := z :: r) (by simp)]
theorem lines_nl : ∀ (x y : Str), linesR (x ++ 10 :: y) = linesR (x ++ [10]) ++ linesR y
 | [], y => by rw [List.nil_append, List.nil_append, linesR, if_pos rfl, linesR, if_pos rfl]; rfl
 | b :: x, y => by
  rw [List.cons_append, List.cons_append, linesR, linesR, lines_nl x y]
  by_cases h : b = 10
  ·rw [if_pos h, if_pos h]; rfl
  ·rw [if_neg h, if_neg h]
   cases hx : linesR (x ++ [10]) with
   | nil =>
    exfalso
    cases x with
    | nil => rw [List.nil_append, linesR, if_pos rfl] at hx; cases hx
    | cons c x =>
     rw [List.cons_append, linesR] at hx
     split at hx
     ·cases hx
     ·split at hx <;> cases hx
   | cons l r => rfl
def nls : Str → Nat
 | [] => 0
 | b :: s => (if b = 10 then 1 else 0) + nls s
theorem lines_len : ∀ x : Str, (linesR (x ++ [10])).length = nls (x ++ [10])
 | [] => rfl
 | b :: x => by
  have ih := lines_len x
  rw [List.cons_append, linesR, nls, ← ih]
  by_cases h : b = 10
  ·rw [if_pos h, if_pos h, List.length_cons]; omega
  ·rw [if_neg h, if_neg h]
   cases hx : linesR (x ++ [10]) with
   | nil =>
    exfalso
    have : 1 ≤ nls (x ++ [10]) := by
     clear ih hx
     induction x with
     | nil => decide
     | cons c x ih => rw [List.cons_append, nls]; omega
    rw [hx] at ih
    simp at ih
    omega
   | cons l r => simp
theorem lines_le : ∀ s : Str, (linesR s).length ≤ s.length ∧ ∀ l ∈ linesR s, l.length ≤ s.length
 | [] => ⟨Nat.le_refl _, fun l h => by cases h⟩
 | b :: s => by
  obtain ⟨h1, h2⟩ := lines_le s
  rw [linesR]
  split
  ·refine ⟨by simp; omega, fun l hl => ?_⟩
   rcases List.mem_cons.1 hl with rfl | hl
   ·simp
   ·have := h2 l hl; simp; omega
  ·split
   ·refine ⟨by simp, fun l hl => ?_⟩
    rw [List.mem_singleton] at hl; subst hl; simp
   ·rename_i x r hx
    rw [hx] at h1 h2
    refine ⟨by simp at h1 ⊢; omega, fun l hl => ?_⟩
    rcases List.mem_cons.1 hl with rfl | hl
    ·have := h2 x (List.mem_cons_self ..); simp; omega
    ·have := h2 l (List.mem_cons_of_mem _ hl); simp; omega
theorem lineR_text : ∀ (n : Nat) (k : Int) (s : Str) (l : List Tok), s.length ≤ n → lineR k s = .ok l → ∀ t ∈ l, t.2.2.1.length ≤ s.length
 | _, k, [], l, _, h => by rw [lineR_nil] at h; cases h; intro t ht; cases ht
 | 0, k, c :: r, l, hn, _ => by simp at hn
 | n + 1, k, c :: r, l, hn, h => by
  simp only [List.length_cons] at hn ⊢
  rw [lineR_cons] at h
  split at h
  ·cases h; intro t ht; cases ht
  ·split at h
   ·intro t ht
    have := lineR_text n (k + 1) r l (by omega) h t ht; omega
   ·split at h
    ·cases h
    ·rename_i d q tx v hT
     obtain ⟨h1, h2, _⟩ := tokAt_ok hT
     split at h
     ·cases h
     ·rename_i l' hl
      cases h
      intro t ht
      rcases List.mem_cons.1 ht with rfl | ht
      ·simp only; omega
      ·have := lineR_text n _ _ l' (by simp; omega) hl t ht
       simp at this; omega
def oneR (s : Str) : PR := let y := lineOut [] (lineR 0 s); if y.2.1 ≠ 0 then noP y.2.1 else parseS y.1
abbrev errP (p : PR) : Int := p.2.2.2.2.2.2.2.2.2.1
abbrev lnP (p : PR) : Ln := (p.1, (p.2.1, p.2.2.1, p.2.2.2.1, p.2.2.2.2.1, p.2.2.2.2.2.1, p.2.2.2.2.2.2.1, p.2.2.2.2.2.2.2.1, p.2.2.2.2.2.2.2.2.1, ()), ())
theorem toks_small {k : Int} {s : Str} (hs : s.length ≤ 1000000) : (lineOut [] (lineR k s)).1.length ≤ 1000000 := Nat.le_trans lineOut_len hs
theorem one_parse (s : Str) (hs : s.length ≤ 1000000) : stmt_Parse.g (lineOut [] (lineR 0 s)).1 = some (parseS (lineOut [] (lineR 0 s)).1) := by
 refine parse_eq' (toks_small hs) fun t ht => ?_
 have h : ∀ t ∈ (lineOut [] (lineR 0 s)).1, t.2.2.1.length ≤ s.length := by
  cases h : lineR 0 s with
  | error e => intro t ht; cases ht
  | ok l =>
   intro t ht
   have ht : t ∈ l := by simpa [lineOut] using ht
   exact lineR_text s.length 0 s l (Nat.le_refl _) h t ht
 exact Nat.le_trans (h t ht) hs
theorem one_eq (s : Str) (hs : s.length ≤ 1000000) : text_one.g s = some (oneR s) := by
 unfold text_one.g text_one.f oneR
 rw [line_eq s hs, Option.bind_some]
 generalize hy : lineOut [] (lineR 0 s) = y
 have hp := one_parse s hs
 rw [hy] at hp
 by_cases h : y.2.1 ≠ 0
 ·rw [if_pos (by simpa using h)]
  show _ = some (if _ then _ else _)
  rw [if_pos h]; rfl
 ·rw [if_neg (by simpa using h), hp, Option.bind_some]
  show _ = some (if _ then _ else _)
  rw [if_neg h]
def eachR : Nat → List Str → Except (Nat × Int) (List Ln)
 | _, [] => .ok []
 | i, s :: r => if errP (oneR s) ≠ 0 then .error (i + 1, errP (oneR s)) else match eachR (i + 1) r with
  | .error x => .error x
  | .ok l => .ok (lnP (oneR s) :: l)
def outE (out : List Ln) : Except (Nat × Int) (List Ln) → List Ln × Int × Int × Unit
 | .ok l => (out ++ l, 0, 0, ())
 | .error x => ([], (x.1 : Int), x.2, ())
theorem each_loop (l : List Str) (hl : l.length ≤ 1000000) (hs : ∀ s ∈ l, s.length ≤ 1000000) (n : Nat) : ∀ (m i : Nat) (out : List Ln), i ≤ l.length → l.length - i < m → out.length = i →
  text_each_string_api_Line.l5 n m out l (l.length : Int) (i : Int) = some (outE out (eachR i (l.drop i))) := by
 intro m
 induction m with
 | zero => intro i out _ h; omega
 | succ m ih =>
  intro i out hi hm ho
  rw [text_each_string_api_Line.l5]
  simp only [dt, Int.toNat_natCast]
  by_cases h : i < l.length
  ·have hd : l.drop i = l.getD i [] :: l.drop (i + 1) := by
    rw [List.drop_eq_getElem_cons h, List.getD_eq_getElem?_getD, List.getElem?_eq_getElem h]; rfl
   have hg : l.getD i [] ∈ l := by rw [List.getD_eq_getElem?_getD, List.getElem?_eq_getElem h]; exact List.getElem_mem h
   have W1 : IntKind.i64.wrap ((i : Int) + 1) = ((i + 1 : Nat) : Int) := by rw [w64 (by omega)]; omega
   rw [if_pos (by omega), if_pos (by omega), one_eq _ (hs _ hg), Option.bind_some, hd, eachR, W1]
   by_cases he : errP (oneR (l.getD i [])) ≠ 0
   ·rw [if_pos he, if_pos he]; rfl
   ·rw [if_neg he, if_neg he, if_pos (by simp; omega), ih (i + 1) _ (by omega) (by omega) (by simp [ho])]
    cases eachR (i + 1) (l.drop (i + 1)) with
    | error x => rfl
    | ok r => show some (_ ++ r, _) = some (_ ++ _, _); rw [List.append_assoc]; rfl
  ·obtain rfl : i = l.length := by omega
   rw [if_neg (by omega), List.drop_length, eachR]
   simp [outE]
def parseT (s : Str) : List Ln × Int × Int × Unit :=
 if 262144 < s.length then ([], 0, 2, ()) else if 4096 < (linesR s).length then ([], 0, 2, ()) else outE [] (eachR 0 (linesR s))
theorem eachs_eq (l : List Str) (hl : l.length ≤ 1000000) (hs : ∀ s ∈ l, s.length ≤ 1000000) : text_each_string_api_Line.g l = some (if 4096 < l.length then ([], 0, 2, ()) else outE [] (eachR 0 l)) := by
 unfold text_each_string_api_Line.g text_each_string_api_Line.f
 by_cases h : 4096 < l.length
 ·rw [if_pos (by simp; omega), if_pos h]
 ·rw [if_neg (by simp; omega), if_neg h]
  have := each_loop l hl hs (1000 + l.length) (1000 + l.length) 0 [] (by omega) (by omega) rfl
  rw [List.drop_zero] at this
  exact this
theorem split_len : ∀ s : Str, (L.splitR 10 s).length ≤ s.length + 1
 | [] => Nat.le_refl _
 | b :: s => by
  have := split_len s
  rw [L.splitR]
  split
  ·simp; omega
  ·split
   ·simp
   ·rename_i x r hx; rw [hx] at this; simp at this ⊢; omega
theorem parseT_eq (s : Str) (hs : s.length ≤ 1000000) : text_Parse.g s = some (parseT s) := by
 unfold text_Parse.g text_Parse.f parseT
 by_cases h : 262144 < s.length
 ·rw [if_pos (by simp; omega), if_pos h]
 ·rw [if_neg (by simp; omega), if_neg h]
  have hO : L.splitO s [10] = some (L.splitR 10 s, ()) := by unfold L.splitO; dsimp only; rw [if_pos (by omega)]
  have h1 := split_len s
  have h2 := List.length_pos_iff.2 (split_ne 10 s)
  have ht := lines_split s
  obtain ⟨g1, g2⟩ := lines_le s
  rw [hO, Option.bind_some]
  dsimp only
  generalize L.splitR 10 s = S at h1 h2 ht
  have W : IntKind.i64.wrap ((S.length : Int) - 1) = ((S.length - 1 : Nat) : Int) := by rw [w64 (by omega)]; omega
  have fin : text_Parse.j7 (1000 + s.length) (trimR S) = some (if 4096 < (linesR s).length then ([], 0, 2, ()) else outE [] (eachR 0 (linesR s))) := by
   rw [ht]
   unfold text_Parse.j7
   rw [eachs_eq _ (by omega) (fun l hl => by have := g2 l hl; omega), Option.bind_some]
  simp only [dt]
  rw [W, Int.toNat_natCast, if_pos (by omega)]
  unfold trimR at fin
  by_cases he : S.getD (S.length - 1) [] = []
  ·rw [if_pos he] at fin
   rw [if_pos he, if_pos (by omega), List.drop_zero]
   exact fin
  ·rw [if_neg he] at fin
   rw [if_neg he]
   exact fin
theorem each_app : ∀ (a b : List Str) (i : Nat), eachR i (a ++ b) = match eachR i a with
  | .error x => .error x
  | .ok l => match eachR (i + a.length) b with
   | .error x => .error x
   | .ok r => .ok (l ++ r)
 | [], b, i => by
  rw [List.nil_append, eachR]
  dsimp only [List.length_nil]
  rw [Nat.add_zero]
  cases eachR i b <;> rfl
 | s :: a, b, i => by
  rw [List.cons_append, eachR, eachR, each_app a b (i + 1)]
  by_cases h : errP (oneR s) ≠ 0
  ·rw [if_pos h, if_pos h]
  ·rw [if_neg h, if_neg h]
   cases eachR (i + 1) a with
   | error x => rfl
   | ok l =>
    dsimp only
    rw [show i + 1 + a.length = i + (s :: a).length by simp; omega]
    cases eachR (i + (s :: a).length) b <;> rfl
theorem each_shift (j : Nat) : ∀ (l : List Str) (i : Nat), eachR (j + i) l = match eachR i l with | .error x => .error (j + x.1, x.2) | .ok r => .ok r
 | [], i => rfl
 | s :: l, i => by
  rw [eachR, eachR, show j + i + 1 = j + (i + 1) by omega, each_shift j l (i + 1)]
  by_cases h : errP (oneR s) ≠ 0
  ·rw [if_pos h, if_pos h]
  ·rw [if_neg h, if_neg h]
   cases eachR (i + 1) l <;> rfl
theorem each_len : ∀ (l : List Str) (i : Nat) (r : List Ln), eachR i l = .ok r → r.length = l.length
 | [], i, r, h => by rw [eachR] at h; cases h; rfl
 | s :: l, i, r, h => by
  rw [eachR] at h
  split at h
  ·cases h
  ·cases hr : eachR (i + 1) l with
   | error x => rw [hr] at h; cases h
   | ok q => rw [hr] at h; cases h; simp [each_len l (i + 1) q hr]
theorem each_err : ∀ (l : List Str) (i : Nat) (x : Nat × Int), eachR i l = .error x → x.2 ≠ 0 ∧ i < x.1 ∧ x.1 ≤ i + l.length
 | [], i, x, h => by rw [eachR] at h; cases h
 | s :: l, i, x, h => by
  rw [eachR] at h
  split at h
  ·rename_i hne; cases h; exact ⟨hne, by simp, by simp⟩
  ·cases hr : eachR (i + 1) l with
   | error y => rw [hr] at h; cases h; have := each_err l (i + 1) _ hr; exact ⟨this.1, by omega, by simp; omega⟩
   | ok q => rw [hr] at h; cases h
theorem rdE_len {l : List TokL} {p : Nat} {e : Int} {s : Sm} (h : s.e.length ≤ 64) : (rdE l p e s).2.2.e.length ≤ 64 := by
 unfold rdE
 split
 ·unfold parseX
  split
  ·simp
  ·split
   ·simp
   ·rename_i hl; dsimp only; omega
 ·exact h
theorem rd_len {l : List TokL} {p : Nat} {e : Int} {s : Sm} (h : s.e.length ≤ 64) (d : Od) : (rd l p e s d).2.2.e.length ≤ 64 := by
 cases d with
 | E => exact rdE_len h
 | Q => exact rdE_len h
 | _ => exact h
theorem step_len {l : List TokL} {op : Int} {many i p : Nat} {e : Int} {s : Sm} (h : s.e.length ≤ 64) : (stepR l op many i p e s).2.2.e.length ≤ 64 := by
 unfold stepR
 dsimp only
 generalize hs1 : (if i + 1 = many then _ else s : Sm) = s1
 have h1 : s1.e.length ≤ 64 := by
  rw [← hs1]
  split <;> exact h
 split
 ·exact rd_len h1 _
 ·exact h1
theorem loop_len {l : List TokL} {op : Int} {many : Nat} : ∀ (m i : Nat) (r : Nat × Int × Sm), r.2.2.e.length ≤ 64 → (loopR l op many m i r).2.2.e.length ≤ 64
 | 0, _, _, h => h
 | m + 1, i, r, h => loop_len m (i + 1) _ (step_len h)
theorem out_len {lb : Str} {e : Int} {s : Sm} (h : s.e.length ≤ 64) : (outR lb e s).2.2.2.2.2.2.2.1.length ≤ 64 := by
 unfold outR
 split
 ·simp
 ·exact h
theorem head_len {l : List TokL} {lb : Str} {p : Nat} {e : Int} : (headR l lb p e).2.2.2.2.2.2.2.1.length ≤ 64 := by
 unfold headR
 split
 ·exact out_len (loop_len _ _ _ (by simp))
 ·exact out_len (by simp)
theorem parseS_len (l : List TokL) : (parseS l).2.2.2.2.2.2.2.1.length ≤ 64 := by unfold parseS; split <;> exact head_len
theorem oneR_len (s : Str) : (oneR s).2.2.2.2.2.2.2.1.length ≤ 64 := by
 unfold oneR
 dsimp only
 split
 ·simp [noP]
 ·exact parseS_len _
def shortL (x : Ln) : Prop := x.2.1.2.2.2.2.2.2.1.length ≤ 64
theorem each_short : ∀ (l : List Str) (i : Nat) (r : List Ln), eachR i l = .ok r → ∀ x ∈ r, shortL x
 | [], i, r, h => by rw [eachR] at h; cases h; intro x hx; cases hx
 | s :: l, i, r, h => by
  rw [eachR] at h
  split at h
  ·cases h
  ·cases hr : eachR (i + 1) l with
   | error x => rw [hr] at h; cases h
   | ok q =>
    rw [hr] at h; cases h
    intro x hx
    rcases List.mem_cons.1 hx with rfl | hx
    ·exact oneR_len s
    ·exact each_short l (i + 1) q hr x hx
theorem same18_refl (a : List Ln) (ha : a.length ≤ 1000000) (h : ∀ x ∈ a, shortL x) : rivetref18_Same.g a a = some (true, ()) := by
 have loop : ∀ (n m i : Nat), i ≤ a.length → a.length - i < m → rivetref18_Same.l4 n m a a (i : Int) = some (true, ()) := by
  intro n m
  induction m with
  | zero => intro i _ h; omega
  | succ m ih =>
   intro i hi hm
   rw [rivetref18_Same.l4]
   simp only [dt, df, Int.toNat_natCast]
   by_cases hlt : i < a.length
   ·have hx : shortL (a.getD i zL) := by
     refine h _ ?_
     rw [List.getD_eq_getElem?_getD, List.getElem?_eq_getElem hlt]; exact List.getElem_mem hlt
    generalize a.getD i zL = x at hx
    have hs := same_refl ⟨x.2.1.1, x.2.1.2.1, x.2.1.2.2.1, x.2.1.2.2.2.1, x.2.1.2.2.2.2.1, x.2.1.2.2.2.2.2.1, x.2.1.2.2.2.2.2.2.1, x.2.1.2.2.2.2.2.2.2.1⟩ (by have : x.2.1.2.2.2.2.2.2.1.length ≤ 64 := hx; dsimp only; omega)
    dsimp only at hs
    rw [if_pos (by omega), if_pos (by omega), if_pos (by omega), hs, Option.bind_some, if_pos (by decide), if_pos (by omega), if_pos (by omega), if_neg (by simp), w64 (by omega)]
    exact ih (i + 1) (by omega) (by omega)
   ·rw [if_neg (by omega)]
 unfold rivetref18_Same.g rivetref18_Same.f
 rw [if_neg (by simp)]
 exact loop _ _ 0 (by omega) (by omega)
end Rv
namespace Rv
open Go
theorem shown18 : rivetlaw18_shown.g = some (true, ()) := by decide +kernel
theorem few18 (s : Str) (hs : s.length ≤ 9223372036854775807) : rivetlaw18_few.g s = some (s.take 500, ()) := by
 unfold rivetlaw18_few.g rivetlaw18_few.f
 have hmn : mn (s.length : Int) 500 = ((min s.length 500 : Nat) : Int) := by unfold mn; split <;> omega
 rw [hmn, if_pos (by omega), Int.toNat_natCast, List.drop_zero]
 rcases Nat.le_total s.length 500 with h | h
 ·rw [Nat.min_eq_left h, List.take_length, List.take_of_length_le h]
 ·rw [Nat.min_eq_right h]
theorem parseT_small {s : Str} (hs : s.length ≤ 4096) : parseT s = outE [] (eachR 0 (linesR s)) := by
 unfold parseT
 have := (lines_le s).1
 rw [if_neg (by omega), if_neg (by omega)]
end Rv
