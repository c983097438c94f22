/- Texts put together, part 8 of 18. -/
import Derived.Test.YtaonefbdamklhaaGreatDoorQ7
import Derived.Test.YtaonefbdamklhaaGreatDoorQ1
set_option linter.all false
namespace Rv
open Go
def pk (kd : Int) (l : List TokL) (p : Nat) (e : Int) : Str := if e = 0 ∧ p < l.length ∧ (l.getD p dTok).1 = kd then (l.getD p dTok).2.2.1 else []
def chk (ok : Bool) (e : Int) : Int := if ok = false ∧ e = 0 then 22 else e
theorem peek_eq (kd : Int) (l : List TokL) (p : Nat) (e : Int) : stmt_parser_peek.g kd l p e = some (pk kd l p e, l, (p : Int), e, ()) := by
 unfold stmt_parser_peek.g stmt_parser_peek.f pk
 simp only [dt, df, Int.toNat_natCast]
 by_cases h : e = 0
 ·rw [if_pos (by simp [h])]
  by_cases hp : p < l.length
  ·rw [if_pos (by omega), if_pos (by omega)]
   by_cases hk : (l.getD p dTok).1 = kd
   ·rw [if_neg (by simpa using hk), if_pos (by omega), if_pos ⟨h, hp, hk⟩]
   ·rw [if_pos (by simpa using hk), if_neg (fun g => hk g.2.2)]
  ·rw [if_neg (by omega), if_neg (fun g => hp g.2.1)]
 ·rw [if_neg (by simp [h]), if_neg (fun g => h g.1)]
theorem take_eq (kd : Int) (l : List TokL) (p : Nat) (e : Int) (hp : p ≤ 9000000) : stmt_parser_take.g kd l p e = some (pk kd l p e, l, ((p + 1 : Nat) : Int), e, ()) := by
 unfold stmt_parser_take.g stmt_parser_take.f
 rw [peek_eq, Option.bind_some]
 dsimp only
 rw [w64 (by omega)]
 rfl
theorem check_eq (ok : Bool) (l : List TokL) (p : Int) (e : Int) : stmt_parser_check.g ok l p e = some (l, p, chk ok e, ()) := by
 unfold stmt_parser_check.g stmt_parser_check.f chk
 cases ok
 ·by_cases h : e = 0
  ·rw [if_pos (show (!false) = true from rfl), if_pos (by simp [h]), if_pos ⟨rfl, h⟩]
  ·rw [if_pos (show (!false) = true from rfl), if_neg (by simp [h]), if_neg (fun g => h g.2)]
 ·rw [if_neg (by decide), if_neg (fun g => by cases g.1)]
theorem pk_len {l : List TokL} (hl : ∀ t ∈ l, t.2.2.1.length ≤ 1000000) (kd : Int) (p : Nat) (e : Int) : (pk kd l p e).length ≤ 1000000 := by
 unfold pk
 split
 ·rename_i h; exact hl _ (getD_memT h.2.1)
 ·simp
def chK (l : List TokL) (p : Nat) (e : Int) (s : Sm) : Int :=
 if s.k = 1 ∧ ((regOf (pk 1 l p e)).2 = false ∨ (s.u = true ∧ s.o = 0)) then 2 else if s.k = 7 ∧ (regOf (pk 1 l p e)).2 = true then 6 else s.k
abbrev smR (l : List TokL) (p : Nat) (e : Int) (s : Sm) : List TokL × Int × Int × Int × Int × Int × Int × Int × Bool × List Item × Str × Unit := (l, (p : Int), e, s.k, s.o, s.a, s.b, s.c, s.u, s.e, s.nm, ())
theorem choose_eq {l : List TokL} (hl : ∀ t ∈ l, t.2.2.1.length ≤ 1000000) (p : Nat) (e : Int) (s : Sm) : stmt_parser_choose.g l p e s.k s.o s.a s.b s.c s.u s.e s.nm = some (smR l p e { s with k := chK l p e s }) := by
 unfold stmt_parser_choose.g stmt_parser_choose.f chK
 rw [peek_eq, Option.bind_some]
 dsimp only
 rw [reg_eq _ (pk_len hl 1 p e), Option.bind_some]
 dsimp only
 generalize (regOf (pk 1 l p e)).2 = is
 simp only [dt]
 by_cases h1 : s.k = 1
 ·rw [if_pos h1]
  cases is
  ·rw [if_neg (by decide), if_pos ⟨h1, .inl rfl⟩]
  ·rw [if_pos (by decide)]
   by_cases hu : s.u = true
   ·rw [if_pos hu]
    by_cases ho : s.o = 0
    ·rw [if_pos ho, if_pos ⟨h1, .inr ⟨hu, ho⟩⟩]
    ·rw [if_neg ho, if_neg (by omega), if_neg (fun g => by rcases g.2 with g | g; cases g; exact ho g.2), if_neg (fun g => by omega)]
   ·rw [if_neg hu, if_neg (by omega), if_neg (fun g => by rcases g.2 with g | g; cases g; exact hu g.1), if_neg (fun g => by omega)]
 ·have hm : (if s.k = 1 ∧ (is = false ∨ (s.u = true ∧ s.o = 0)) then (2 : Int) else if s.k = 7 ∧ is = true then 6 else s.k) = if s.k = 7 ∧ is = true then 6 else s.k := if_neg (fun g => h1 g.1)
  rw [if_neg h1, hm]
  by_cases h7 : s.k = 7
  ·rw [if_pos h7]
   cases is
   ·rw [if_neg (by decide), if_neg (fun g => by cases g.2)]
   ·rw [if_pos rfl, if_pos ⟨h7, rfl⟩]
  ·have hm2 : (if s.k = 7 ∧ is = true then (6 : Int) else s.k) = s.k := if_neg (fun g => h7 g.1)
   rw [if_neg h7, hm2]
def rdE (l : List TokL) (p : Nat) (e : Int) (s : Sm) : Nat × Int × Sm := if e = 0 then ((parseX l p).2.1.toNat, (parseX l p).2.2.1, { s with e := (parseX l p).1 }) else (p, e, s)
def rd (l : List TokL) (p : Nat) (e : Int) (s : Sm) : Od → Nat × Int × Sm
 | .A => (p + 1, chk (regOf (pk 1 l p e)).2 e, { s with a := (regOf (pk 1 l p e)).1 })
 | .B => (p + 1, chk (regOf (pk 1 l p e)).2 e, { s with b := (regOf (pk 1 l p e)).1 })
 | .C => (p + 1, chk (regOf (pk 1 l p e)).2 e, { s with c := (regOf (pk 1 l p e)).1 })
 | .E => rdE l p e s
 | .Q => rdE l (p + 1) (chk (decide (pk 3 l p e = [61])) e) s
 | .N => (p + 1, chk (nameOk (pk 1 l p e)) e, { s with nm := pk 1 l p e })
abbrev smO (l : List TokL) (r : Nat × Int × Sm) := smR l r.1 r.2.1 r.2.2
theorem parseX_nn (l : List TokL) (p : Nat) : (parseX l p).2.1 = ((parseX l p).2.1.toNat : Int) ∧ (parseX l p).2.1.toNat ≤ l.length := by
 unfold parseX
 have hg := goodX_S (goodX_pF l 9) p
 cases hx : xS l (pF l 9) p with
 | error e => exact ⟨rfl, Nat.zero_le _⟩
 | ok r =>
  rw [hx] at hg
  have := hg.le
  dsimp only
  split
  ·exact ⟨rfl, Nat.zero_le _⟩
  ·exact ⟨by dsimp only; omega, by dsimp only; omega⟩
section
variable {l : List TokL} (hl0 : l.length ≤ 1000000) (hl : ∀ t ∈ l, t.2.2.1.length ≤ 1000000)
include hl0 in
theorem j2_eq (n p : Nat) (e : Int) (s : Sm) : stmt_number_1.j2 n l p e s.k s.o s.a s.b s.c s.u s.e s.nm = some (smO l (rdE l p e s)) := by
 unfold stmt_number_1.j2 rdE
 simp only [dt]
 by_cases h : e = 0
 ·rw [if_pos h, if_pos h, parseX_eq l hl0 p, Option.bind_some]
  have := (parseX_nn l p).1
  show some (l, (parseX l p).2.1, _) = some (l, ((parseX l p).2.1.toNat : Int), _)
  rw [← this]
 ·rw [if_neg h, if_neg h]
include hl in
theorem reg1_eq (p : Nat) (hp : p ≤ 9000000) (e : Int) (s : Sm) (d : Od) (f : Fn) (hd : (d = .A ∧ f = K.atA) ∨ (d = .B ∧ f = K.atB) ∨ (d = .C ∧ f = K.atC)) : stmt_register_1.g f l p e s.k s.o s.a s.b s.c s.u s.e s.nm = some (smO l (rd l p e s d)) := by
 unfold stmt_register_1.g stmt_register_1.f
 rw [take_eq 1 l p e hp, Option.bind_some]
 dsimp only
 rw [reg_eq _ (pk_len hl 1 p e), Option.bind_some]
 dsimp only
 rw [check_eq, Option.bind_some]
 dsimp only
 rcases hd with ⟨rfl, rfl⟩ | ⟨rfl, rfl⟩ | ⟨rfl, rfl⟩
 ·rw [if_pos rfl]; rfl
 ·rw [if_neg (by decide), if_pos rfl]; rfl
 ·rw [if_neg (by decide), if_neg (by decide), if_pos rfl]; rfl
include hl0 in
theorem num1_eq (p : Nat) (hp : p ≤ 9000000) (e : Int) (s : Sm) : stmt_number_1.g [] l p e s.k s.o s.a s.b s.c s.u s.e s.nm = some (smO l (rd l p e s .E)) ∧ stmt_number_1.g [61] l p e s.k s.o s.a s.b s.c s.u s.e s.nm = some (smO l (rd l p e s .Q)) := by
 constructor
 ·unfold stmt_number_1.g stmt_number_1.f
  rw [if_neg (by decide)]
  exact j2_eq hl0 _ p e s
 ·unfold stmt_number_1.g stmt_number_1.f
  rw [if_pos (by decide), take_eq 3 l p e hp, Option.bind_some]
  dsimp only
  rw [check_eq, Option.bind_some]
  exact j2_eq hl0 _ (p + 1) _ s
theorem nam1_eq (p : Nat) (hp : p ≤ 9000000) (e : Int) (s : Sm) : stmt_operands_4.g l p e s.k s.o s.a s.b s.c s.u s.e s.nm = some (smO l (rd l p e s .N)) := by
 unfold stmt_operands_4.g stmt_operands_4.f
 rw [take_eq 1 l p e hp, Option.bind_some]
 dsimp only
 rw [lename_eq, Option.bind_some]
 dsimp only
 rw [check_eq, Option.bind_some]
 rfl
def stepR (l : List TokL) (op : Int) (many i p : Nat) (e : Int) (s : Sm) : Nat × Int × Sm :=
 let p1 := if 0 < i then p + 1 else p
 let e1 := if 0 < i then chk (decide (pk 3 l p e = [44])) e else e
 let s1 := if i + 1 = many then { s with k := chK l p1 e1 s } else s
 match (odL s1.k op)[i]? with
 | some d => rd l p1 e1 s1 d
 | none => (p1, e1, s1)
def loopR (l : List TokL) (op : Int) (many : Nat) : Nat → Nat → Nat × Int × Sm → Nat × Int × Sm
 | 0, _, r => r
 | m + 1, i, r => loopR l op many m (i + 1) (stepR l op many i r.1 r.2.1 r.2.2)
abbrev PR := Str × Int × Int × Int × Int × Int × Bool × List Item × Str × Int × Unit
def outR (lb : Str) (e : Int) (s : Sm) : PR := if e ≠ 0 then ([], 0, 0, 0, 0, 0, false, [], [], e, ()) else (lb, s.k, s.o, s.a, s.b, s.c, s.u, s.e, s.nm, 0, ())
def finR (l : List TokL) (lb : Str) (r : Nat × Int × Sm) : PR := outR lb (chk (decide (l.length ≤ r.1)) r.2.1) r.2.2
theorem chK_len (p : Nat) (e : Int) (s : Sm) (op : Int) : (odL (chK l p e s) op).length = (odL s.k op).length := by
 unfold chK
 split
 ·rename_i h
  rw [h.1]
  unfold odL
  split <;> (first | contradiction | skip) <;> simp <;> split <;> rfl
 ·split
  ·rename_i h; rw [h.1]; rfl
  ·rfl
theorem rd_k (p : Nat) (e : Int) (s : Sm) (d : Od) : (rd l p e s d).2.2.k = s.k := by
 have h : ∀ p e, (rdE l p e s).2.2.k = s.k := fun p e => by unfold rdE; split <;> rfl
 cases d <;> first | rfl | exact h _ _
theorem rd_p (p : Nat) (e : Int) (s : Sm) (d : Od) : (rd l p e s d).1 ≤ max (p + 1) l.length := by
 have h : ∀ p e, (rdE l p e s).1 ≤ max p l.length := fun p e => by
  unfold rdE
  have := (parseX_nn l p).2
  split <;> dsimp only <;> omega
 cases d with
 | A => show p + 1 ≤ _; omega
 | B => show p + 1 ≤ _; omega
 | C => show p + 1 ≤ _; omega
 | N => show p + 1 ≤ _; omega
 | E => have := h p e; show (rdE l p e s).1 ≤ _; omega
 | Q => exact h (p + 1) _
theorem step_k (op : Int) (many i p : Nat) (e : Int) (s : Sm) : (odL (stepR l op many i p e s).2.2.k op).length = (odL s.k op).length := by
 unfold stepR
 dsimp only
 split
 ·rw [rd_k]; split
  ·exact chK_len _ _ s op
  ·rfl
 ·dsimp only; split
  ·exact chK_len _ _ s op
  ·rfl
theorem step_p (op : Int) (many i p : Nat) (e : Int) (s : Sm) : (stepR l op many i p e s).1 ≤ max (p + 2) l.length := by
 unfold stepR
 dsimp only
 generalize hp1 : (if 0 < i then p + 1 else p) = p1
 have h1 : p1 ≤ p + 1 := by rw [← hp1]; split <;> omega
 generalize (if 0 < i then chk (decide (pk 3 l p e = [44])) e else e) = e1
 split
 ·have := rd_p (l := l) p1 e1 (if i + 1 = many then { s with k := chK l p1 e1 s } else s) ‹Od›
  omega
 ·dsimp only; omega
include hl0 hl in
theorem j19_eq (n : Nat) (rl) (lb : Str) (op : Int) (many i : Nat) (p : Nat) (hp : p ≤ 9000000) (e : Int) (s : Sm) (d : Od) (hd : (odL s.k op)[i]? = some d) :
  stmt_Parse.j19 n rl l lb op (many : Int) (i : Int) (many : Int) (i : Int) s.k s.o s.a s.b s.c s.u s.e s.nm l p e =
   stmt_Parse.j20 n rl l lb op (many : Int) (many : Int) (i : Int) (rd l p e s d).2.2.k (rd l p e s d).2.2.o (rd l p e s d).2.2.a (rd l p e s d).2.2.b (rd l p e s d).2.2.c (rd l p e s d).2.2.u (rd l p e s d).2.2.e (rd l p e s d).2.2.nm l (rd l p e s d).1 (rd l p e s d).2.1 := by
 unfold stmt_Parse.j19
 have hi : i < (odL s.k op).length := by
  rcases Nat.lt_or_ge i (odL s.k op).length with h | h
  ·exact h
  ·rw [List.getElem?_eq_none h] at hd; cases hd
 have hg : ((odL s.k op).map odF).getD ((i : Int)).toNat (((0, []) : Fn), (((0, []) : Fn), ())) = odF d := by
  rw [Int.toNat_natCast, List.getD_eq_getElem?_getD, List.getElem?_map, hd]; rfl
 rw [opsR_eq, hg, if_pos (by rw [List.length_map]; omega)]
 cases d with
 | A =>
  show (if K.rdA = K.rdA then _ else _) = _
  rw [if_pos rfl, reg1_eq hl p hp e s .A _ (.inl ⟨rfl, rfl⟩), Option.bind_some]
 | B =>
  show (if K.rdB = K.rdA then _ else if K.rdB = K.rdB then _ else _) = _
  rw [if_neg (by decide), if_pos rfl, reg1_eq hl p hp e s .B _ (.inr (.inl ⟨rfl, rfl⟩)), Option.bind_some]
 | C =>
  show (if K.rdC = K.rdA then _ else if K.rdC = K.rdB then _ else if K.rdC = K.rdC then _ else _) = _
  rw [if_neg (by decide), if_neg (by decide), if_pos rfl, reg1_eq hl p hp e s .C _ (.inr (.inr ⟨rfl, rfl⟩)), Option.bind_some]
 | E =>
  show (if K.rdE = K.rdA then _ else if K.rdE = K.rdB then _ else if K.rdE = K.rdC then _ else if K.rdE = K.rdE then _ else _) = _
  rw [if_neg (by decide), if_neg (by decide), if_neg (by decide), if_pos rfl, (num1_eq hl0 p hp e s).1, Option.bind_some]
 | Q =>
  show (if K.rdQ = K.rdA then _ else if K.rdQ = K.rdB then _ else if K.rdQ = K.rdC then _ else if K.rdQ = K.rdE then _ else if K.rdQ = K.rdQ then _ else _) = _
  rw [if_neg (by decide), if_neg (by decide), if_neg (by decide), if_neg (by decide), if_pos rfl, (num1_eq hl0 p hp e s).2, Option.bind_some]
 | N =>
  show (if K.rdN = K.rdA then _ else if K.rdN = K.rdB then _ else if K.rdN = K.rdC then _ else if K.rdN = K.rdE then _ else if K.rdN = K.rdQ then _ else if K.rdN = K.rdN then _ else _) = _
  rw [if_neg (by decide), if_neg (by decide), if_neg (by decide), if_neg (by decide), if_neg (by decide), if_pos rfl, nam1_eq p hp e s, Option.bind_some]
include hl0 hl in
theorem parse_loop (n : Nat) (lb : Str) (op : Int) (many : Nat) (h3 : many ≤ 3) : ∀ (M m i : Nat) (p : Nat) (e : Int) (s : Sm), i + m = many → m < M → p ≤ 8000000 + 10 * i → (odL s.k op).length = many →
  stmt_Parse.l13 n M l lb op (many : Int) (many : Int) (i : Int) s.k s.o s.a s.b s.c s.u s.e s.nm l p e = some (finR l lb (loopR l op many m i (p, e, s))) := by
 intro M
 induction M with
 | zero => intro m i p e s _ h; omega
 | succ M ih =>
  intro m i p e s him hm hp hk
  rw [stmt_Parse.l13]
  simp only [dt]
  cases m with
  | zero =>
   rw [if_neg (by omega), check_eq, Option.bind_some]
   dsimp only [loopR]
   unfold stmt_Parse.j22 finR outR
   simp only [dt]
   have : decide ((l.length : Int) ≤ (p : Int)) = decide (l.length ≤ p) := by
    rw [Bool.eq_iff_iff, decide_eq_true_eq, decide_eq_true_eq]; omega
   rw [this]
   split <;> rfl
  | succ m =>
   rw [if_pos (by omega)]
   dsimp only [loopR]
   have hsk := step_k (l := l) op many i p e s
   have hsp := step_p (l := l) op many i p e s
   have nxt := fun h => ih m (i + 1) (stepR l op many i p e s).1 (stepR l op many i p e s).2.1 (stepR l op many i p e s).2.2 (by omega) (by omega) (by omega) h
   rw [hsk] at nxt
   have nxt := nxt hk
   have J : ∀ (p1 : Nat) (e1 : Int), p1 ≤ 9000000 → p1 = (if 0 < i then p + 1 else p) → e1 = (if 0 < i then chk (decide (pk 3 l p e = [44])) e else e) →
     stmt_Parse.j17 n (stmt_Parse.l13 n M) l lb op (many : Int) (i : Int) (many : Int) (i : Int) s.k s.o s.a s.b s.c s.u s.e s.nm l p1 e1 = some (finR l lb (loopR l op many m (i + 1) (stepR l op many i p e s))) := by
    intro p1 e1 hp1 hp1' he1'
    have fin : ∀ s1 : Sm, s1 = (if i + 1 = many then { s with k := chK l p1 e1 s } else s) → stmt_Parse.j19 n (stmt_Parse.l13 n M) l lb op (many : Int) (i : Int) (many : Int) (i : Int) s1.k s1.o s1.a s1.b s1.c s1.u s1.e s1.nm l p1 e1 = some (finR l lb (loopR l op many m (i + 1) (stepR l op many i p e s))) := by
     intro s1 hs1
     have hlen : (odL s1.k op).length = many := by
      rw [hs1]
      split
      ·rw [← hk]; exact chK_len _ _ s op
      ·exact hk
     obtain ⟨d, hd⟩ : ∃ d, (odL s1.k op)[i]? = some d := ⟨_, List.getElem?_eq_getElem (by omega)⟩
     have hst : stepR l op many i p e s = rd l p1 e1 s1 d := by
      unfold stepR
      dsimp only
      rw [← hp1', ← he1', ← hs1, hd]
     rw [j19_eq hl0 hl n _ lb op many i p1 hp1 e1 s1 d hd, ← hst]
     unfold stmt_Parse.j20
     rw [w64 (by omega), show (i : Int) + 1 = ((i + 1 : Nat) : Int) by omega]
     exact nxt
    unfold stmt_Parse.j17
    simp only [dt]
    have hw : IntKind.i64.wrap ((many : Int) - 1) = (many : Int) - 1 := w64 (by omega)
    rw [hw]
    by_cases hlast : i + 1 = many
    ·rw [if_pos (by omega), choose_eq hl p1 e1 s, Option.bind_some]
     exact fin { s with k := chK l p1 e1 s } (by rw [if_pos hlast])
    ·rw [if_neg (by omega)]
     exact fin s (by rw [if_neg hlast])
   by_cases h0 : 0 < i
   ·rw [if_pos (by omega), take_eq 3 l p e (by omega), Option.bind_some]
    dsimp only
    rw [check_eq, Option.bind_some]
    exact J (p + 1) _ (by omega) (by rw [if_pos h0]) (by rw [if_pos h0])
   ·rw [if_neg (by omega)]
    exact J p e (by omega) (by rw [if_neg h0]) (by rw [if_neg h0])
def headR (l : List TokL) (lb : Str) (p : Nat) (e : Int) : PR :=
 if e = 0 ∧ p < l.length then
  let t := l.getD p dTok
  let w := L.ofR t.2.2.1
  let ok := w.2.2.2.1 && (decide (t.1 = 4) == decide (w.1 = 9 ∨ w.1 = 10)) && (decide (t.1 = 4) || decide (t.1 = 1))
  finR l lb (loopR l w.2.1 (odL w.1 w.2.1).length (odL w.1 w.2.1).length 0 (p + 1, chk ok e, ⟨w.1, w.2.1, 0, 0, 0, w.2.2.1, [], []⟩))
 else outR lb e ⟨0, 0, 0, 0, 0, false, [], []⟩
def parseS (l : List TokL) : PR :=
 if 1 < l.length ∧ (l.getD 0 dTok).1 = 1 ∧ isSg l 1 58 = true then headR l (l.getD 0 dTok).2.2.1 2 (chk (labelOk (l.getD 0 dTok).2.2.1) 0) else headR l [] 0 0
include hl0 hl in
theorem head_ok (n : Nat) (hn : 10 ≤ n) (lb : Str) (p : Nat) (hp : p ≤ 2) (e : Int) : stmt_Parse.j5 n l lb 0 0 0 0 0 false [] [] l p e = some (headR l lb p e) := by
 unfold stmt_Parse.j5 headR
 simp only [dt]
 by_cases he : e = 0
 ·rw [if_pos he]
  by_cases hp' : p < l.length
  ·rw [if_pos (by omega), if_pos (by omega), if_pos ⟨he, hp'⟩, Int.toNat_natCast]
   unfold L.nameOfO
   rw [Option.bind_some]
   generalize l.getD p dTok = t
   generalize L.ofR t.2.2.1 = w
   have J9 : ∀ ok : Bool, stmt_Parse.j9 n l lb w.1 w.2.1 w.2.2.1 0 0 0 0 0 false [] [] l (p : Int) (chk ok e) = some (finR l lb (loopR l w.2.1 (odL w.1 w.2.1).length (odL w.1 w.2.1).length 0 (p + 1, chk ok e, ⟨w.1, w.2.1, 0, 0, 0, w.2.2.1, [], []⟩))) := fun ok => by
    unfold stmt_Parse.j9
    have hlen : ((L.opsR w.1 w.2.1).length : Int) = ((odL w.1 w.2.1).length : Int) := by rw [opsR_eq, List.length_map]
    rw [hlen, w64 (by omega)]
    have h3 := odL_len w.1 w.2.1
    exact parse_loop hl0 hl n lb w.2.1 (odL w.1 w.2.1).length h3 n (odL w.1 w.2.1).length 0 (p + 1) (chk ok e) ⟨w.1, w.2.1, 0, 0, 0, w.2.2.1, [], []⟩ (by omega) (by omega) (by omega) rfl
   cases hok : w.2.2.2.1 with
   | false =>
    rw [if_neg (by decide), check_eq, Option.bind_some]
    exact J9 false
   | true =>
    rw [if_pos rfl, dotted_eq, Option.bind_some]
    dsimp only
    cases hq : (decide (t.1 = 4) == decide (w.1 = 9 ∨ w.1 = 10)) with
    | false =>
     rw [if_neg (by decide), check_eq, Option.bind_some]
     exact J9 false
    | true =>
     rw [if_pos rfl]
     by_cases h4 : t.1 = 4
     ·rw [if_neg (by simp [h4]), check_eq, Option.bind_some, decide_eq_true h4]
      exact J9 true
     ·rw [if_pos (by simp [h4]), check_eq, Option.bind_some, decide_eq_false h4]
      exact J9 _
  ·rw [if_neg (by omega), if_neg (fun g => hp' g.2)]
   unfold stmt_Parse.j22 outR
   simp only [dt]
   split <;> rfl
 ·rw [if_neg he, if_neg (fun g => he g.1)]
  unfold stmt_Parse.j22 outR
  simp only [dt]
  split <;> rfl
include hl0 hl in
theorem parse_eq' : stmt_Parse.g l = some (parseS l) := by
 unfold stmt_Parse.g
 have hn : 10 ≤ 1000 + l.length := by omega
 generalize 1000 + l.length = n at hn
 unfold stmt_Parse.f parseS
 have H := head_ok hl0 hl n hn
 have H0 := H [] 0 (by decide) 0
 rw [show ((0 : Nat) : Int) = 0 from rfl] at H0
 simp only [dt]
 have t0 : ((0 : Int)).toNat = 0 := rfl
 have t1 : ((1 : Int)).toNat = 1 := rfl
 rw [t0, t1]
 by_cases h1 : 1 < l.length
 ·rw [if_pos (by omega), if_pos (by omega)]
  by_cases k0 : (l.getD 0 dTok).1 = 1
  ·rw [if_pos k0, if_pos (by omega)]
   by_cases k1 : (l.getD 1 dTok).1 = 3
   ·rw [if_pos k1, if_pos (by omega)]
    by_cases k2 : (l.getD 1 dTok).2.2.1 = [58]
    ·rw [if_pos k2, if_pos (by omega), label_eq, Option.bind_some]
     dsimp only
     rw [check_eq, Option.bind_some, if_pos ⟨h1, k0, isSg_iff.2 ⟨h1, k1, k2⟩⟩]
     exact H _ 2 (by decide) _
    ·rw [if_neg k2, if_neg (fun g => k2 (isSg_iff.1 g.2.2).2.2)]; exact H0
   ·rw [if_neg k1, if_neg (fun g => k1 (isSg_iff.1 g.2.2).2.1)]; exact H0
  ·rw [if_neg k0, if_neg (fun g => k0 g.2.1)]; exact H0
 ·rw [if_neg (by omega), if_neg (fun g => h1 g.1)]; exact H0
end
end Rv
namespace Rv
open Go
theorem regOf_rn {a : Int} (h : rg a) : regOf (rn a) = (a, true) := by
 have : ∀ k : Nat, k < 16 → regOf (regN k) = ((k : Int), true) := by decide +kernel
 have h2 := this a.toNat (by have := h.1; have := h.2; omega)
 unfold rn
 rw [h2]
 have := h.1
 rw [show ((a.toNat : Nat) : Int) = a by omega]
theorem regOf_nil : regOf [] = (0, false) := by decide +kernel
theorem regOf_label {s : Str} (h : labelOk s = true) : (regOf s).2 = false := by
 unfold regOf
 cases hf : (List.range 16).find? (fun k => regN k == s) with
 | none => rfl
 | some k =>
  obtain ⟨h1, h2⟩ := regOf_some hf
  have : ∀ k : Nat, k < 16 → labelOk (regN k) = false := by decide +kernel
  rw [← h2, this k h1] at h
  cases h
theorem pk_at {l : List TokL} {p : Nat} {kd : Int} {tx : Str} {v : Int} {k : List Bt} (h : At l p ((kd, tx, v) :: k)) : pk kd l p 0 = tx := by
 obtain ⟨h1, h2, _⟩ := At.cons h
 simp only [bare, Prod.mk.injEq] at h2
 unfold pk
 rw [if_pos ⟨rfl, h1, h2.1⟩, h2.2.1]
theorem pk_other {l : List TokL} {p : Nat} {kd : Int} {b : Bt} {k : List Bt} (h : At l p (b :: k)) (hb : b.1 ≠ kd) : pk kd l p 0 = [] := by
 obtain ⟨h1, h2, _⟩ := At.cons h
 unfold pk
 rw [if_neg (fun g => hb (by rw [← h2]; exact g.2.2))]
theorem rd_A {l : List TokL} {p : Nat} {k : List Bt} {a : Int} (ha : rg a) (h : At l p ((1, rn a, 0) :: k)) (s : Sm) : rd l p 0 s .A = (p + 1, 0, { s with a := a }) := by
 show (p + 1, chk (regOf (pk 1 l p 0)).2 0, { s with a := (regOf (pk 1 l p 0)).1 }) = _
 rw [pk_at h, regOf_rn ha]; rfl
theorem rd_B {l : List TokL} {p : Nat} {k : List Bt} {a : Int} (ha : rg a) (h : At l p ((1, rn a, 0) :: k)) (s : Sm) : rd l p 0 s .B = (p + 1, 0, { s with b := a }) := by
 show (p + 1, chk (regOf (pk 1 l p 0)).2 0, { s with b := (regOf (pk 1 l p 0)).1 }) = _
 rw [pk_at h, regOf_rn ha]; rfl
theorem rd_C {l : List TokL} {p : Nat} {k : List Bt} {a : Int} (ha : rg a) (h : At l p ((1, rn a, 0) :: k)) (s : Sm) : rd l p 0 s .C = (p + 1, 0, { s with c := a }) := by
 show (p + 1, chk (regOf (pk 1 l p 0)).2 0, { s with c := (regOf (pk 1 l p 0)).1 }) = _
 rw [pk_at h, regOf_rn ha]; rfl
theorem rd_N {l : List TokL} {p : Nat} {k : List Bt} {nm : Str} (hn : nameOk nm = true) (h : At l p ((1, nm, 0) :: k)) (s : Sm) : rd l p 0 s .N = (p + 1, 0, { s with nm := nm }) := by
 show (p + 1, chk (nameOk (pk 1 l p 0)) 0, { s with nm := pk 1 l p 0 }) = _
 rw [pk_at h, hn]; rfl
def deepR (x : Tr) (p : Nat) (s : Sm) : Nat × Int × Sm := if x.dep ≤ 8 then (p + x.toks.length, 0, { s with e := x.post }) else (0, 24, { s with e := [] })
theorem rd_E {l : List TokL} (hl : l.length ≤ 1000000) {p : Nat} {x : Tr} (hx : okT' x) {K : List Bt} (hK : noS sMul K ∧ noS sAdd K) (h : At l p (x.toks ++ K)) (s : Sm) : rd l p 0 s .E = deepR x p s := by
 obtain ⟨g1, g2⟩ := eparse_eq hx.1 l p K hl hx.2.2.2 h hK.1 hK.2
 rw [parseX_eq l hl p] at g1 g2
 show rdE l p 0 s = _
 unfold rdE deepR
 rw [if_pos rfl]
 by_cases hd : x.dep ≤ 8
 ·rw [if_pos hd, Option.some.inj (g1 hd)]
  dsimp only
  rw [Int.toNat_natCast]
 ·rw [if_neg hd, Option.some.inj (g2 hd)]; rfl
theorem rd_Q {l : List TokL} (hl : l.length ≤ 1000000) {p : Nat} {x : Tr} (hx : okT' x) {K : List Bt} (hK : noS sMul K ∧ noS sAdd K) (h : At l p ((3, [61], 0) :: (x.toks ++ K))) (s : Sm) : rd l p 0 s .Q = deepR x (p + 1) s := by
 obtain ⟨_, _, h2⟩ := At.cons h
 rw [← rd_E hl hx hK h2 s]
 show rdE l (p + 1) (chk (decide (pk 3 l p 0 = [61])) 0) s = rdE l (p + 1) 0 s
 rw [pk_at h]; rfl
theorem brk_head (b : Bool) {l : List Bt} (h : ∃ b r, l = b :: r ∧ (b.1 = 1 → labelOk b.2.1 = true) ∧ b.2.1 ≠ [58]) : ∃ x r, brk b l = x :: r ∧ (x.1 = 1 → labelOk x.2.1 = true) ∧ x.2.1 ≠ [58] := by
 unfold brk
 split
 ·exact ⟨tLp, _, rfl, fun h => (by cases h), by decide⟩
 ·exact h
theorem toks_head : ∀ t : Tr, t.ok → ∃ b r, t.toks = b :: r ∧ (b.1 = 1 → labelOk b.2.1 = true) ∧ b.2.1 ≠ [58]
 | .num n, h => by
  refine ⟨_, _, rfl, fun h => (by cases h), fun e => ?_⟩
  have e : Lib.itoa n = [58] := e
  obtain ⟨m, rfl⟩ : ∃ m : Nat, n = m := ⟨n.toNat, by have := h.1; omega⟩
  have hi : Lib.itoa (m : Int) = Lib.decDigits m := by unfold Lib.itoa; rw [if_neg (by omega)]; rfl
  have := (dec_all m).1
  rw [← hi, e] at this
  exact absurd this (by decide)
 | .nam s, h => by
  refine ⟨_, _, rfl, fun _ => h, fun e => ?_⟩
  have h : labelOk s = true := h
  have e : s = [58] := e
  rw [e] at h
  exact absurd h (by decide)
 | .neg x, _ => ⟨tNeg, _, rfl, fun h => (by cases h), by decide⟩
 | .br x, _ => ⟨tLp, _, rfl, fun h => (by cases h), by decide⟩
 | .bin o a b, h => by
  obtain ⟨x, r, h1, h2, h3⟩ := brk_head (decide (a.tight < o.tight)) (toks_head a h.1)
  exact ⟨x, _, by show brk _ _ ++ _ = _; rw [h1]; rfl, h2, h3⟩
theorem no_reg {l : List TokL} {p : Nat} {x : Tr} (hx : x.ok) {k : List Bt} (h : At l p (x.toks ++ k)) : (regOf (pk 1 l p 0)).2 = false := by
 obtain ⟨b, r, h1, h2, _⟩ := toks_head x hx
 rw [h1] at h
 by_cases hb : b.1 = 1
 ·obtain ⟨b1, b2, b3⟩ := b
  have hb : b1 = 1 := hb
  subst hb
  rw [pk_at h]
  exact regOf_label (h2 rfl)
 ·rw [pk_other h hb, regOf_nil]
theorem st_first {l : List TokL} {op : Int} {many p : Nat} {s : Sm} {d : Od} (hm : many ≠ 1) (hd : (odL s.k op)[0]? = some d) : stepR l op many 0 p 0 s = rd l p 0 s d := by
 unfold stepR
 dsimp only
 rw [if_neg (by omega), if_neg (by omega), if_neg (by omega), hd]
theorem st_mid {l : List TokL} {op : Int} {many i p : Nat} {s : Sm} {d : Od} {k : List Bt} (h0 : 0 < i) (hm : i + 1 ≠ many) (hd : (odL s.k op)[i]? = some d) (h : At l p ((3, [44], 0) :: k)) : stepR l op many i p 0 s = rd l (p + 1) 0 s d := by
 unfold stepR
 dsimp only
 rw [if_pos h0, if_pos h0, if_neg hm, hd, pk_at h]; rfl
theorem st_last {l : List TokL} {op : Int} {many i p : Nat} {s : Sm} {d : Od} {k : List Bt} {K : Int} (h0 : 0 < i) (hm : i + 1 = many) (hK : chK l (p + 1) 0 s = K) (hd : (odL K op)[i]? = some d) (h : At l p ((3, [44], 0) :: k)) : stepR l op many i p 0 s = rd l (p + 1) 0 { s with k := K } d := by
 unfold stepR
 have hc : chk (decide (pk 3 l p 0 = [44])) 0 = 0 := by rw [pk_at h]; rfl
 dsimp only
 rw [if_pos h0, if_pos h0, if_pos hm, hc, hK]
 dsimp only
 rw [hd]
theorem st_only {l : List TokL} {op : Int} {many p : Nat} {s : Sm} {d : Od} {K : Int} (hm : many = 1) (hK : chK l p 0 s = K) (hd : (odL K op)[0]? = some d) : stepR l op many 0 p 0 s = rd l p 0 { s with k := K } d := by
 subst hm
 unfold stepR
 dsimp only
 rw [if_neg (show ¬ 0 < 0 by decide), if_neg (show ¬ 0 < 0 by decide), if_pos (show 0 + 1 = 1 from rfl), hK]
 dsimp only
 rw [hd]
def endR (q : Nat) (s : Sm) (t : Option Tr) (r : Nat × Int × Sm) : Prop :=
 ((∀ x, t = some x → x.dep ≤ 8) → r = (q, 0, s)) ∧ ((∃ x, t = some x ∧ ¬ x.dep ≤ 8) → ∃ s', r = (0, 24, s'))
theorem end_none {q : Nat} {s : Sm} {p : Nat} (hp : p = q) : endR q s none (p, 0, s) := ⟨fun _ => by rw [hp], fun ⟨x, h, _⟩ => by cases h⟩
theorem end_some {q : Nat} {s s' : Sm} {x : Tr} {p : Nat} (hp : p + x.toks.length = q) (hs : { s' with e := x.post } = s) : endR q s (some x) (deepR x p s') := by
 unfold deepR
 constructor
 ·intro h
  rw [if_pos (h x rfl), hs, hp]
 ·rintro ⟨y, hy, hd⟩
  obtain rfl := Option.some.inj hy
  rw [if_neg hd]
  exact ⟨_, rfl⟩
theorem At.end {l : List TokL} {p : Nat} (h : At l p []) (hp : p ≤ l.length) : p = l.length := by
 unfold At at h
 have := congrArg List.length h
 simp at this
 omega
theorem At.tot {l : List TokL} {p : Nat} {k : List Bt} (h : At l p k) (hp : p ≤ l.length) : p + k.length = l.length := by
 unfold At at h
 have := congrArg List.length h
 simp at this
 omega
theorem chK_self {l : List TokL} {p : Nat} {e : Int} {s : Sm} (h1 : s.k ≠ 1) (h7 : s.k ≠ 7) : chK l p e s = s.k := by
 unfold chK
 rw [if_neg (fun g => h1 g.1), if_neg (fun g => h7 g.1)]
theorem loop_good {l : List TokL} (hl : l.length ≤ 1000000) {s : Sm} {t : Option Tr} (h : GoodS s t) (h0 : s.k ≠ 0) {K : List Bt} (hK : noS sMul K ∧ noS sAdd K) {p : Nat} (hp : p ≤ l.length) (hat : At l p (joinB ((odL s.k s.o).map (wtk s t)) ++ K)) :
  endR (l.length - K.length) s t (loopR l s.o (odL (hk s.k) s.o).length (odL (hk s.k) s.o).length 0 (p, 0, ⟨hk s.k, s.o, 0, 0, 0, s.u, [], []⟩)) := by
 cases h with
 | none => exact absurd rfl h0
 | ins0 h hk0 =>
  cases h with
  | reg q1 q2 ha hb hc hu =>
   rename_i o a b c u
   dsimp only at hat ⊢
   rw [odL_reg q1] at hat
   have hat : At l p ((1, rn a, 0) :: (3, [44], 0) :: (1, rn b, 0) :: (3, [44], 0) :: (1, rn c, 0) :: K) := hat
   obtain ⟨_, _, a1⟩ := At.cons hat
   obtain ⟨_, _, a2⟩ := At.cons a1
   obtain ⟨_, _, a3⟩ := At.cons a2
   obtain ⟨_, _, a4⟩ := At.cons a3
   rw [show hk 1 = 1 from rfl, odL_reg q1]
   show endR _ _ _ (loopR l o 3 3 0 (p, 0, _))
   simp only [loopR]
   rw [st_first (d := .A) (by decide) (by rw [odL_reg q1]; rfl), rd_A ha hat]
   dsimp only
   rw [st_mid (d := .B) (by decide) (by decide) (by rw [odL_reg q1]; rfl) a1, rd_B hb a2]
   dsimp only
   rw [st_last (K := 1) (d := .C) (by decide) (by decide) (by
    unfold chK
    rw [pk_at a4, regOf_rn hc, if_neg (by rintro ⟨_, h | h⟩; cases h; have := h.2; dsimp only at this; omega), if_neg (by rintro ⟨h, _⟩; exact absurd (show (1 : Int) = 7 from h) (by decide))]) (by rw [odL_reg q1]; rfl) a3, rd_C hc a4]
   exact end_none (by have := At.tot hat hp; simp at this; omega)
  | mov ha hc =>
   rename_i a c
   have hat : At l p ((1, rn a, 0) :: (3, [44], 0) :: (1, rn c, 0) :: K) := hat
   obtain ⟨_, _, a1⟩ := At.cons hat
   obtain ⟨_, _, a2⟩ := At.cons a1
   show endR _ _ _ (loopR l 0 2 2 0 (p, 0, _))
   simp only [loopR]
   rw [st_first (d := .A) (by decide) rfl, rd_A ha hat]
   dsimp only
   rw [st_last (K := 1) (d := .C) (by decide) (by decide) (by
    unfold chK
    rw [pk_at a2, regOf_rn hc, if_neg (by rintro ⟨_, h | h⟩; cases h; exact absurd (show false = true from h.1) (by decide)), if_neg (by rintro ⟨h, _⟩; exact absurd (show (1 : Int) = 7 from h) (by decide))]; rfl) rfl a1, rd_C hc a2]
   exact end_none (by have := At.tot hat hp; simp at this; omega)
  | hi ha =>
   rename_i a
   have hat : At l p ((1, rn a, 0) :: K) := hat
   show endR _ _ _ (loopR l 0 1 1 0 (p, 0, _))
   simp only [loopR]
   rw [st_only (K := 3) (d := .A) rfl (chK_self (show (3 : Int) ≠ 1 by decide) (show (3 : Int) ≠ 7 by decide)) rfl, rd_A ha hat]
   exact end_none (by have := At.tot hat hp; simp at this; omega)
  | fl ha =>
   rename_i a
   have hat : At l p ((1, rn a, 0) :: K) := hat
   show endR _ _ _ (loopR l 0 1 1 0 (p, 0, _))
   simp only [loopR]
   rw [st_only (K := 4) (d := .A) rfl (chK_self (show (4 : Int) ≠ 1 by decide) (show (4 : Int) ≠ 7 by decide)) rfl, rd_A ha hat]
   exact end_none (by have := At.tot hat hp; simp at this; omega)
  | br ho hc =>
   rename_i o c u
   have hat : At l p ((1, rn c, 0) :: K) := hat
   show endR _ _ _ (loopR l o 1 1 0 (p, 0, _))
   simp only [loopR]
   rw [st_only (K := 6) (d := .C) rfl (by
    unfold chK
    rw [pk_at hat, regOf_rn hc, if_neg (by rintro ⟨h, _⟩; exact absurd (show (7 : Int) = 1 from h) (by decide)), if_pos ⟨rfl, rfl⟩]) rfl, rd_C hc hat]
   exact end_none (by have := At.tot hat hp; simp at this; omega)
  | imm => simp at hk0
  | movi => simp at hk0
  | mem => simp at hk0
  | jmp => simp at hk0
 | @ins1 _ _ _ _ _ _ x h hk0 hx =>
  cases h with
  | imm q1 q2 ha hb hu =>
   rename_i o a b u
   dsimp only at hat ⊢
   rw [odL_imm q1] at hat
   have hat : At l p ((1, rn a, 0) :: (3, [44], 0) :: (1, rn b, 0) :: (3, [44], 0) :: (x.toks ++ K)) := by rw [← List.append_nil x.toks]; exact hat
   obtain ⟨_, _, a1⟩ := At.cons hat
   obtain ⟨_, _, a2⟩ := At.cons a1
   obtain ⟨_, _, a3⟩ := At.cons a2
   obtain ⟨_, _, a4⟩ := At.cons a3
   rw [show hk 2 = 1 from rfl, odL_reg q1]
   show endR _ _ _ (loopR l o 3 3 0 (p, 0, _))
   simp only [loopR]
   rw [st_first (d := .A) (by decide) (by rw [odL_reg q1]; rfl), rd_A ha hat]
   dsimp only
   rw [st_mid (d := .B) (by decide) (by decide) (by rw [odL_reg q1]; rfl) a1, rd_B hb a2]
   dsimp only
   rw [st_last (K := 2) (d := .E) (by decide) (by decide) (by
    unfold chK
    rw [no_reg hx.1 a4, if_pos ⟨rfl, .inl rfl⟩]) (by rw [odL_imm q1]; rfl) a3, rd_E hl hx hK a4]
   exact end_some (by have := At.tot hat hp; simp at this; omega) rfl
  | movi ha =>
   rename_i a u
   have hat : At l p ((1, rn a, 0) :: (3, [44], 0) :: (x.toks ++ K)) := by rw [← List.append_nil x.toks]; exact hat
   obtain ⟨_, _, a1⟩ := At.cons hat
   obtain ⟨_, _, a2⟩ := At.cons a1
   show endR _ _ _ (loopR l 0 2 2 0 (p, 0, _))
   simp only [loopR]
   rw [st_first (d := .A) (by decide) rfl, rd_A ha hat]
   dsimp only
   rw [st_last (K := 2) (d := .E) (by decide) (by decide) (by
    unfold chK
    rw [no_reg hx.1 a2, if_pos ⟨rfl, .inl rfl⟩]) rfl a1, rd_E hl hx hK a2]
   exact end_some (by have := At.tot hat hp; simp at this; omega) rfl
  | mem q1 q2 ha hb =>
   rename_i o a b
   have hat : At l p ((1, rn a, 0) :: (3, [44], 0) :: (1, rn b, 0) :: (3, [44], 0) :: (x.toks ++ K)) := by rw [← List.append_nil x.toks]; exact hat
   obtain ⟨_, _, a1⟩ := At.cons hat
   obtain ⟨_, _, a2⟩ := At.cons a1
   obtain ⟨_, _, a3⟩ := At.cons a2
   obtain ⟨_, _, a4⟩ := At.cons a3
   show endR _ _ _ (loopR l o 3 3 0 (p, 0, _))
   simp only [loopR]
   rw [st_first (d := .A) (by decide) rfl, rd_A ha hat]
   dsimp only
   rw [st_mid (d := .B) (by decide) (by decide) rfl a1, rd_B hb a2]
   dsimp only
   rw [st_last (K := 5) (d := .E) (by decide) (by decide) (chK_self (show (5 : Int) ≠ 1 by decide) (show (5 : Int) ≠ 7 by decide)) rfl a3, rd_E hl hx hK a4]
   exact end_some (by have := At.tot hat hp; simp at this; omega) rfl
  | jmp ho =>
   rename_i o u
   have hat : At l p (x.toks ++ K) := by rw [← List.append_nil x.toks]; exact hat
   show endR _ _ _ (loopR l o 1 1 0 (p, 0, _))
   simp only [loopR]
   rw [st_only (K := 7) (d := .E) rfl (by
    unfold chK
    rw [no_reg hx.1 hat, if_neg (by rintro ⟨h, _⟩; exact absurd (show (7 : Int) = 1 from h) (by decide)), if_neg (by rintro ⟨_, h⟩; cases h)]; rfl) rfl, rd_E hl hx hK hat]
   exact end_some (by have := At.tot hat hp; simp at this; omega) rfl
  | reg => simp at hk0
  | mov => simp at hk0
  | hi => simp at hk0
  | fl => simp at hk0
  | br => simp at hk0
 | @load a x ha hx =>
  have hat : At l p ((1, rn a, 0) :: (3, [44], 0) :: (3, [61], 0) :: (x.toks ++ K)) := by rw [← List.append_nil x.toks]; exact hat
  obtain ⟨_, _, a1⟩ := At.cons hat
  obtain ⟨_, _, a2⟩ := At.cons a1
  show endR _ _ _ (loopR l 0 2 2 0 (p, 0, _))
  simp only [loopR]
  rw [st_first (d := .A) (by decide) rfl, rd_A ha hat]
  dsimp only
  rw [st_last (K := 8) (d := .Q) (by decide) (by decide) (chK_self (show (8 : Int) ≠ 1 by decide) (show (8 : Int) ≠ 7 by decide)) rfl a1, rd_Q hl hx hK a2]
  exact end_some (by have := At.tot hat hp; simp at this; omega) rfl
 | @word x hx =>
  have hat : At l p (x.toks ++ K) := by rw [← List.append_nil x.toks]; exact hat
  show endR _ _ _ (loopR l 0 1 1 0 (p, 0, _))
  simp only [loopR]
  rw [st_only (K := 9) (d := .E) rfl (chK_self (show (9 : Int) ≠ 1 by decide) (show (9 : Int) ≠ 7 by decide)) rfl, rd_E hl hx hK hat]
  exact end_some (by have := At.tot hat hp; simp at this; omega) rfl
 | @exp nm hn =>
  have hat : At l p ((1, nm, 0) :: K) := hat
  show endR _ _ _ (loopR l 0 1 1 0 (p, 0, _))
  simp only [loopR]
  rw [st_only (K := 10) (d := .N) rfl (chK_self (show (10 : Int) ≠ 1 by decide) (show (10 : Int) ≠ 7 by decide)) rfl, rd_N hn hat]
  exact end_none (by have := At.tot hat hp; simp at this; omega)
end Rv
namespace Rv
open Go
theorem hk_dot (k : Int) : (hk k = 9 ∨ hk k = 10) ↔ (k = 9 ∨ k = 10) := by
 unfold hk
 split
 ·omega
 ·split <;> omega
def smP (lb : Str) (s : Sm) : PR := (lb, s.k, s.o, s.a, s.b, s.c, s.u, s.e, s.nm, 0, ())
def noP (e : Int) : PR := ([], 0, 0, 0, 0, 0, false, [], [], e, ())
def deepOk (t : Option Tr) : Prop := ∀ x, t = some x → x.dep ≤ 8
theorem chk_stick {b : Bool} {e : Int} (h : e ≠ 0) : chk b e = e := by unfold chk; rw [if_neg (fun g => h g.2)]
theorem rd_stick {l : List TokL} {p : Nat} {e : Int} {s : Sm} (h : e ≠ 0) (d : Od) : (rd l p e s d).2.1 = e := by
 have hE : ∀ p, (rdE l p e s).2.1 = e := fun p => by unfold rdE; rw [if_neg h]
 cases d with
 | E => exact hE p
 | Q =>
  show (rdE l (p + 1) (chk (decide (pk 3 l p e = [61])) e) s).2.1 = e
  rw [chk_stick h]; exact hE _
 | _ => exact chk_stick h
theorem step_stick {l : List TokL} {op : Int} {many i p : Nat} {e : Int} {s : Sm} (h : e ≠ 0) : (stepR l op many i p e s).2.1 = e := by
 unfold stepR
 dsimp only
 have : (if 0 < i then chk (decide (pk 3 l p e = [44])) e else e) = e := by
  split
  ·exact chk_stick h
  ·rfl
 rw [this]
 split
 ·exact rd_stick h _
 ·rfl
theorem loop_stick {l : List TokL} {op : Int} {many : Nat} {e : Int} (h : e ≠ 0) : ∀ (m i : Nat) (r : Nat × Int × Sm), r.2.1 = e → (loopR l op many m i r).2.1 = e
 | 0, _, _, hr => hr
 | m + 1, i, r, hr => loop_stick h m (i + 1) _ (by rw [hr]; exact step_stick h)
theorem fin_stick {l : List TokL} {lb : Str} {r : Nat × Int × Sm} {e : Int} (h : e ≠ 0) (hr : r.2.1 = e) : finR l lb r = noP e := by
 unfold finR outR
 rw [hr, chk_stick h, if_pos h]; rfl
abbrev noGo (K : List Bt) : Prop := noS sMul K ∧ noS sAdd K
theorem noGo_nil : noGo [] := ⟨noS_nil _, noS_nil _⟩
theorem noGo_comma : noGo [(3, [44], 0)] := by
 constructor <;> (intro b r h g; obtain ⟨rfl, _⟩ := List.cons.inj h; exact absurd g.2 (by decide))
theorem head_wrong {l : List TokL} {lb : Str} {p : Nat} (hp : p < l.length) (h : (L.ofR (l.getD p dTok).2.2.1).2.2.2.1 = false) : headR l lb p 0 = noP 22 := by
 unfold headR
 rw [if_pos ⟨rfl, hp⟩]
 dsimp only
 rw [h]
 exact fin_stick (by decide) (loop_stick (by decide) _ _ _ rfl)
theorem head_goodK {l : List TokL} (hl : l.length ≤ 1000000) {s : Sm} {t : Option Tr} (h : GoodS s t) {lb : Str} {K : List Bt} (hK : K = [] ∨ K = [(3, [44], 0)]) {p : Nat} (hp : p ≤ l.length) (hat : At l p (stk s t ++ K)) :
  (deepOk t → headR l lb p 0 = if K = [] then smP lb s else noP 22) ∧ (¬ deepOk t → headR l lb p 0 = noP 24) := by
 have hKe : noGo K := by rcases hK with rfl | rfl; exact noGo_nil; exact noGo_comma
 by_cases h0 : s.k = 0
 ·have hs : s = ⟨0, 0, 0, 0, 0, false, [], []⟩ ∧ t = none := by
   cases h with
   | none => exact ⟨rfl, rfl⟩
   | ins0 h hk => dsimp only at h0; omega
   | ins1 h hk _ => dsimp only at h0; omega
   | load _ _ => exact absurd (show (8 : Int) = 0 from h0) (by decide)
   | word _ => exact absurd (show (9 : Int) = 0 from h0) (by decide)
   | exp _ => exact absurd (show (10 : Int) = 0 from h0) (by decide)
  obtain ⟨rfl, rfl⟩ := hs
  refine ⟨fun _ => ?_, fun g => absurd (fun x hx => by cases hx) g⟩
  rcases hK with rfl | rfl
  ·have hat : At l p [] := hat
   have he := At.end hat hp
   rw [if_pos rfl]
   unfold headR
   rw [if_neg (fun g => by omega)]
   rfl
  ·have hat : At l p [(3, [44], 0)] := hat
   obtain ⟨a1, a2, _⟩ := At.cons hat
   rw [if_neg (by simp)]
   refine head_wrong a1 ?_
   simp only [bare, Prod.mk.injEq] at a2
   rw [a2.2.1]
   decide +kernel
 ·have hstk : stk s t = mtk s :: joinB ((odL s.k s.o).map (wtk s t)) := by unfold stk; rw [if_neg h0]
  rw [hstk] at hat
  obtain ⟨a1, a2, a3⟩ := At.cons hat
  have hm := good_mnem h h0
  have hof := (mnem_of hm).1
  simp only [bare, mtk, Prod.mk.injEq] at a2
  have hk10 := good_kr h
  have hloop := loop_good hl h h0 hKe (by omega) a3
  unfold headR
  rw [if_pos ⟨rfl, a1⟩]
  dsimp only
  rw [a2.2.1, hof, a2.1]
  dsimp only
  have hok : (true && (decide ((if s.k = 9 ∨ s.k = 10 then (4 : Int) else 1) = 4) == decide (hk s.k = 9 ∨ hk s.k = 10)) && (decide ((if s.k = 9 ∨ s.k = 10 then (4 : Int) else 1) = 4) || decide ((if s.k = 9 ∨ s.k = 10 then (4 : Int) else 1) = 1))) = true := by
   by_cases hd : s.k = 9 ∨ s.k = 10
   ·rw [if_pos hd, decide_eq_true ((hk_dot s.k).2 hd)]; rfl
   ·rw [if_neg hd, decide_eq_false (fun g => hd ((hk_dot s.k).1 g))]; rfl
  rw [hok, show chk true 0 = 0 from rfl]
  generalize loopR l s.o (odL (hk s.k) s.o).length (odL (hk s.k) s.o).length 0 (p + 1, 0, ⟨hk s.k, s.o, 0, 0, 0, s.u, [], []⟩) = r at hloop
  obtain ⟨e1, e2⟩ := hloop
  constructor
  ·intro hd
   rw [e1 hd]
   unfold finR
   dsimp only
   rcases hK with rfl | rfl
   ·rw [decide_eq_true (show l.length ≤ l.length - ([] : List Bt).length from Nat.le_refl _)]
    rfl
   ·rw [decide_eq_false (show ¬ l.length ≤ l.length - ([(3, [44], 0)] : List Bt).length by simp; omega), if_neg (by simp)]
    rfl
  ·intro hd
   obtain ⟨s', e⟩ := e2 (by
    apply Classical.byContradiction
    intro hc
    exact hd fun x hx => Classical.byContradiction fun hx2 => hc ⟨x, hx, hx2⟩)
   rw [e]
   exact fin_stick (by decide) rfl
theorem head_good {l : List TokL} (hl : l.length ≤ 1000000) {s : Sm} {t : Option Tr} (h : GoodS s t) {lb : Str} {p : Nat} (hp : p ≤ l.length) (hat : At l p (stk s t)) :
  (deepOk t → headR l lb p 0 = smP lb s) ∧ (¬ deepOk t → headR l lb p 0 = noP 24) := by
 have := head_goodK hl h (lb := lb) (.inl rfl) hp (by rw [List.append_nil]; exact hat)
 rw [if_pos rfl] at this
 exact this
theorem stk_second {s : Sm} {t : Option Tr} (h : GoodS s t) {b c : Bt} {r : List Bt} (e : stk s t = b :: c :: r) : c.2.1 ≠ [58] := by
 have hod := good_od h
 have hname : ∀ n : Str, labelOk n = true → n ≠ [58] := fun n hn e => by rw [e] at hn; exact absurd hn (by decide)
 have hreg : ∀ a, rg a → rn a ≠ [58] := fun a ha e => by
  have := rn_word ha
  rw [e] at this
  exact absurd this (by decide)
 have first : ∀ d : Od, okOd s t d → ∀ x y, wtk s t d = x :: y → x.2.1 ≠ [58] := by
  intro d hd x y he
  cases d with
  | A => obtain ⟨rfl, _⟩ := List.cons.inj he; exact hreg _ hd
  | B => obtain ⟨rfl, _⟩ := List.cons.inj he; exact hreg _ hd
  | C => obtain ⟨rfl, _⟩ := List.cons.inj he; exact hreg _ hd
  | N => obtain ⟨rfl, _⟩ := List.cons.inj he; exact hname _ (name_label hd)
  | Q => obtain ⟨rfl, _⟩ := List.cons.inj he; decide
  | E =>
   obtain ⟨z, rfl, hz, _⟩ := hd
   obtain ⟨b', r', h1, _, h3⟩ := toks_head z hz.1
   have he : z.toks = x :: y := he
   rw [h1] at he
   obtain ⟨rfl, _⟩ := List.cons.inj he
   exact h3
 have ne : ∀ d : Od, okOd s t d → wtk s t d ≠ [] := by
  intro d hd
  cases d with
  | E => obtain ⟨z, rfl, hz, _⟩ := hd; exact toks_ne z
  | _ => simp [wtk]
 unfold stk at e
 split at e
 ·cases e
 ·have e2 := (List.cons.inj e).2
  cases hl : odL s.k s.o with
  | nil => rw [hl] at e2; cases e2
  | cons d ds =>
   rw [hl] at e2 hod
   have hd := hod d (List.mem_cons_self ..)
   cases hw : wtk s t d with
   | nil => exact absurd hw (ne d hd)
   | cons x y =>
    have e3 : wtk s t d ++ ((ds.map (wtk s t)).map ((3, [44], 0) :: ·)).flatten = c :: r := e2
    rw [hw] at e3
    obtain ⟨rfl, _⟩ := List.cons.inj e3
    exact first d hd x y hw
theorem toks_len : ∀ x : Tr, x.ok → ∀ b ∈ x.toks, b.2.1.length ≤ 1000 := by
 have hb : ∀ (q : Bool) (l : List Bt), (∀ b ∈ l, b.2.1.length ≤ 1000) → ∀ b ∈ brk q l, b.2.1.length ≤ 1000 := by
  intro q l h b hm
  unfold brk at hm
  split at hm
  ·simp only [List.mem_cons, List.mem_append, List.not_mem_nil, or_false] at hm
   rcases hm with rfl | hm | rfl
   ·decide
   ·exact h b hm
   ·decide
  ·exact h b hm
 intro x
 induction x with
 | num n =>
  intro h b hm
  have hm : b ∈ [((2 : Int), Lib.itoa n, n)] := hm
  simp only [List.mem_singleton] at hm
  subst hm
  have := txt_len (.num n) h trivial
  exact Nat.le_trans this (show 20 * 1 ≤ 1000 by decide)
 | nam s =>
  intro h b hm
  have hm : b ∈ [((1 : Int), s, (0 : Int))] := hm
  simp only [List.mem_singleton] at hm
  subst hm
  have := txt_len (.nam s) h trivial
  exact Nat.le_trans this (show 20 * 1 ≤ 1000 by decide)
 | neg x ih =>
  intro h b hm
  have hm : b ∈ tNeg :: brk (decide (x.tight < 2)) x.toks := hm
  simp only [List.mem_cons] at hm
  rcases hm with rfl | hm
  ·decide
  ·exact hb _ _ (ih h) b hm
 | br x ih => intro h b hm; exact hb true _ (ih h) b hm
 | bin o a c iha ihc =>
  intro h b hm
  have hm : b ∈ brk (decide (a.tight < o.tight)) a.toks ++ tOp o :: brk (decide (c.tight < o.tight + 1)) c.toks := hm
  simp only [List.mem_append, List.mem_cons] at hm
  rcases hm with hm | rfl | hm
  ·exact hb _ _ (iha h.1) b hm
  ·show ([o.byte] : Str).length ≤ 1000; simp
  ·exact hb _ _ (ihc h.2) b hm
theorem label_len {lb : Str} (h : labelOk lb = true) : lb.length ≤ 12 := by
 unfold labelOk at h
 simp only [Bool.and_eq_true, decide_eq_true_eq] at h
 exact h.1.1.1.2
theorem stk_len {s : Sm} {t : Option Tr} (h : GoodS s t) : ∀ b ∈ stk s t, b.2.1.length ≤ 1000 := by
 have hod := good_od h
 have hr : ∀ a, (rn a).length ≤ 1000 := fun a => Nat.le_trans (regN_len _) (by decide)
 have one : ∀ d : Od, okOd s t d → ∀ b ∈ wtk s t d, b.2.1.length ≤ 1000 := by
  intro d hd b hb
  cases d with
  | A => simp only [wtk, List.mem_singleton] at hb; subst hb; exact hr _
  | B => simp only [wtk, List.mem_singleton] at hb; subst hb; exact hr _
  | C => simp only [wtk, List.mem_singleton] at hb; subst hb; exact hr _
  | N => simp only [wtk, List.mem_singleton] at hb; subst hb; exact Nat.le_trans (label_len (name_label hd)) (by decide)
  | E => obtain ⟨z, rfl, hz, _⟩ := hd; exact toks_len z hz.1 b hb
  | Q =>
   obtain ⟨z, rfl, hz, _⟩ := hd
   simp only [wtk, List.mem_cons] at hb
   rcases hb with rfl | hb
   ·decide
   ·exact toks_len z hz.1 b hb
 intro b hb
 unfold stk at hb
 split at hb
 ·cases hb
 ·simp only [List.mem_cons] at hb
  rcases hb with rfl | hb
  ·exact Nat.le_trans (mnem_len _ _ _) (by decide)
  ·cases hl : odL s.k s.o with
   | nil => rw [hl] at hb; cases hb
   | cons d ds =>
    rw [hl] at hb hod
    have hb : b ∈ wtk s t d ++ ((ds.map (wtk s t)).map ((3, [44], 0) :: ·)).flatten := hb
    simp only [List.mem_append, List.mem_flatten, List.mem_map] at hb
    rcases hb with hb | ⟨l, ⟨l', ⟨d', hd', rfl⟩, rfl⟩, hb⟩
    ·exact one d (hod d (List.mem_cons_self ..)) b hb
    ·simp only [List.mem_cons] at hb
     rcases hb with rfl | hb
     ·decide
     ·exact one d' (hod d' (List.mem_cons_of_mem _ hd')) b hb
theorem bare_len {l : List TokL} {k : List Bt} (hb : l.map bare = k) (h : ∀ b ∈ k, b.2.1.length ≤ 1000) : ∀ t ∈ l, t.2.2.1.length ≤ 1000000 := by
 intro t ht
 have := h (bare t) (by rw [← hb]; exact List.mem_map.2 ⟨t, ht, rfl⟩)
 exact Nat.le_trans this (by decide)
theorem ltk_lens {s : Sm} {t : Option Tr} (h : GoodS s t) {lb : Str} (hlb : lb = [] ∨ labelOk lb = true) : ∀ b ∈ ltk lb s t, b.2.1.length ≤ 1000 := by
 intro b hb
 unfold ltk at hb
 split at hb
 ·exact stk_len h b hb
 ·rename_i hne
  simp only [List.mem_cons] at hb
  rcases hb with rfl | rfl | hb
  ·exact Nat.le_trans (label_len (hlb.resolve_left hne)) (by decide)
  ·decide
  ·exact stk_len h b hb
theorem no_colon {l : List TokL} {s : Sm} {t : Option Tr} (h : GoodS s t) {K : List Bt} (hK : K = [] ∨ K = [(3, [44], 0)]) (hat : At l 0 (stk s t ++ K)) : ¬ (1 < l.length ∧ (l.getD 0 dTok).1 = 1 ∧ isSg l 1 58 = true) := by
 rintro ⟨h1, _, h3⟩
 obtain ⟨h1, _, h3⟩ := isSg_iff.1 h3
 have tot := At.tot hat (by omega)
 match hs : stk s t with
 | [] => rcases hK with rfl | rfl <;> (rw [hs] at tot; simp at tot; omega)
 | [b] =>
  rw [hs] at tot hat
  rcases hK with rfl | rfl
  ·simp at tot; omega
  ·obtain ⟨_, _, a1⟩ := At.cons hat
   obtain ⟨_, a2, _⟩ := At.cons a1
   have : (bare (l.getD (0 + 1) dTok)).2.1 = [44] := by rw [a2]
   rw [show (bare (l.getD (0 + 1) dTok)).2.1 = (l.getD 1 dTok).2.2.1 from rfl, h3] at this
   exact absurd this (by decide)
 | b :: c :: r =>
  rw [hs] at hat
  obtain ⟨_, _, a1⟩ := At.cons hat
  obtain ⟨_, a2, _⟩ := At.cons a1
  exact stk_second h hs (by rw [← a2]; exact h3)
theorem parse_goodK {l : List TokL} (hl : l.length ≤ 1000000) {s : Sm} {t : Option Tr} (h : GoodS s t) {lb : Str} (hlb : lb = [] ∨ labelOk lb = true) {K : List Bt} (hK : K = [] ∨ K = [(3, [44], 0)]) (hb : l.map bare = ltk lb s t ++ K) :
  (deepOk t → stmt_Parse.g l = some (if K = [] then smP lb s else noP 22)) ∧ (¬ deepOk t → stmt_Parse.g l = some (noP 24)) := by
 have hlen : ∀ t ∈ l, t.2.2.1.length ≤ 1000000 := by
  refine bare_len hb fun b hb => ?_
  rcases List.mem_append.1 hb with hb | hb
  ·exact ltk_lens h hlb b hb
  ·rcases hK with rfl | rfl
   ·cases hb
   ·rw [List.mem_singleton] at hb; subst hb; decide
 rw [parse_eq' hl hlen]
 have hat0 : At l 0 (ltk lb s t ++ K) := by unfold At; rw [List.drop_zero]; exact hb
 unfold parseS
 by_cases hne : lb = []
 ·subst hne
  have hat : At l 0 (stk s t ++ K) := hat0
  rw [if_neg (no_colon h hK hat)]
  obtain ⟨g1, g2⟩ := head_goodK hl h (lb := []) hK (Nat.zero_le _) hat
  exact ⟨fun hd => by rw [g1 hd], fun hd => by rw [g2 hd]⟩
 ·have hok := hlb.resolve_left hne
  have hat : At l 0 ((1, lb, 0) :: (3, [58], 0) :: (stk s t ++ K)) := by unfold ltk at hat0; rw [if_neg hne] at hat0; exact hat0
  obtain ⟨b0, b1, a1⟩ := At.cons hat
  obtain ⟨b2, b3, a2⟩ := At.cons a1
  simp only [bare, Prod.mk.injEq] at b1 b3
  rw [if_pos ⟨b2, b1.1, isSg_iff.2 ⟨b2, b3.1, b3.2.1⟩⟩, b1.2.1, hok, show chk true 0 = 0 from rfl]
  obtain ⟨g1, g2⟩ := head_goodK hl h (lb := lb) hK (show 0 + 1 + 1 ≤ l.length from b2) a2
  exact ⟨fun hd => by rw [← g1 hd], fun hd => by rw [← g2 hd]⟩
theorem parse_good {l : List TokL} (hl : l.length ≤ 1000000) {s : Sm} {t : Option Tr} (h : GoodS s t) {lb : Str} (hlb : lb = [] ∨ labelOk lb = true) (hb : l.map bare = ltk lb s t) :
  (deepOk t → stmt_Parse.g l = some (smP lb s)) ∧ (¬ deepOk t → stmt_Parse.g l = some (noP 24)) := by
 have := parse_goodK hl h hlb (.inl rfl) (by rw [List.append_nil]; exact hb)
 rw [if_pos rfl] at this
 exact this
theorem text_good {s : Sm} {t : Option Tr} (h : GoodS s t) {lb : Str} (hlb : lb = [] ∨ labelOk lb = true) :
  ∃ ts : List TokL, ts.map bare = ltk lb s t ∧ ts.length ≤ 5000 ∧ scan_Line.g (ltx lb s t) = some (ts, 0, ()) ∧ (deepOk t → stmt_Parse.g ts = some (smP lb s)) ∧ (¬ deepOk t → stmt_Parse.g ts = some (noP 24)) := by
 have hlen := ltx_len h hlb
 obtain ⟨ts, h1, h2⟩ := scans_line (scans_ltx h hlb) (by omega)
 have hts : ts.length ≤ 5000 := by
  have := (lineOut_len (k := 0) (s := ltx lb s t))
  rw [line_eq _ (by omega)] at h2
  have := congrArg (fun o => (Option.map (fun y : List TokL × Int × Unit => y.1.length) o).getD 0) h2
  simp at this
  omega
 obtain ⟨g1, g2⟩ := parse_good (by omega) h hlb h1
 exact ⟨ts, h1, hts, h2, g1, g2⟩
end Rv
namespace Rv
open Go
theorem and15_rg (x : Int) : rg (bitsI .and .i64 x 15) := by
 have h1 : (BitVec.ofInt 64 x &&& BitVec.ofInt 64 15).toNat ≤ 15 := by
  rw [BitVec.toNat_and]
  exact Nat.and_le_right
 show rg (IntKind.i64.wrap (((BitVec.ofInt 64 x &&& BitVec.ofInt 64 15).toNat : Nat) : Int))
 rw [w64 (by omega)]
 exact ⟨by omega, by omega⟩
theorem and3_rg (x : Int) : 0 ≤ bitsI .and .i64 x 3 ∧ bitsI .and .i64 x 3 < 4 := by
 have h1 : (BitVec.ofInt 64 x &&& BitVec.ofInt 64 3).toNat ≤ 3 := by
  rw [BitVec.toNat_and]
  exact Nat.and_le_right
 show 0 ≤ IntKind.i64.wrap (((BitVec.ofInt 64 x &&& BitVec.ofInt 64 3).toNat : Nat) : Int) ∧ IntKind.i64.wrap (((BitVec.ofInt 64 x &&& BitVec.ofInt 64 3).toNat : Nat) : Int) < 4
 rw [w64 (by omega)]
 omega
def goodQ (K : Int) (r : Option (Int × Int × Int × Int × Int × Int × Bool × Unit)) : Prop := ∃ O A B C I U, r = some (K, O, A, B, C, I, U, ()) ∧ GoodI0 K O A B C U
theorem goodQ_mk {a b c d e f : Int} {g : Bool} (h : GoodI0 a b c d e g) : goodQ a (some (a, b, c, d, e, f, g, ())) := ⟨_, _, _, _, _, _, rfl, h⟩
theorem j10_q (n : Nat) (op a0 a1 a2 a3 a4 a5 : Int) (a6 : Bool) (b0 b1 b2 b3 b4 b5 : Int) (b6 : Bool) (k c d f : Int) (u : Bool) (hk : k = 1 ∨ k = 2) (ho : 0 ≤ op ∧ op < 12) (hu : u = true → 8 ≤ op ∧ op ≤ 10) (hc : rg c) (hd : rg d) (h0 : op = 0 → d = 0) :
  goodQ k (rivetref03_Fit.j10 n op a0 a1 a2 a3 a4 a5 a6 b0 b1 b2 b3 b4 b5 b6 k op c d 0 f u) := by
 unfold rivetref03_Fit.j10
 by_cases e1 : k = 1
 ·rw [if_pos (by simp [e1])]
  subst e1
  by_cases e2 : op = 0
  ·subst e2
   obtain rfl := h0 rfl
   have : u = false := by cases u; rfl; exact absurd (hu rfl).1 (by decide)
   subst this
   exact goodQ_mk (.mov hc (and15_rg _))
  ·exact goodQ_mk (.reg (by omega) ho.2 hc hd (and15_rg _) hu)
 ·obtain rfl : k = 2 := by omega
  rw [if_neg (by decide)]
  by_cases e2 : op = 0
  ·subst e2
   obtain rfl := h0 rfl
   have : u = false := by cases u; rfl; exact absurd (hu rfl).1 (by decide)
   subst this
   rw [if_pos (by decide)]
   unfold rivetref03_Fit.j25
   split
   ·exact goodQ_mk (.movi hc)
   ·exact goodQ_mk (.movi hc)
  ·rw [if_neg (by simp [e2])]
   exact goodQ_mk (.imm (by omega) ho.2 hc hd hu)
theorem j7_q (n : Nat) (op a0 a1 a2 a3 a4 a5 : Int) (a6 : Bool) (b0 b1 b2 b3 b4 b5 : Int) (b6 : Bool) (k c f : Int) (hk : k = 1 ∨ k = 2) (ho : 0 ≤ op ∧ op < 12) (hc : rg c) :
  goodQ k (rivetref03_Fit.j7 n op a0 a1 a2 a3 a4 a5 a6 b0 b1 b2 b3 b4 b5 b6 k op c 0 0 f false) := by
 have h9 : ∀ d, rg d → (op = 0 → d = 0) → goodQ k (rivetref03_Fit.j9 n op a0 a1 a2 a3 a4 a5 a6 b0 b1 b2 b3 b4 b5 b6 k op c d 0 f false) := by
  intro d hd h0
  unfold rivetref03_Fit.j9
  by_cases e1 : a6 = true
  ·rw [if_pos e1]
   by_cases e2 : (8 : Int) ≤ op
   ·rw [if_pos (by simpa using e2)]
    exact j10_q _ _ _ _ _ _ _ _ _ _ _ _ _ _ _ _ _ _ _ _ _ hk ho (fun h => ⟨e2, by simpa using h⟩) hc hd h0
   ·rw [if_neg (by simpa using e2)]
    exact j10_q _ _ _ _ _ _ _ _ _ _ _ _ _ _ _ _ _ _ _ _ _ hk ho (fun h => by cases h) hc hd h0
  ·rw [if_neg e1]
   exact j10_q _ _ _ _ _ _ _ _ _ _ _ _ _ _ _ _ _ _ _ _ _ hk ho (fun h => by cases h) hc hd h0
 unfold rivetref03_Fit.j7
 by_cases e : op = 0
 ·rw [if_neg (by simp [e])]; exact h9 0 ⟨by decide, by decide⟩ fun _ => rfl
 ·rw [if_pos (by simp [e])]; exact h9 _ (and15_rg _) fun h => absurd h e
theorem tmodB (x : Int) {m : Int} (hm : 0 < m) : -m < Int.tmod x m ∧ Int.tmod x m < m := ⟨Int.lt_tmod_of_pos x hm, Int.tmod_lt_of_pos x hm⟩
theorem fit03_q (i0 i1 i2 i3 i4 i5 : Int) (u : Bool) : goodQ (1 + Int.tmod (Int.tmod i0 7 + 7) 7) (rivetref03_Fit.g i0 i1 i2 i3 i4 i5 u) := by
 unfold rivetref03_Fit.g
 generalize 1000 + i0.toNat + i1.toNat + i2.toNat + i3.toNat + i4.toNat + i5.toNat = n
 unfold rivetref03_Fit.f
 have t1 := tmodB i0 (m := 7) (by decide)
 have t2 := tmodB i1 (m := 12) (by decide)
 have e1 : IntKind.i64.wrap (Int.tmod i0 7 + 7) = Int.tmod i0 7 + 7 := w64 (by omega)
 have e2 : IntKind.i64.wrap (Int.tmod i1 12 + 12) = Int.tmod i1 12 + 12 := w64 (by omega)
 rw [e1, e2]
 have t3 := tmodB (Int.tmod i0 7 + 7) (m := 7) (by decide)
 have t4 := tmodB (Int.tmod i1 12 + 12) (m := 12) (by decide)
 have t5 : 0 ≤ Int.tmod (Int.tmod i0 7 + 7) 7 := Int.tmod_nonneg _ (by omega)
 have t6 : 0 ≤ Int.tmod (Int.tmod i1 12 + 12) 12 := Int.tmod_nonneg _ (by omega)
 generalize Int.tmod (Int.tmod i0 7 + 7) 7 = q at *
 generalize Int.tmod (Int.tmod i1 12 + 12) 12 = op at *
 have e3 : IntKind.i64.wrap (1 + q) = 1 + q := w64 (by omega)
 rw [e3]
 clear e1 e2 e3 t1 t2
 generalize hk : 1 + q = k
 simp only [dt]
 have hop : 0 ≤ op ∧ op < 12 := ⟨t6, t4.2⟩
 have m3 := and3_rg i1
 by_cases k1 : k = 1
 ·rw [if_pos k1, if_pos k1]; exact j7_q _ _ _ _ _ _ _ _ _ _ _ _ _ _ _ _ _ _ _ (Or.inl k1) hop (and15_rg _)
 ·rw [if_neg k1]
  by_cases k2 : k = 2
  ·rw [if_pos k2]; exact j7_q _ _ _ _ _ _ _ _ _ _ _ _ _ _ _ _ _ _ _ (Or.inr k2) hop (and15_rg _)
  ·rw [if_neg k2]
   by_cases k5 : k = 5
   ·rw [if_pos k5, k5]; exact goodQ_mk (.mem m3.1 m3.2 (and15_rg _) (and15_rg _))
   ·rw [if_neg k5]
    by_cases k6 : k = 6
    ·rw [if_pos k6, k6]; exact goodQ_mk (.br (and15_rg _) (and15_rg _))
    ·rw [if_neg k6]
     by_cases k7 : k = 7
     ·rw [if_pos k7, k7]; exact goodQ_mk (.jmp (and15_rg _))
     ·rw [if_neg k7]
      have : k = 3 ∨ k = 4 := by omega
      rcases this with rfl | rfl
      ·exact goodQ_mk (.hi (and15_rg _))
      ·exact goodQ_mk (.fl (and15_rg _))
theorem fit07_name (s : Str) (hs : s.length ≤ 9223372036854775807) : ∃ r, rivetref07_Fit.g s = some (r, ()) ∧ nameOk r = true := by
 have key : ∃ r, rivetref07_Fit.g s = some (r, ()) ∧ (∃ c t, r = c :: t ∧ isA c = true ∧ c ≠ 82) ∧ r.all isW = true ∧ r.length ≤ 7 := by
  unfold rivetref07_Fit.g rivetref07_Fit.f
  have e1 : Int.tmod (s.length : Int) 26 = ((s.length % 26 : Nat) : Int) := by
   have : Int.tmod (s.length : Int) 26 = (s.length : Int) % 26 := Int.tmod_eq_emod_of_nonneg (by omega)
   rw [this]; omega
  have hk : s.length % 26 < 26 := Nat.mod_lt _ (by omega)
  rw [e1]
  have e2 : IntKind.u8.wrap (97 + IntKind.u8.wrap ((s.length % 26 : Nat) : Int)) = ((97 + s.length % 26 : Nat) : Int) := by
   rw [w8u (x := ((s.length % 26 : Nat) : Int)) (by omega), w8u (by omega)]; omega
  rw [e2]
  have hb : bytesOf [((97 + s.length % 26 : Nat) : Int)] = [UInt8.ofNat (97 + s.length % 26)] := rfl
  rw [hb]
  have hn : (UInt8.ofNat (97 + s.length % 26)).toNat = 97 + s.length % 26 := by rw [UInt8.toNat_ofNat', Nat.mod_eq_of_lt (by omega)]
  have hA : isA (UInt8.ofNat (97 + s.length % 26)) = true := by unfold isA; rw [hn]; simp; omega
  have hne : UInt8.ofNat (97 + s.length % 26) ≠ 82 := fun e => by have := congrArg UInt8.toNat e; rw [hn] at this; simp at this; omega
  exact fit07_loop (Q := fun c => isA c = true ∧ c ≠ 82) s hs (1000 + s.length) (1000 + s.length) 0 _ (by omega) (by omega) (by omega) rfl ⟨_, _, rfl, hA, hne⟩ (by rw [List.all_cons, isW, isA_L, hA]; rfl)
 obtain ⟨r, hr, ⟨c, t, rfl, hA, hne⟩, ha, hl⟩ := key
 refine ⟨_, hr, ?_⟩
 unfold nameOk regLike
 have h1 : (c :: t : Str).getD 0 0 = c := rfl
 have h2 : decide ((c :: t : Str).length ≤ 12) = true := by rw [decide_eq_true_eq]; omega
 rw [h1, h2, hA, ha, decide_eq_false hne]
 rfl
def smF (s : Sm) : Int × Int × Int × Int × Int × Bool × List Item × Str × Unit := (s.k, s.o, s.a, s.b, s.c, s.u, s.e, s.nm, ())
abbrev wfSm (s : Sm) : Prop := s.e.length ≤ 9223372036854775807 ∧ wfItems s.e ∧ s.nm.length ≤ 9223372036854775807
theorem fit17 (s : Sm) (hw : wfSm s) : ∃ x t, rivetref17_Fit.g s.k s.o s.a s.b s.c s.u s.e s.nm = some (smF x) ∧ GoodS x t := by
 unfold rivetref17_Fit.g
 generalize 1000 + s.k.toNat + s.o.toNat + s.a.toNat + s.b.toNat + s.c.toNat + s.e.length + s.nm.length = n
 unfold rivetref17_Fit.f
 obtain ⟨t, hf, ho, hp, hwl, hlen⟩ := fit_tree s.e hw.1 hw.2.1
 have hT : okT' t := ⟨ho, hp, hwl, by omega⟩
 rw [hf, Option.bind_some]
 have t1 := tmodB s.k (m := 11) (by decide)
 have e1 : IntKind.i64.wrap (Int.tmod s.k 11 + 11) = Int.tmod s.k 11 + 11 := w64 (by omega)
 rw [e1]
 have t3 := tmodB (Int.tmod s.k 11 + 11) (m := 11) (by decide)
 have t5 : 0 ≤ Int.tmod (Int.tmod s.k 11 + 11) 11 := Int.tmod_nonneg _ (by omega)
 generalize Int.tmod (Int.tmod s.k 11 + 11) 11 = k at *
 simp only [dt, df]
 have J9 : (k = 0 ∨ 8 ≤ k) → ∃ x t', rivetref17_Fit.j9 n k t.post s.k s.o s.a s.b s.c s.u s.e s.nm 0 0 0 0 0 false [] [] = some (smF x) ∧ GoodS x t' := by
  intro hk
  unfold rivetref17_Fit.j9
  simp only [dt]
  by_cases h8 : k = 8
  ·rw [if_pos h8, h8]; exact ⟨_, _, rfl, .load (and15_rg s.a) hT⟩
  ·rw [if_neg h8]
   by_cases h9 : k = 9
   ·rw [if_pos h9, h9]; exact ⟨_, _, rfl, .word hT⟩
   ·rw [if_neg h9]
    by_cases h10 : k = 10
    ·have hmn : 0 ≤ mn (s.nm.length : Int) 6 ∧ mn (s.nm.length : Int) 6 ≤ s.nm.length := by unfold mn; split <;> omega
     obtain ⟨r, hr, hn⟩ := fit07_name ((s.nm.take ((mn (s.nm.length : Int) 6)).toNat).drop 0) (by simp; omega)
     rw [if_pos h10, if_pos hmn, hr, Option.bind_some, h10]
     exact ⟨_, _, rfl, .exp hn⟩
    ·rw [if_neg h10]; exact ⟨_, _, rfl, .none⟩
 by_cases h1 : 1 ≤ k
 ·rw [if_pos h1]
  by_cases h7 : k ≤ 7
  ·rw [if_pos h7, w64 (x := k - 1) (by omega)]
   have hq := fit03_q (k - 1) s.o s.a s.b s.c 0 s.u
   have hkk : 1 + Int.tmod (Int.tmod (k - 1) 7 + 7) 7 = k := by
    have a1 : Int.tmod (k - 1) 7 = k - 1 := by rw [Int.tmod_eq_emod_of_nonneg (by omega)]; omega
    rw [a1, Int.tmod_eq_emod_of_nonneg (by omega)]; omega
   rw [hkk] at hq
   obtain ⟨O, A, B, C, I, U, hr, hg⟩ := hq
   rw [hr, Option.bind_some]
   unfold rivetref17_Fit.j8
   by_cases h2 : k = 2
   ·rw [if_neg (by simp [h2])]; exact ⟨_, _, rfl, .ins1 hg (by omega) hT⟩
   ·rw [if_pos h2]
    by_cases h5 : k = 5
    ·rw [if_neg (by simp [h5])]; exact ⟨_, _, rfl, .ins1 hg (by omega) hT⟩
    ·rw [if_pos h5]
     by_cases h77 : k = 7
     ·rw [if_pos h77]; exact ⟨_, _, rfl, .ins1 hg (by omega) hT⟩
     ·rw [if_neg h77]; exact ⟨_, _, rfl, .ins0 hg (by omega)⟩
  ·rw [if_neg h7]; exact J9 (by omega)
 ·rw [if_neg h1]; exact J9 (by omega)
theorem same_refl (s : Sm) (he : s.e.length ≤ 1000) : rivetref17_Same.g s.k s.o s.a s.b s.c s.u s.e s.nm s.k s.o s.a s.b s.c s.u s.e s.nm = some (true, ()) := by
 unfold rivetref17_Same.g
 generalize 1000 + _ + _ + _ + _ + _ + _ + _ + _ + _ + _ + _ + _ + _ + _ = n
 unfold rivetref17_Same.f rivetref17_Instr.g rivetref17_Instr.f
 rw [Option.bind_some, Option.bind_some, sameE_refl s.e he, if_pos (by simp), Option.bind_some, if_pos rfl]
 simp
theorem good_elen {s : Sm} {t : Option Tr} (h : GoodS s t) : s.e.length ≤ 64 ∧ s.e = postO t ∧ (∀ x, t = some x → okT' x) := by
 cases h with
 | none => exact ⟨by simp, rfl, fun x h => by cases h⟩
 | ins0 _ _ => exact ⟨by simp, rfl, fun x h => by cases h⟩
 | ins1 _ _ ht => exact ⟨ht.2.2.2, rfl, fun x h => by obtain rfl := Option.some.inj h; exact ht⟩
 | load _ ht => exact ⟨ht.2.2.2, rfl, fun x h => by obtain rfl := Option.some.inj h; exact ht⟩
 | word ht => exact ⟨ht.2.2.2, rfl, fun x h => by obtain rfl := Option.some.inj h; exact ht⟩
 | exp _ => exact ⟨by simp, rfl, fun x h => by cases h⟩
end Rv
namespace Rv
open Go
theorem shown17 : rivetlaw17_shown.g = some (true, ()) := by decide +kernel
abbrev wfE (l : List Item) : Prop := l.length ≤ maxLen ∧ ∀ x ∈ l, (Lit.int .i64 x.1).wf = true ∧ (Lit.int .u32 x.2.1).wf = true ∧ x.2.2.1.length ≤ maxLen ∧ True
theorem wfE_items {l : List Item} (h : wfE l) : l.length ≤ 9223372036854775807 ∧ wfItems l :=
 ⟨wfLen h.1, fun x hx => ⟨(wfU32 (h.2 x hx).2.1).1, (wfU32 (h.2 x hx).2.1).2, wfLen (h.2 x hx).2.2.1⟩⟩
theorem wfSm_of {k o a b c : Int} {u : Bool} {e : List Item} {nm : Str} (he : wfE e) (hn : nm.length ≤ maxLen) : wfSm ⟨k, o, a, b, c, u, e, nm⟩ := ⟨(wfE_items he).1, (wfE_items he).2, wfLen hn⟩
theorem cnt_part {s : Sm} {x : Tr} (h : GoodS s (some x)) {lb : Str} : x.dep ≤ Tr.cnt (ltk lb s (some x)) := by
 have h1 : ∃ a b, stk s (some x) = a ++ x.toks ++ b := by
  cases h with
  | ins1 h hk ht =>
   cases h with
   | imm q1 q2 _ _ _ =>
    have e := odL_imm q1
    unfold stk
    dsimp only
    rw [if_neg (by decide), e]
    exact ⟨[_, _, _, _, _], [], rfl⟩
   | movi _ => exact ⟨[_, _, _], [], rfl⟩
   | mem _ _ _ _ => exact ⟨[_, _, _, _, _], [], rfl⟩
   | jmp _ => exact ⟨[_], [], rfl⟩
   | reg => simp at hk
   | mov => simp at hk
   | hi => simp at hk
   | fl => simp at hk
   | br => simp at hk
  | load _ _ => exact ⟨[_, _, _, _], [], rfl⟩
  | word _ => exact ⟨[_], [], rfl⟩
 obtain ⟨a, b, h1⟩ := h1
 have h2 := Tr.dep_cnt x
 have h3 : Tr.cnt x.toks ≤ Tr.cnt (stk s (some x)) := by rw [h1, Tr.cnt_app, Tr.cnt_app]; omega
 unfold ltk
 split
 ·omega
 ·rw [Tr.cnt_cons, Tr.cnt_cons]; omega
theorem deep_ex {t : Option Tr} (h : ¬ deepOk t) : ∃ x, t = some x ∧ ¬ x.dep ≤ 8 :=
 Classical.byContradiction fun hc => h fun x hx => Classical.byContradiction fun hx2 => hc ⟨x, hx, hx2⟩
theorem label_take (s : Str) (hs : s.length ≤ 9223372036854775807) : 0 ≤ mn (s.length : Int) 20 ∧ mn (s.length : Int) 20 ≤ (s.length : Int) ∧ ∃ r, rivetref13_Fit.g ((s.take ((mn (s.length : Int) 20)).toNat).drop 0) = some (r, ()) ∧ labelOk r = true := by
 have hmn : 0 ≤ mn (s.length : Int) 20 ∧ mn (s.length : Int) 20 ≤ s.length := by unfold mn; split <;> omega
 obtain ⟨r, hr, hn, _⟩ := fit13_label ((s.take ((mn (s.length : Int) 20)).toNat).drop 0) (by simp; omega)
 exact ⟨hmn.1, hmn.2, r, hr, hn⟩
theorem brk_le (b : Bool) (l : List Bt) : (brk b l).length ≤ l.length + 2 := by unfold brk; split <;> simp
theorem toks_le : ∀ x : Tr, x.plain → x.toks.length + 2 ≤ 3 * x.post.length
 | .num n, _ => by simp [Tr.toks, Tr.post]
 | .nam s, _ => by simp [Tr.toks, Tr.post]
 | .neg x, h => by
  have h1 := toks_le x h
  have h2 := brk_le (decide (x.tight < 2)) x.toks
  have e1 : (Tr.neg x).toks = tNeg :: brk (decide (x.tight < 2)) x.toks := rfl
  have e2 : (Tr.neg x).post = x.post ++ [(3, 0, [], ())] := rfl
  rw [e1, e2]
  simp; omega
 | .br x, h => h.elim
 | .bin o a b, h => by
  have h1 := toks_le a h.1
  have h2 := toks_le b h.2
  have h3 := brk_le (decide (a.tight < o.tight)) a.toks
  have h4 := brk_le (decide (b.tight < o.tight + 1)) b.toks
  have e1 : (Tr.bin o a b).toks = brk (decide (a.tight < o.tight)) a.toks ++ tOp o :: brk (decide (b.tight < o.tight + 1)) b.toks := rfl
  have e2 : (Tr.bin o a b).post = a.post ++ b.post ++ [(o.kind, 0, [], ())] := rfl
  rw [e1, e2]
  simp; omega
theorem joinF_len (B : Nat) : ∀ (l : List (List Bt)), (∀ x ∈ l, x.length ≤ B) → ((l.map ((3, [44], 0) :: ·)).flatten).length ≤ (B + 1) * l.length
 | [], _ => by simp
 | y :: r, h => by
  have h1 := h y (by simp)
  have h2 := joinF_len B r fun z hz => h z (by simp [hz])
  rw [List.map_cons, List.flatten_cons, List.length_append, List.length_cons, List.length_cons, Nat.mul_add, Nat.mul_one]
  omega
theorem ltk_len {s : Sm} {t : Option Tr} (h : GoodS s t) (lb : Str) : (ltk lb s t).length ≤ 600 := by
 have hod := good_od h
 have one : ∀ d : Od, okOd s t d → (wtk s t d).length ≤ 191 := by
  intro d hd
  cases d with
  | E => obtain ⟨z, rfl, hz, _⟩ := hd; have := toks_le z hz.2.1; have := hz.2.2.2; show z.toks.length ≤ 191; omega
  | Q => obtain ⟨z, rfl, hz, _⟩ := hd; have := toks_le z hz.2.1; have := hz.2.2.2; show (_ :: z.toks).length ≤ 191; simp; omega
  | _ => simp [wtk]
 have h1 : (stk s t).length ≤ 590 := by
  unfold stk
  split
  ·simp
  ·have h3 := odL_len s.k s.o
   cases hl : odL s.k s.o with
   | nil => simp [joinB]
   | cons d ds =>
    rw [hl] at h3 hod
    have h4 := one d (hod d (List.mem_cons_self ..))
    have h5 := joinF_len 191 (ds.map (wtk s t)) fun x hx => by
     obtain ⟨d', hd', rfl⟩ := List.mem_map.1 hx
     exact one d' (hod d' (List.mem_cons_of_mem _ hd'))
    have e : joinB ((d :: ds).map (wtk s t)) = wtk s t d ++ ((ds.map (wtk s t)).map ((3, [44], 0) :: ·)).flatten := rfl
    rw [e, List.length_cons, List.length_append]
    rw [List.length_map] at h5
    have h6 : (191 + 1) * ds.length ≤ 192 * 2 := Nat.mul_le_mul (by decide) (by simp at h3; omega)
    omega
 unfold ltk
 split
 ·omega
 ·simp; omega
end Rv
