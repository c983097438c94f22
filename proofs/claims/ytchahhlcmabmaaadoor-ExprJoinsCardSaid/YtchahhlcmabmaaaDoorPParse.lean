/- What the parser does with an expression's tokens. -/
import Derived.Test.YtchahhlcmabmaaaDoorPTree
set_option linter.all false
namespace Rv
open Go

abbrev R := rec_expr_parser_sum
abbrev dTok : TokL := ((0 : Int), ((0 : Int), (([] : Str), ((0 : Int), ()))))

theorem next_at (l : List TokL) (p : Nat) (out : List Item) (hp : p < l.length) : expr_parser_next.g l p out 0 = some ((l.getD p dTok).1, (l.getD p dTok).2.1, (l.getD p dTok).2.2.1, (l.getD p dTok).2.2.2.1, true, l, (p : Int), out, 0, ()) := by
  unfold expr_parser_next.g expr_parser_next.f
  simp only [df, dt]
  rw [if_pos (by simp), if_pos (by omega), if_neg (by omega), if_pos (by omega), Int.toNat_natCast]

theorem next_end (l : List TokL) (p : Nat) (out : List Item) (hp : l.length ≤ p) : expr_parser_next.g l p out 0 = some (0, 0, [], 0, false, l, (p : Int), out, 0, ()) := by
  unfold expr_parser_next.g expr_parser_next.f
  simp only [df, dt]
  rw [if_pos (by simp), if_pos (by omega), if_pos (by omega)]

theorem next_err (l : List TokL) (p : Int) (out : List Item) (e : Int) (he : e ≠ 0) : expr_parser_next.g l p out e = some (0, 0, [], 0, false, l, p, out, e, ()) := by
  unfold expr_parser_next.g expr_parser_next.f
  simp only [df]
  rw [if_neg (by simpa using he)]

theorem sign_loop (n : Nat) (all : List Str) (hall : all.length ≤ 100) (ok : Bool) (l : List TokL) (p : Int) (out : List Item) (e k a : Int) (tx : Str) (nn : Int) : ∀ (m i : Nat), i ≤ all.length → all.length - i < m →
    expr_parser_sign.l3 n m ok all (all.length : Int) (i : Int) l p out e k a tx nn = if ok = true ∧ k = 3 ∧ tx ∈ all.drop i then some (tx, true, l, IntKind.i64.wrap (p + 1), out, e, ()) else some ([], false, l, p, out, e, ()) := by
  intro m
  induction m with
  | zero => intro i _ h; omega
  | succ m ih =>
    intro i hi hm
    rw [expr_parser_sign.l3]
    simp only [dt, expr_parser_sign.j8, Int.toNat_natCast]
    by_cases h : i < all.length
    · have hd : all.drop i = all.getD i [] :: all.drop (i + 1) := by
        rw [List.drop_eq_getElem_cons h, List.getD_eq_getElem?_getD, List.getElem?_eq_getElem h]; rfl
      have hih := ih (i + 1) (by omega) (by omega)
      rw [if_pos (by omega), if_pos (by omega), w64 (x := (i : Int) + 1) (by omega), show (i : Int) + 1 = ((i + 1 : Nat) : Int) by omega, hih, hd]
      generalize all.getD i [] = s
      by_cases h1 : ok = true
      · rw [if_pos h1]
        by_cases h2 : k = 3
        · rw [if_pos h2]
          by_cases h3 : tx = s
          · rw [if_pos h3, if_pos ⟨h1, h2, by simp [h3]⟩, h3]
          · rw [if_neg h3]
            by_cases h4 : tx ∈ all.drop (i + 1)
            · rw [if_pos ⟨h1, h2, h4⟩, if_pos ⟨h1, h2, by simp [h4]⟩]
            · rw [if_neg (fun h => h4 h.2.2), if_neg (fun h => by simp [h3, h4] at h)]
        · rw [if_neg h2, if_neg (fun h => h2 h.2.1), if_neg (fun h => h2 h.2.1)]
      · rw [if_neg h1, if_neg (fun h => h1 h.1), if_neg (fun h => h1 h.1)]
    · have : i = all.length := by omega
      subst this
      rw [if_neg (by omega), if_neg (fun h => by simp at h)]

theorem sign_err (all : List Str) (hall : all.length ≤ 100) (l : List TokL) (p : Int) (out : List Item) (e : Int) (he : e ≠ 0) : expr_parser_sign.g all l p out e = some ([], false, l, p, out, e, ()) := by
  unfold expr_parser_sign.g expr_parser_sign.f
  rw [next_err l p out e he, Option.bind_some]
  have := sign_loop (1000 + all.length + l.length + p.toNat + out.length + e.toNat) all hall false l p out e 0 0 [] 0 (1000 + all.length + l.length + p.toNat + out.length + e.toNat) 0 (by omega) (by omega)
  rw [if_neg (fun h => by cases h.1)] at this
  exact this

/-- Where the parser stands: these tokens, and others behind them. -/
def At (l : List TokL) (p : Nat) (k : List Bt) : Prop := (l.drop p).map bare = k

theorem At.cons {l : List TokL} {p : Nat} {b : Bt} {k : List Bt} (h : At l p (b :: k)) : p < l.length ∧ bare (l.getD p dTok) = b ∧ At l (p + 1) k := by
  unfold At at h
  have hp : p < l.length := by
    apply Classical.byContradiction
    intro hn
    rw [List.drop_eq_nil_of_le (by omega)] at h
    cases h
  have hd : l.drop p = l.getD p dTok :: l.drop (p + 1) := by
    rw [List.drop_eq_getElem_cons hp, List.getD_eq_getElem?_getD, List.getElem?_eq_getElem hp]; rfl
  rw [hd, List.map_cons, List.cons.injEq] at h
  exact ⟨hp, h.1, h.2⟩

theorem At.app {l : List TokL} {k' : List Bt} : ∀ {k : List Bt} {p : Nat}, At l p (k ++ k') → At l (p + k.length) k' ∧ p + k.length ≤ l.length ∨ k = []
  | [], _, _ => .inr rfl
  | b :: k, p, h => by
    obtain ⟨h1, _, h3⟩ := At.cons h
    rcases At.app h3 with ⟨h4, h5⟩ | rfl
    · left
      rw [List.length_cons, show p + (k.length + 1) = p + 1 + k.length by omega]
      exact ⟨h4, h5⟩
    · left; exact ⟨h3, by simp; omega⟩

theorem At.app' {l : List TokL} {k k' : List Bt} {p : Nat} (h : At l p (k ++ k')) : At l (p + k.length) k' := by
  rcases At.app h with ⟨h, _⟩ | rfl
  · exact h
  · exact h

theorem At.len {l : List TokL} {k k' : List Bt} {p : Nat} (h : At l p (k ++ k')) (hk : k ≠ []) : p + k.length ≤ l.length := by
  rcases At.app h with ⟨_, h⟩ | rfl
  · exact h
  · exact absurd rfl hk

/-- The next token is none of these signs. -/
def noS (all : List Str) (k : List Bt) : Prop := ∀ b r, k = b :: r → ¬ (b.1 = 3 ∧ b.2.1 ∈ all)

theorem sign_yes (all : List Str) (hall : all.length ≤ 100) {l : List TokL} {p : Nat} {s : Str} {v : Int} {k : List Bt} (h : At l p ((3, s, v) :: k)) (hl : l.length ≤ 1000000) (hs : s ∈ all) (out : List Item) : expr_parser_sign.g all l p out 0 = some (s, true, l, ((p + 1 : Nat) : Int), out, 0, ()) := by
  obtain ⟨h1, h2, _⟩ := At.cons h
  unfold expr_parser_sign.g expr_parser_sign.f
  rw [next_at l p out h1, Option.bind_some]
  simp only [bare, Prod.mk.injEq] at h2
  have := sign_loop (1000 + all.length + l.length + (p : Int).toNat + out.length + (0 : Int).toNat) all hall true l p out 0 (l.getD p dTok).1 (l.getD p dTok).2.1 (l.getD p dTok).2.2.1 (l.getD p dTok).2.2.2.1 (1000 + all.length + l.length + (p : Int).toNat + out.length + (0 : Int).toNat) 0 (by omega) (by omega)
  rw [if_pos ⟨rfl, h2.1, by rw [h2.2.1]; simpa using hs⟩, h2.2.1, w64 (by omega)] at this
  dsimp only
  rw [h2.2.1]
  exact this

theorem sign_no (all : List Str) (hall : all.length ≤ 100) {l : List TokL} {p : Nat} {k : List Bt} (h : At l p k) (hs : noS all k) (out : List Item) : expr_parser_sign.g all l p out 0 = some ([], false, l, (p : Int), out, 0, ()) := by
  unfold expr_parser_sign.g expr_parser_sign.f
  cases k with
  | nil =>
    have hp : l.length ≤ p := by
      unfold At at h
      have := congrArg List.length h
      simp at this; omega
    rw [next_end l p out hp, Option.bind_some]
    have := sign_loop (1000 + all.length + l.length + (p : Int).toNat + out.length + (0 : Int).toNat) all hall false l p out 0 0 0 [] 0 (1000 + all.length + l.length + (p : Int).toNat + out.length + (0 : Int).toNat) 0 (by omega) (by omega)
    rw [if_neg (fun h => by cases h.1)] at this
    exact this
  | cons b r =>
    obtain ⟨h1, h2, _⟩ := At.cons h
    rw [next_at l p out h1, Option.bind_some]
    have hb := hs b r rfl
    have := sign_loop (1000 + all.length + l.length + (p : Int).toNat + out.length + (0 : Int).toNat) all hall true l p out 0 (l.getD p dTok).1 (l.getD p dTok).2.1 (l.getD p dTok).2.2.1 (l.getD p dTok).2.2.2.1 (1000 + all.length + l.length + (p : Int).toNat + out.length + (0 : Int).toNat) 0 (by omega) (by omega)
    rw [if_neg (fun h => hb (by rw [← h2]; exact ⟨h.2.1, h.2.2⟩))] at this
    exact this

theorem put_eq (a b : Int) (c : Str) (l : List TokL) (p : Int) (out : List Item) (e : Int) (ho : out.length ≤ 1000000) : expr_parser_put.g a b c l p out e = some (l, p, out ++ [(a, b, c, ())], e, ()) := by
  unfold expr_parser_put.g expr_parser_put.f
  rw [if_pos (by simp; omega)]

theorem fail_eq (x : Int) (l : List TokL) (p : Int) (out : List Item) : expr_parser_fail.g x l p out 0 = some (l, p, out, x, ()) := by
  unfold expr_parser_fail.g expr_parser_fail.f
  rw [if_pos (by decide)]

abbrev sMul : List Str := [[42]]
abbrev sAdd : List Str := [[43], [45]]

/-- A factor's tokens, parsed: the items, or too deep. -/
def okF (t : Tr) : Prop := ∀ (l : List TokL) (p : Nat) (out : List Item) (rest : List Bt) (d q : Nat), l.length ≤ 1000000 → out.length + t.post.length ≤ 1000000 → At l p (t.toksA 2 ++ rest) → d ≤ 9 → 6 * (9 - d) + 1 ≤ q →
  (d + t.depA 2 ≤ 8 → (R q).expr_parser_factor (d : Int) l p out 0 = some (l, ((p + (t.toksA 2).length : Nat) : Int), out ++ t.post, 0, ())) ∧
  (¬ d + t.depA 2 ≤ 8 → ∃ (p' : Int) (out' : List Item), (R q).expr_parser_factor (d : Int) l p out 0 = some (l, p', out', 24, ()) ∧ out'.length ≤ out.length + t.post.length)

/-- How many products stand in a row. -/
def mc : Tr → Nat
  | .bin .mul a _ => mc a + 1
  | _ => 0

def okT (t : Tr) : Prop := ∀ (l : List TokL) (p : Nat) (out : List Item) (rest : List Bt) (d q m n : Nat), l.length ≤ 1000000 → out.length + t.post.length ≤ 1000000 → At l p (t.toksA 1 ++ rest) → d ≤ 9 → 6 * (9 - d) + 2 ≤ q → mc t < m →
  (d + t.depA 1 ≤ 8 → ((R q).expr_parser_sum_1_1 (d : Int) l p out 0).bind (fun y1 => expr_parser_row_c52.l1 n (R q) m sMul y1.2.2.1 y1.2.2.2.1 y1.2.2.2.2.1 y1.2.2.2.2.2.1 y1.2.1) = expr_parser_row_c52.l1 n (R q) (m - mc t) sMul l ((p + (t.toksA 1).length : Nat) : Int) (out ++ t.post) 0 (d : Int)) ∧
  (¬ d + t.depA 1 ≤ 8 → ∃ (p' : Int) (out' : List Item), ((R q).expr_parser_sum_1_1 (d : Int) l p out 0).bind (fun y1 => expr_parser_row_c52.l1 n (R q) m sMul y1.2.2.1 y1.2.2.2.1 y1.2.2.2.2.1 y1.2.2.2.2.2.1 y1.2.1) = some (l, p', out', 24, (), (d : Int), ()) ∧ out'.length ≤ out.length + t.post.length)

/-- How many sums and differences stand in a row. -/
def ac : Tr → Nat
  | .bin .add a _ => ac a + 1
  | .bin .sub a _ => ac a + 1
  | _ => 0

def okS (t : Tr) : Prop := ∀ (l : List TokL) (p : Nat) (out : List Item) (rest : List Bt) (d q m n : Nat), l.length ≤ 1000000 → out.length + t.post.length ≤ 1000000 → At l p (t.toks ++ rest) → noS sMul rest → d ≤ 9 → 6 * (9 - d) + 4 ≤ q → ac t < m →
  (d + t.dep ≤ 8 → ((R q).expr_parser_sum_1 (d : Int) l p out 0).bind (fun y1 => expr_parser_row_c51.l1 n (R q) m sAdd y1.2.2.1 y1.2.2.2.1 y1.2.2.2.2.1 y1.2.2.2.2.2.1 y1.2.1) = expr_parser_row_c51.l1 n (R q) (m - ac t) sAdd l ((p + t.toks.length : Nat) : Int) (out ++ t.post) 0 (d : Int)) ∧
  (¬ d + t.dep ≤ 8 → ∃ (p' : Int) (out' : List Item), ((R q).expr_parser_sum_1 (d : Int) l p out 0).bind (fun y1 => expr_parser_row_c51.l1 n (R q) m sAdd y1.2.2.1 y1.2.2.2.1 y1.2.2.2.2.1 y1.2.2.2.2.2.1 y1.2.1) = some (l, p', out', 24, (), (d : Int), ()) ∧ out'.length ≤ out.length + t.post.length)

theorem mc_le : ∀ t : Tr, mc t ≤ t.post.length
  | .num _ => Nat.zero_le _
  | .nam _ => Nat.zero_le _
  | .neg _ => Nat.zero_le _
  | .bin .mul a b => by have := mc_le a; simp [mc, Tr.post]; omega
  | .bin .add _ _ => Nat.zero_le _
  | .bin .sub _ _ => Nat.zero_le _
  | .br _ => Nat.zero_le _

theorem ac_le : ∀ t : Tr, ac t ≤ t.post.length
  | .num _ => Nat.zero_le _
  | .nam _ => Nat.zero_le _
  | .neg _ => Nat.zero_le _
  | .bin .mul _ _ => Nat.zero_le _
  | .bin .add a b => by have := ac_le a; simp [ac, Tr.post]; omega
  | .bin .sub a b => by have := ac_le a; simp [ac, Tr.post]; omega
  | .br _ => Nat.zero_le _

end Rv
