/- What Print tells of an expression. -/
import Derived.Test.YtchahhlcmabmaaaDoorPText
set_option linter.all false
namespace Rv
open Go

abbrev dIt : Item := ((0 : Int), ((0 : Int), (([] : Str), ())))

theorem pat_eq (s : Str) (hs : s.length ≤ 1000000) (k lv : Nat) : expr_part_at.g s (k : Int) (lv : Int) = some (brkT (decide (k < lv)) s, ()) := by
  unfold expr_part_at.g expr_part_at.f brkT
  by_cases h : k < lv
  · rw [if_pos (by simp; omega), if_pos (by simp; omega), if_pos (by simp; omega), if_pos (by simpa using h)]
    simp
  · rw [if_neg (by simp; omega), if_neg (by simpa using h)]

theorem fu_eq (n : Int) (h : 0 ≤ n ∧ n ≤ 4294967295) : strconv_FormatUint.g (IntKind.u64.wrap n) 10 = some (Lib.itoa n, ()) := by
  rw [w64u (by omega)]
  unfold strconv_FormatUint.g strconv_FormatUint.f L.formatUintO
  rw [if_pos ⟨rfl, h.1, by omega⟩]
  rfl

def parts (st : List Tr) : List (Str × Int × Unit) := st.map fun t => (t.txt, (t.tight : Int), ())

theorem parts_len (st : List Tr) : (parts st).length = st.length := by simp [parts]
theorem parts_app (a b : List Tr) : parts (a ++ b) = parts a ++ parts b := by simp [parts]

theorem it_at {e : List Item} {i : Nat} {x : Item} {r : List Item} (h : e.drop i = x :: r) : i < e.length ∧ e.getD i dIt = x ∧ e.drop (i + 1) = r := by
  have hi : i < e.length := by
    apply Classical.byContradiction
    intro hn
    rw [List.drop_eq_nil_of_le (by omega)] at h
    cases h
  have hd : e.drop i = e.getD i dIt :: e.drop (i + 1) := by
    rw [List.drop_eq_getElem_cons hi, List.getD_eq_getElem?_getD, List.getElem?_eq_getElem hi]; rfl
  rw [hd, List.cons.injEq] at h
  exact ⟨hi, h.1, h.2⟩

theorem j23_eq (n : Nat) (rl) (st on : List Tr) (e : List Item) (i : Nat) (he : e.length ≤ 1000) (hi : i < e.length) (s : Str) (k : Int) (hst : st.length + on.length ≤ 1000) :
    expr_Print.j23 n rl (parts (st ++ on)) (on.length : Int) e (e.length : Int) (i : Int) s k = rl (parts st ++ [(s, k, ())]) e (e.length : Int) ((i + 1 : Nat) : Int) := by
  unfold expr_Print.j23
  have hl : (parts (st ++ on)).length = st.length + on.length := by rw [parts_len]; simp
  have hw : IntKind.i64.wrap (((parts (st ++ on)).length : Int) - (on.length : Int)) = (st.length : Int) := by rw [hl, w64 (by omega)]; omega
  have ht : (parts (st ++ on)).take st.length = parts st := by
    rw [parts_app]
    exact List.take_left' (parts_len st)
  rw [hw, hl, if_pos (by omega), Int.toNat_natCast, ht, if_pos (by rw [parts_len]; simp; omega), w64 (by omega)]
  rfl

theorem print_run (e : List Item) (he : e.length ≤ 1000) (n : Nat) : ∀ t : Tr, t.ok → t.plain → ∀ (st : List Tr) (m i : Nat) (rest : List Item), st.length + t.post.length ≤ 1000 → e.drop i = t.post ++ rest →
    expr_Print.l5 n (m + t.post.length) (parts st) e (e.length : Int) (i : Int) = expr_Print.l5 n m (parts (st ++ [t])) e (e.length : Int) ((i + t.post.length : Nat) : Int)
  | .num v, ho, hp, st, m, i, rest, hst, hd => by
    obtain ⟨h1, h2, _⟩ := it_at (x := (1, v, [], ())) (r := rest) hd
    show expr_Print.l5 n (m + 1) (parts st) e (e.length : Int) (i : Int) = _
    rw [expr_Print.l5]
    simp only [dt, Int.toNat_natCast]
    rw [if_pos (by omega), if_pos (by omega), h2]
    dsimp only
    rw [needs_eq, Option.bind_some]
    have e0 : (needsR (1, v, [], ())).1 = 0 := rfl
    dsimp only
    rw [e0, if_pos (by rw [parts_len, w64 (by simp [Tr.post] at hst; omega)]; omega), if_pos rfl, fu_eq v ho, Option.bind_some]
    have := j23_eq n (expr_Print.l5 n m) st [] e i he h1 (Lib.itoa v) 2 (by simp [Tr.post] at hst ⊢; omega)
    rw [List.append_nil] at this
    rw [show ((0 : Int)) = (([] : List Tr).length : Int) from rfl, this, parts_app]
    rfl
  | .nam s, ho, hp, st, m, i, rest, hst, hd => by
    obtain ⟨h1, h2, _⟩ := it_at (x := (2, 0, s, ())) (r := rest) hd
    show expr_Print.l5 n (m + 1) (parts st) e (e.length : Int) (i : Int) = _
    rw [expr_Print.l5]
    simp only [dt, Int.toNat_natCast]
    rw [if_pos (by omega), if_pos (by omega), h2]
    dsimp only
    rw [needs_eq, Option.bind_some]
    have e0 : (needsR (2, 0, s, ())).1 = 0 := rfl
    dsimp only
    rw [e0, if_pos (by rw [parts_len, w64 (by simp [Tr.post] at hst; omega)]; omega), if_neg (show ¬ (2 : Int) = 1 by decide), if_pos rfl]
    have := j23_eq n (expr_Print.l5 n m) st [] e i he h1 s 2 (by simp [Tr.post] at hst ⊢; omega)
    rw [List.append_nil] at this
    rw [show ((0 : Int)) = (([] : List Tr).length : Int) from rfl, this, parts_app]
    rfl
  | .neg x, ho, hp, st, m, i, rest, hst, hd => by
    have hP : (Tr.neg x).post = x.post ++ [(3, 0, [], ())] := rfl
    rw [hP, List.append_assoc] at hd
    rw [hP] at hst ⊢
    simp only [List.length_append, List.length_cons, List.length_nil] at hst ⊢
    have hx := print_run e he n x ho hp st (m + 1) i ((3, 0, [], ()) :: rest) (by omega) hd
    rw [show m + (x.post.length + (0 + 1)) = m + 1 + x.post.length by omega, hx]
    have hd2 : e.drop (i + x.post.length) = (3, 0, [], ()) :: rest := by
      rw [← List.drop_drop, hd]
      exact List.drop_left' rfl
    obtain ⟨h1, h2, _⟩ := it_at hd2
    have hl := txt_len x ho hp
    rw [expr_Print.l5]
    simp only [dt, Int.toNat_natCast]
    rw [if_pos (by omega), if_pos (by omega), h2]
    dsimp only
    rw [needs_eq, Option.bind_some]
    have e0 : (needsR (3, 0, [], ())).1 = 1 := rfl
    have hpl : (parts (st ++ [x])).length = st.length + 1 := by rw [parts_len]; simp
    have hw : IntKind.i64.wrap (((parts (st ++ [x])).length : Int) - 1) = (st.length : Int) := by rw [hpl, w64 (by omega)]; omega
    have hon : ((parts (st ++ [x])).take (parts (st ++ [x])).length).drop st.length = [(x.txt, (x.tight : Int), ())] := by
      rw [List.take_length, parts_app]
      exact List.drop_left' (parts_len st)
    dsimp only
    rw [e0, hw, if_pos (by rw [hpl]; omega), if_neg (show ¬ (3 : Int) = 1 by decide), if_neg (show ¬ (3 : Int) = 2 by decide), if_pos rfl]
    simp only [Int.toNat_natCast, hon]
    rw [if_pos (by simp), show ([(x.txt, (x.tight : Int), ())] : List (Str × Int × Unit)).getD (0 : Int).toNat (([] : Str), ((0 : Int), ())) = (x.txt, (x.tight : Int), ()) from rfl]
    dsimp only
    rw [show (2 : Int) = ((2 : Nat) : Int) from rfl, pat_eq x.txt (by omega), Option.bind_some]
    dsimp only
    have hb := brkT_len (decide (x.tight < 2)) x.txt
    rw [if_pos (by simp; omega)]
    have := j23_eq n (expr_Print.l5 n m) st [x] e (i + x.post.length) he h1 ([45] ++ brkT (decide (x.tight < 2)) x.txt) 2 (by simp; omega)
    rw [show (1 : Int) = (([x] : List Tr).length : Int) from rfl, show ((2 : Nat) : Int) = 2 from rfl, this, parts_app]
    rfl
  | .br x, _, hp, _, _, _, _, _, _ => hp.elim
  | .bin o a b, ho, hp, st, m, i, rest, hst, hd => by
    have hP : (Tr.bin o a b).post = a.post ++ b.post ++ [(o.kind, 0, [], ())] := rfl
    rw [hP, List.append_assoc, List.append_assoc] at hd
    rw [hP] at hst ⊢
    simp only [List.length_append, List.length_cons, List.length_nil] at hst ⊢
    have hxa := print_run e he n a ho.1 hp.1 st (m + 1 + b.post.length) i (b.post ++ ((o.kind, 0, [], ()) :: rest)) (by omega) hd
    have hd2 : e.drop (i + a.post.length) = b.post ++ ((o.kind, 0, [], ()) :: rest) := by
      rw [← List.drop_drop, hd]
      exact List.drop_left' rfl
    have hxb := print_run e he n b ho.2 hp.2 (st ++ [a]) (m + 1) (i + a.post.length) ((o.kind, 0, [], ()) :: rest) (by simp; omega) hd2
    rw [show m + (a.post.length + b.post.length + (0 + 1)) = m + 1 + b.post.length + a.post.length by omega, hxa, hxb]
    have hd3 : e.drop (i + a.post.length + b.post.length) = (o.kind, 0, [], ()) :: rest := by
      rw [← List.drop_drop, hd2]
      exact List.drop_left' rfl
    obtain ⟨h1, h2, _⟩ := it_at hd3
    have hla := txt_len a ho.1 hp.1
    have hlb := txt_len b ho.2 hp.2
    rw [expr_Print.l5]
    simp only [dt, Int.toNat_natCast]
    rw [if_pos (by omega), if_pos (by omega), h2]
    dsimp only
    rw [needs_eq, Option.bind_some]
    have e0 : (needsR (o.kind, 0, [], ())).1 = 2 := by cases o <;> rfl
    have hpl : (parts (st ++ [a] ++ [b])).length = st.length + 2 := by rw [parts_len]; simp
    have hw : IntKind.i64.wrap (((parts (st ++ [a] ++ [b])).length : Int) - 2) = (st.length : Int) := by rw [hpl, w64 (by omega)]; omega
    have hon : ((parts (st ++ [a] ++ [b])).take (parts (st ++ [a] ++ [b])).length).drop st.length = [(a.txt, (a.tight : Int), ()), (b.txt, (b.tight : Int), ())] := by
      rw [List.take_length, List.append_assoc, parts_app]
      exact List.drop_left' (parts_len st)
    dsimp only
    rw [e0, hw, if_pos (by rw [hpl]; omega), if_neg (show ¬ o.kind = 1 by cases o <;> decide), if_neg (show ¬ o.kind = 2 by cases o <;> decide), if_neg (show ¬ o.kind = 3 by cases o <;> decide)]
    simp only [Int.toNat_natCast, hon]
    have g0 : ([(a.txt, (a.tight : Int), ()), (b.txt, (b.tight : Int), ())] : List (Str × Int × Unit)).getD (0 : Int).toNat (([] : Str), ((0 : Int), ())) = (a.txt, (a.tight : Int), ()) := rfl
    have g1 : ([(a.txt, (a.tight : Int), ()), (b.txt, (b.tight : Int), ())] : List (Str × Int × Unit)).getD (1 : Int).toNat (([] : Str), ((0 : Int), ())) = (b.txt, (b.tight : Int), ()) := rfl
    simp only [g0, g1]
    have hb0 := brkT_len (decide (a.tight < 0)) a.txt
    have hb1 := brkT_len (decide (a.tight < 1)) a.txt
    have hc1 := brkT_len (decide (b.tight < 1)) b.txt
    have hc2 := brkT_len (decide (b.tight < 2)) b.txt
    have t0 : expr_part_at.g a.txt (a.tight : Int) (0 : Int) = some (brkT (decide (a.tight < 0)) a.txt, ()) := pat_eq a.txt (by omega) a.tight 0
    have t1 : expr_part_at.g a.txt (a.tight : Int) (1 : Int) = some (brkT (decide (a.tight < 1)) a.txt, ()) := pat_eq a.txt (by omega) a.tight 1
    have u1 : expr_part_at.g b.txt (b.tight : Int) (1 : Int) = some (brkT (decide (b.tight < 1)) b.txt, ()) := pat_eq b.txt (by omega) b.tight 1
    have u2 : expr_part_at.g b.txt (b.tight : Int) (2 : Int) = some (brkT (decide (b.tight < 2)) b.txt, ()) := pat_eq b.txt (by omega) b.tight 2
    have fin := fun s k => j23_eq n (expr_Print.l5 n m) st [a, b] e (i + a.post.length + b.post.length) he h1 s k (by have := Tr.post_pos a; have := Tr.post_pos b; simp only [List.length_cons, List.length_nil]; omega)
    have hab : st ++ [a] ++ [b] = st ++ [a, b] := by simp
    rw [hab]
    cases o with
    | add =>
      rw [if_pos (show Opr.add.kind = 4 from rfl), if_pos (by simp), t0, Option.bind_some]
      dsimp only [Opr.tight]
      rw [if_pos (by simp only [List.length_append, List.length_cons, List.length_nil]; omega), if_pos (by simp), u1, Option.bind_some]
      dsimp only
      rw [if_pos (by simp only [List.length_append, List.length_cons, List.length_nil]; omega), show (2 : Int) = (([a, b] : List Tr).length : Int) from rfl, fin, parts_app, List.append_assoc, show i + a.post.length + b.post.length + 1 = i + (a.post.length + b.post.length + (0 + 1)) by omega]
      rfl
    | sub =>
      rw [if_neg (show ¬ Opr.sub.kind = 4 by decide), if_pos (show Opr.sub.kind = 5 from rfl), if_pos (by simp), t0, Option.bind_some]
      dsimp only [Opr.tight]
      rw [if_pos (by simp only [List.length_append, List.length_cons, List.length_nil]; omega), if_pos (by simp), u1, Option.bind_some]
      dsimp only
      rw [if_pos (by simp only [List.length_append, List.length_cons, List.length_nil]; omega), show (2 : Int) = (([a, b] : List Tr).length : Int) from rfl, fin, parts_app, List.append_assoc, show i + a.post.length + b.post.length + 1 = i + (a.post.length + b.post.length + (0 + 1)) by omega]
      rfl
    | mul =>
      rw [if_neg (show ¬ Opr.mul.kind = 4 by decide), if_neg (show ¬ Opr.mul.kind = 5 by decide), if_pos (show Opr.mul.kind = 6 from rfl), if_pos (by simp), t1, Option.bind_some]
      dsimp only [Opr.tight]
      rw [if_pos (by simp only [List.length_append, List.length_cons, List.length_nil]; omega), if_pos (by simp), u2, Option.bind_some]
      dsimp only
      rw [if_pos (by simp only [List.length_append, List.length_cons, List.length_nil]; omega), show (2 : Int) = (([a, b] : List Tr).length : Int) from rfl, fin, parts_app, List.append_assoc, show i + a.post.length + b.post.length + 1 = i + (a.post.length + b.post.length + (0 + 1)) by omega]
      rfl

/-- An expression's text. -/
theorem eprint_eq {t : Tr} (ho : t.ok) (hp : t.plain) (hw : wellL t.post) (hl : t.post.length ≤ 64) : expr_Print.g t.post = some (t.txt, 0, ()) := by
  unfold expr_Print.g expr_Print.f
  rw [well_eq t.post (by omega), well_of hw hl, Option.bind_some]
  dsimp only
  rw [if_neg (show ¬ (!true) = true by decide)]
  obtain ⟨N, hN⟩ : ∃ N, 1000 + t.post.length = N + 1 + t.post.length := ⟨999, by omega⟩
  rw [hN]
  have := print_run t.post (by omega) (N + 1 + t.post.length) t ho hp [] (N + 1) 0 [] (by simp; omega) (by simp)
  rw [show parts [] = [] from rfl, show ((0 : Nat) : Int) = 0 from rfl] at this
  rw [this, expr_Print.l5]
  simp only [dt]
  rw [if_neg (by omega), if_pos (by rw [parts_len]; simp)]
  rfl

end Rv
