/- ExprJoins: the plain law. -/
import Derived.Test.YtchahhlcmabmaaaDoorP15
set_option linter.all false
namespace Rv
open Go

theorem Scans.join {a b : Str} {x y : List Bt} (ha : Scans a x) (hb : Scans b y) (c : UInt8) (hc : c ∈ ([40, 41, 42, 43, 45] : Str)) : Scans (a ++ c :: b) (x ++ (3, [c], 0) :: y) := fun k => by
  obtain ⟨t1, h1, h2⟩ := ha k
  obtain ⟨t2, h3, h4⟩ := hb (k + a.length + 1)
  have hw : isW c = false := by
    simp only [List.mem_cons, List.not_mem_nil, or_false] at hc
    rcases hc with rfl | rfl | rfl | rfl | rfl <;> decide
  refine ⟨t1 ++ [(3, k + a.length, [c], 0, ())] ++ t2, ?_, fun r hr => ?_⟩
  · rw [List.map_append, List.map_append, h1, h3, List.append_assoc]; rfl
  · have e : (a ++ c :: b) ++ r = a ++ (c :: (b ++ r)) := by simp
    rw [e, h2 _ (.inr ⟨c, _, rfl, hw⟩), line_sig c hc, h4 r hr, ← preE_app, ← preE_app]
    congr 2
    simp; omega

theorem lineR_toks {s : Str} (hs : s.length ≤ 1000000) {ts : List TokL} (h : scan_Line.g s = some (ts, 0, ())) : ts.length ≤ s.length := by
  have := (lineOut_len (k := 0) (s := s))
  rw [line_eq s hs] at h
  have := congrArg (fun o => (Option.map (fun y : List TokL × Int × Unit => y.1.length) o).getD 0) h
  simp at this
  omega

theorem joins_step (n m : Nat) (x y : Tr) (hx : x.ok ∧ x.plain ∧ wellL x.post ∧ x.post.length ≤ 19) (hy : y.ok ∧ y.plain ∧ wellL y.post ∧ y.post.length ≤ 19) (o : Opr) :
    rivetlaw15_ExprJoins.l10 n (m + 1) x.txt y.txt (x.post ++ y.post) o.kind = rivetlaw15_ExprJoins.l10 n m x.txt y.txt (x.post ++ y.post) (o.kind + 1) := by
  obtain ⟨xo, xp, xw, xl⟩ := hx
  obtain ⟨yo, yp, yw, yl⟩ := hy
  have tx := txt_len x xo xp
  have ty := txt_len y yo yp
  have hk : 4 ≤ o.kind ∧ o.kind ≤ 6 := by cases o <;> decide
  have hw1 : IntKind.i64.wrap (o.kind - 4) = o.kind - 4 := w64 (by omega)
  have hsg : ([([43] : Str), ([45] : Str), ([42] : Str)].getD (o.kind - 4).toNat []) = [o.byte] := by cases o <;> rfl
  have hlen := List.length_append (as := x.post) (bs := y.post)
  -- the text with brackets
  have hsc : Scans ((40 :: (x.txt ++ [41])) ++ o.byte :: (40 :: (y.txt ++ [41]))) (Tr.bin o (.br x) (.br y)).toks := by
    have := ((scans_tree x xo).brk).join ((scans_tree y yo).brk) o.byte (by cases o <;> simp [Opr.byte])
    have e : (Tr.bin o (.br x) (.br y)).toks = (tLp :: (x.toks ++ [tRp])) ++ (3, [o.byte], 0) :: (tLp :: (y.toks ++ [tRp])) := by cases o <;> rfl
    rw [e]; exact this
  have hsl : ((40 :: (x.txt ++ [41])) ++ o.byte :: (40 :: (y.txt ++ [41])) : Str).length ≤ 1000 := by simp; omega
  obtain ⟨ts, hb, hs⟩ := scans_line hsc (by omega)
  have htl := lineR_toks (by omega) hs
  have htoks : ts.length = (Tr.bin o (.br x) (.br y)).toks.length := by rw [← hb, List.length_map]
  have hbp : (Tr.bin o (.br x) (.br y)).post = x.post ++ y.post ++ [(o.kind, 0, [], ())] := rfl
  obtain ⟨g1, g2⟩ := eparse_eq (t := Tr.bin o (.br x) (.br y)) ⟨xo, yo⟩ ts 0 [] (by omega) (by rw [hbp]; simp; omega) (At.whole hb) (noS_nil _) (noS_nil _)
  rw [hbp, show ((0 : Nat) : Int) = 0 from rfl] at g1
  rw [show ((0 : Nat) : Int) = 0 from rfl] at g2
  -- the text without
  have hpp : (Tr.bin o x y).post = x.post ++ y.post ++ [(o.kind, 0, [], ())] := rfl
  have hwl : wellL (Tr.bin o x y).post := by
    rw [hpp]
    exact well_two xw yw (o.kind, 0, [], ()) (by cases o <;> rfl)
  have hpr := eprint_eq (t := Tr.bin o x y) ⟨xo, yo⟩ ⟨xp, yp⟩ hwl (by rw [hpp]; simp; omega)
  rw [hpp] at hpr
  have hpl : (Tr.bin o x y).txt.length ≤ x.txt.length + y.txt.length + 7 := by
    have h1 := brkT_len (decide (x.tight < o.tight)) x.txt
    have h2 := brkT_len (decide (y.tight < o.tight + 1)) y.txt
    simp only [Tr.txt, List.length_append, List.length_cons, List.length_nil]; omega
  rw [rivetlaw15_ExprJoins.l10]
  simp only [dt, df, hw1, hsg, List.nil_append]
  have e1 : ([40] ++ x.txt ++ [41] ++ [o.byte] ++ [40] ++ y.txt ++ [41] : Str) = (40 :: (x.txt ++ [41])) ++ o.byte :: (40 :: (y.txt ++ [41])) := by simp
  rw [if_pos hk.2, if_pos (by simp; omega), if_pos (by simp; omega), if_pos (by omega), if_pos (by simp; omega), if_pos (by simp; omega), if_pos (by simp; omega), if_pos (by simp; omega), if_pos (by simp; omega), if_pos (by simp; omega), e1, hs, Option.bind_some]
  dsimp only
  have w2 : IntKind.i64.wrap (IntKind.i64.wrap ((x.txt.length : Int) + (y.txt.length : Int)) + 7) = (x.txt.length : Int) + y.txt.length + 7 := by
    rw [w64 (x := (x.txt.length : Int) + (y.txt.length : Int)) (by omega), w64 (by omega)]
  have wk : IntKind.i64.wrap (o.kind + 1) = o.kind + 1 := w64 (by omega)
  by_cases hd : (Tr.bin o (.br x) (.br y)).dep ≤ 8
  · rw [g1 hd, Option.bind_some, hpr, Option.bind_some]
    dsimp only
    rw [if_pos (show ¬ ((0 : Int) ≠ 0) by decide), if_pos (show ¬ ((0 : Int) ≠ 0) by decide), w2, if_neg (by omega), if_pos (show (0 : Int) ≠ 24 by decide), if_pos (show ¬ ((0 : Int) ≠ 0) by decide), if_pos (by rw [htoks]; simp), sameE_refl _ (by simp; omega), Option.bind_some]
    dsimp only
    rw [if_neg (show ¬ (!true) = true by decide)]
    unfold rivetlaw15_ExprJoins.j11
    rw [wk]
  · rw [g2 hd, Option.bind_some, hpr, Option.bind_some]
    dsimp only
    rw [if_pos (show ¬ ((0 : Int) ≠ 0) by decide), if_pos (show ¬ ((0 : Int) ≠ 0) by decide), w2, if_neg (by omega), if_neg (show ¬ ((24 : Int) ≠ 24) by decide)]
    unfold rivetlaw15_ExprJoins.j11
    rw [wk]

theorem ejoins_law (a b : List Item) (ha : a.length ≤ 9223372036854775807) (hwa : wfItems a) (hb : b.length ≤ 9223372036854775807) (hwb : wfItems b) : rivetlaw15_ExprJoins.g a b = some (true, ()) := by
  unfold rivetlaw15_ExprJoins.g rivetlaw15_ExprJoins.f
  obtain ⟨x, hxf, hx⟩ := fit_tree a ha hwa
  obtain ⟨y, hyf, hy⟩ := fit_tree b hb hwb
  rw [shownE_eq, Option.bind_some, hxf, Option.bind_some, hyf, Option.bind_some]
  dsimp only
  rw [eprint_eq hx.1 hx.2.1 hx.2.2.1 (by omega), Option.bind_some, eprint_eq hy.1 hy.2.1 hy.2.2.1 (by omega), Option.bind_some]
  dsimp only
  rw [if_pos (by decide), if_pos (show decide ((0 : Int) ≠ 0) = false by decide), if_neg (show ¬ decide ((0 : Int) ≠ 0) = true by decide), if_pos (by simp; omega), if_pos (by simp; omega), List.nil_append]
  obtain ⟨N, hN⟩ : ∃ N, 1000 + a.length + b.length = N + 1 + 1 + 1 + 1 := ⟨996 + a.length + b.length, by omega⟩
  have s1 := joins_step (1000 + a.length + b.length) (N + 1 + 1 + 1) x y hx hy .add
  have s2 := joins_step (1000 + a.length + b.length) (N + 1 + 1) x y hx hy .sub
  have s3 := joins_step (1000 + a.length + b.length) (N + 1) x y hx hy .mul
  have e1 : Opr.add.kind = 4 := rfl
  have e2 : Opr.sub.kind = 4 + 1 := rfl
  have e3 : Opr.mul.kind = 4 + 1 + 1 := rfl
  rw [e1] at s1
  rw [e2] at s2
  rw [e3] at s3
  rw [← hN] at s1
  rw [s1, s2, s3, rivetlaw15_ExprJoins.l10]
  simp only [dt]
  rw [if_neg (by decide)]

theorem ejoins_wf {a b : List Item} (h : (a.length ≤ maxLen ∧ ∀ x ∈ a, (Lit.int .i64 x.1).wf = true ∧ (Lit.int .u32 x.2.1).wf = true ∧ x.2.2.1.length ≤ maxLen ∧ True) ∧ (b.length ≤ maxLen ∧ ∀ x ∈ b, (Lit.int .i64 x.1).wf = true ∧ (Lit.int .u32 x.2.1).wf = true ∧ x.2.2.1.length ≤ maxLen ∧ True) ∧ True) : rivetlaw15_ExprJoins.g a b = some (true, ()) :=
  ejoins_law a b (wfLen h.1.1) (fun x hx => ⟨(wfU32 (h.1.2 x hx).2.1).1, (wfU32 (h.1.2 x hx).2.1).2, wfLen (h.1.2 x hx).2.2.1⟩) (wfLen h.2.1.1) (fun x hx => ⟨(wfU32 (h.2.1.2 x hx).2.1).1, (wfU32 (h.2.1.2 x hx).2.1).2, wfLen (h.2.1.2 x hx).2.2.1⟩)

end Rv
