/- ExprBack: the plain law. -/
import Derived.Test.YtchahhlcmabmaaaDoorP15
set_option linter.all false
namespace Rv
open Go

theorem back_count (t : List TokL) (hl : t.length ≤ 1000000) (n : Nat) : ∀ (m i : Nat) (d : Nat), i ≤ t.length → t.length - i < m → d ≤ i →
    rivetlaw15_ExprBack.l11 n m t (d : Int) (i : Int) = some (decide (8 < d + Tr.cnt ((t.drop i).map bare)), ()) := by
  intro m
  induction m with
  | zero => intro i d _ h; omega
  | succ m ih =>
    intro i d hi hm hd
    rw [rivetlaw15_ExprBack.l11]
    simp only [dt, df, rivetlaw15_ExprBack.j12, Int.toNat_natCast]
    by_cases h : i < t.length
    · have hx : t.drop i = t.getD i dTok :: t.drop (i + 1) := by
        rw [List.drop_eq_getElem_cons h, List.getD_eq_getElem?_getD, List.getElem?_eq_getElem h]; rfl
      rw [if_pos (by omega), if_pos (by omega), hx, List.map_cons, Tr.cnt_cons]
      have g0 := ih (i + 1) d (by omega) (by omega) (by omega)
      have g1 := ih (i + 1) (d + 1) (by omega) (by omega) (by omega)
      have w1 : IntKind.i64.wrap ((i : Int) + 1) = ((i + 1 : Nat) : Int) := by rw [w64 (by omega)]; omega
      have w2 : IntKind.i64.wrap ((d : Int) + 1) = ((d + 1 : Nat) : Int) := by rw [w64 (by omega)]; omega
      rw [w1, w2, g0, g1]
      show (if ¬ (t.getD i dTok).2.2.1 = [45] then _ else _) = _
      have hb : (bare (t.getD i dTok)).2.1 = (t.getD i dTok).2.2.1 := rfl
      rw [hb]
      show (if ¬ (t.getD i dTok).2.2.1 = [45] then (if 0 ≤ (i : Int) ∧ (i : Int) < t.length then (if (t.getD i dTok).2.2.1 = [40] then _ else _) else none) else _) = _
      by_cases h1 : (t.getD i dTok).2.2.1 = [45]
      · rw [if_neg (by simpa using h1), h1]
        simp
        omega
      · rw [if_pos h1, if_pos (by omega)]
        by_cases h2 : (t.getD i dTok).2.2.1 = [40]
        · rw [if_pos h2, h2]
          simp
          omega
        · rw [if_neg h2, if_neg (show ¬ (decide ((t.getD i dTok).2.2.1 = [45]) || decide ((t.getD i dTok).2.2.1 = [40])) = true by rw [decide_eq_false h1, decide_eq_false h2]; decide)]
          simp
    · rw [if_neg (by omega), List.drop_eq_nil_of_le (by omega)]
      simp [Tr.cnt]
      omega

theorem eback_law (l : List Item) (hl : l.length ≤ 9223372036854775807) (hw : wfItems l) : rivetlaw15_ExprBack.g l = some (true, ()) := by
  unfold rivetlaw15_ExprBack.g rivetlaw15_ExprBack.f
  obtain ⟨t, hf, ho, hp, hwl, hlen⟩ := fit_tree l hl hw
  have htl := txt_len t ho hp
  obtain ⟨ts, hb, hs⟩ := scans_line (scans_tree t ho) (by omega)
  have htoks : ts.length = t.toks.length := by rw [← hb, List.length_map]
  have hts : ts.length ≤ 380 := by
    have := (lineOut_len (k := 0) (s := t.txt))
    rw [line_eq t.txt (by omega)] at hs
    have := congrArg (fun o => (Option.map (fun y : List TokL × Int × Unit => y.1.length) o).getD 0) hs
    simp at this
    omega
  obtain ⟨g1, g2⟩ := eparse_eq ho ts 0 [] (by omega) (by omega) (At.whole hb) (noS_nil _) (noS_nil _)
  rw [shownE_eq, Option.bind_some, hf, Option.bind_some]
  dsimp only
  rw [eprint_eq ho hp hwl (by omega), Option.bind_some]
  dsimp only
  rw [hs, Option.bind_some]
  dsimp only
  rw [show ((0 : Nat) : Int) = 0 from rfl] at g1 g2
  by_cases hd : t.dep ≤ 8
  · rw [g1 hd, Option.bind_some]
    dsimp only
    rw [if_pos (by decide), well_eq t.post (by omega), well_of hwl (by omega), Option.bind_some]
    dsimp only
    rw [if_pos (by decide), if_pos (show decide ((0 : Int) ≠ 0) = false by decide), if_neg (show ¬ decide ((0 : Int) ≠ 0) = true by decide), if_neg (show ¬ decide ((0 : Int) = 24) = true by decide), if_pos (show decide ((0 : Int) = 0) = true by decide),
      if_pos (by rw [htoks]; simp), sameE_refl t.post (by omega), Option.bind_some]
  · rw [g2 hd, Option.bind_some]
    dsimp only
    rw [if_pos (by decide), well_eq t.post (by omega), well_of hwl (by omega), Option.bind_some]
    dsimp only
    rw [if_pos (by decide), if_pos (show decide ((0 : Int) ≠ 0) = false by decide), if_neg (show ¬ decide ((0 : Int) ≠ 0) = true by decide), if_pos (show decide ((24 : Int) = 24) = true by decide)]
    have := back_count ts (by omega) (1000 + l.length) (1000 + l.length) 0 0 (by omega) (by omega) (by omega)
    rw [show ((0 : Nat) : Int) = 0 from rfl] at this
    rw [this, List.drop_zero, hb]
    have := Tr.dep_cnt t
    simp
    omega

theorem eback_wf {l : List Item} (h : (l.length ≤ maxLen ∧ ∀ x ∈ l, (Lit.int .i64 x.1).wf = true ∧ (Lit.int .u32 x.2.1).wf = true ∧ x.2.2.1.length ≤ maxLen ∧ True) ∧ True) : rivetlaw15_ExprBack.g l = some (true, ()) :=
  eback_law l (wfLen h.1.1) (fun x hx => ⟨(wfU32 (h.1.2 x hx).2.1).1, (wfU32 (h.1.2 x hx).2.1).2, wfLen (h.1.2 x hx).2.2.1⟩)

end Rv
