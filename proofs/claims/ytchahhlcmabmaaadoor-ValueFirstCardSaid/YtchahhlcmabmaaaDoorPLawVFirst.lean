/- ValueFirst: the plain law. -/
import Derived.Test.YtchahhlcmabmaaaDoorP16V
set_option linter.all false
namespace Rv
open Go

theorem findR_app (s : Str) : ∀ a b : List Sym, findR s (a ++ b) = (findR s a).or (findR s b)
  | [], b => by simp [findR]
  | x :: a, b => by
    simp only [List.cons_append, findR]
    split
    · rfl
    · exact findR_app s a b

theorem findR_app_some {s : Str} {a : List Sym} (b : List Sym) (h : (findR s a).isSome = true) : findR s (a ++ b) = findR s a := by
  rw [findR_app]
  cases hf : findR s a with
  | some v => rfl
  | none => rw [hf] at h; cases h

theorem findR_first : ∀ {l : List Sym} {x : Sym}, (l.map (·.1)).Nodup → x ∈ l → findR x.1 l = some x.2.1
  | y :: l, x, hn, hm => by
    simp only [List.map_cons, List.nodup_cons] at hn
    unfold findR
    rcases List.mem_cons.1 hm with rfl | hm
    · rw [if_pos rfl]
    · have hne : ¬ y.1 = x.1 := fun e => hn.1 (e ▸ List.mem_map_of_mem hm)
      rw [if_neg hne]
      exact findR_first hn.2 hm

theorem findR_none : ∀ {l : List Sym} {s : Str}, (∀ x ∈ l, x.1 ≠ s) → findR s l = none
  | [], _, _ => rfl
  | x :: l, s, h => by
    unfold findR
    rw [if_neg (h x (by simp))]
    exact findR_none fun y hy => h y (by simp [hy])

abbrev zz : Str := [122, 122, 95, 122, 122]

theorem first_loop (b : Int) (labels : List Sym) (hlg : goodSyms labels) (hl8 : labels.length ≤ 8) (e : List Item) (hew : wellL e) (hel : e.length ≤ 19) (heg : ∀ x ∈ e, goodItem x) (hef : ∀ x ∈ e, x.1 = 2 → (findR x.2.2.1 labels).isSome = true)
    (v1 v2 x : Int) (hval : value_Of.g e labels = some (v1, v2, x, ())) (n : Nat) :
    ∀ (m i : Nat), i ≤ labels.length → labels.length - i < m → rivetlaw16_ValueFirst.l7 n m b true labels e x (labels ++ [(zz, b, ())] ++ (labels.take i).map (fun y => (y.1, b, ()))) (i : Int) v1 v2 = some (true, ()) := by
  intro m
  induction m with
  | zero => intro i _ h; omega
  | succ m ih =>
    intro i hi hm
    simp only [rivetlaw16_ValueFirst.l7, dt, df, Int.toNat_natCast]
    by_cases h1 : i < labels.length
    · have hmem : labels.getD i (([] : Str), ((0 : Int), ())) ∈ labels := by
        rw [List.getD_eq_getElem?_getD, List.getElem?_eq_getElem h1]; exact List.getElem_mem h1
      have htk : labels.take (i + 1) = labels.take i ++ [labels.getD i (([] : Str), ((0 : Int), ()))] := by
        rw [List.take_succ_eq_append_getElem h1, List.getD_eq_getElem?_getD, List.getElem?_eq_getElem h1]; rfl
      have hih := ih (i + 1) (by omega) (by omega)
      rw [htk, List.map_append, List.map_cons, List.map_nil, ← List.append_assoc] at hih
      generalize labels.getD i (([] : Str), ((0 : Int), ())) = y at hmem hih ⊢
      have hf1 := findR_first hlg.2 hmem
      have hf2 : findR y.1 (labels ++ [(zz, b, ())] ++ (labels.take i).map (fun y => (y.1, b, ())) ++ [(y.1, b, ())]) = some y.2.1 := by
        rw [List.append_assoc, List.append_assoc, findR_app_some _ (by rw [hf1]; rfl), hf1]
      rw [if_pos (by omega), if_pos (by omega), if_pos (by simp; omega), if_pos (by omega), find_eq _ _ (by simp; omega), hf2, Option.bind_some]
      simp only [Option.getD_some, Option.isSome_some, Bool.not_true]
      rw [if_pos trivial, if_pos (by omega), if_neg (by simp), w64 (by omega)]
      exact hih
    · rw [if_neg (by omega), List.take_of_length_le (by omega)]
      have hlab : labels.length ≤ 4611686018427387904 := by omega
      have hcong : runR (labels ++ [(zz, b, ())] ++ labels.map (fun y => (y.1, b, ()))) [] e = runR labels [] e := run_congr [] fun y hy h2 => by
        rw [List.append_assoc]; exact findR_app_some _ (hef y hy h2)
      have hval2 : value_Of.g e (labels ++ [(zz, b, ())] ++ labels.map (fun y => (y.1, b, ()))) = some (v1, v2, x, ()) := by
        rcases run_ways labels hew heg with ⟨k, hk0, hk⟩ | ⟨v, hv0, hv⟩
        · rw [val_err labels hlab hew (by omega) hk] at hval
          rw [← hval]
          exact val_err _ (by simp; omega) hew (by omega) (by rw [hcong]; exact hk)
        · rw [val_ok labels hlab hew (by omega) hv] at hval
          rw [← hval]
          exact val_ok _ (by simp; omega) hew (by omega) (by rw [hcong]; exact hv)
      have hzn : findR zz labels = none := findR_none fun y hy => (hlg.1 y hy).2.2
      have wz : wellL [((2 : Int), (0 : Int), zz, ())] := by unfold wellL; decide +kernel
      have wZ := well_two wz hew iAdd rfl
      have rZ : runR labels [] ([((2 : Int), (0 : Int), zz, ())] ++ e ++ [iAdd]) = .error 25 := by
        rw [run_two labels hew iAdd]
        have : runR labels [] [((2 : Int), (0 : Int), zz, ())] = .error 25 := by
          simp only [runR, stepR]
          rw [if_pos trivial, hzn]
        rw [this]
      rw [hval2, Option.bind_some]
      simp only [List.nil_append]
      rw [if_pos (by simp; omega), if_pos (by simp; omega), if_pos (by simp; omega), ← List.append_assoc, val_err labels hlab wZ (by simp; omega) rZ, Option.bind_some, find_eq _ _ hlab, hzn, Option.bind_some]
      simp

theorem vfirst_law (a : List Item) (names : List Str) (b : Int) (ha : a.length ≤ 9223372036854775807) (hwa : wfItems a) (hn : names.length ≤ 9223372036854775807) (hwn : ∀ s ∈ names, s.length ≤ 9223372036854775807) :
    rivetlaw16_ValueFirst.g a names b = some (true, ()) := by
  unfold rivetlaw16_ValueFirst.g rivetlaw16_ValueFirst.f
  obtain ⟨labels, hlf, hlg, hl8⟩ := fit16_eq names hn hwn
  rw [shown16_eq, Option.bind_some, hlf, Option.bind_some]
  dsimp only
  obtain ⟨p, hpe, hpw, hpl, hpg, hpf⟩ := named_eq a ha hwa labels hl8 hlg
  have hlab : labels.length ≤ 4611686018427387904 := by omega
  have key : ∃ v1 v2 x, value_Of.g p labels = some (v1, v2, x, ()) := by
    rcases run_ways labels hpw hpg with ⟨y, _, hy⟩ | ⟨y, _, hy⟩
    · exact ⟨_, _, _, val_err labels hlab hpw (by omega) hy⟩
    · exact ⟨_, _, _, val_ok labels hlab hpw (by omega) hy⟩
  obtain ⟨v1, v2, x, hval⟩ := key
  rw [hpe, Option.bind_some, hval, Option.bind_some]
  dsimp only
  rw [if_pos (by simp; omega), if_pos (by simp; omega), List.nil_append]
  have := first_loop b labels hlg hl8 p hpw hpl hpg hpf v1 v2 x hval (1000 + a.length + names.length + b.toNat) (1000 + a.length + names.length + b.toNat) 0 (by omega) (by omega)
  rw [List.take_zero, List.map_nil, List.append_nil] at this
  exact this

theorem vfirst_wf {a : List Item} {names : List Str} {b : Int} (h : (a.length ≤ maxLen ∧ ∀ x ∈ a, (Lit.int .i64 x.1).wf = true ∧ (Lit.int .u32 x.2.1).wf = true ∧ x.2.2.1.length ≤ maxLen ∧ True) ∧ (names.length ≤ maxLen ∧ ∀ s ∈ names, s.length ≤ maxLen) ∧ (Lit.int .i64 b).wf = true ∧ True) :
    rivetlaw16_ValueFirst.g a names b = some (true, ()) :=
  vfirst_law a names b (items_wf h.1).1 (items_wf h.1).2 (names_wf h.2.1).1 (names_wf h.2.1).2

end Rv
