/- Labels that are made, and expressions of them. -/
import Derived.Test.YtchahhlcmabmaaaDoorPNamed
import Derived.Test.YtchahhlcmabmaaaDoorPMore
set_option linter.all false
namespace Rv
open Go

theorem shown16_eq : rivetlaw16_shown.g = some (true, ()) := by decide +kernel

theorem labelOk_ne {s : Str} (h : labelOk s = true) : s ≠ [] := by
  intro e; subst e; revert h; decide

theorem wl {n : Nat} (h : n ≤ maxLen) : n ≤ 9223372036854775807 := wfLen h

theorem findR_isSome {s : Str} : ∀ {l : List Sym} {x : Sym}, x ∈ l → x.1 = s → (findR s l).isSome = true
  | y :: l, x, hm, hs => by
    unfold findR
    split
    · rfl
    · rename_i hne
      rcases List.mem_cons.1 hm with rfl | hm
      · exact absurd hs hne
      · exact findR_isSome hm hs

theorem fit16_loop (l : List Str) (hl : l.length ≤ 9223372036854775807) (hw : ∀ s ∈ l, s.length ≤ 9223372036854775807) (n : Nat) : ∀ (m i : Nat) (out : List Sym), i ≤ l.length → i ≤ 8 → 8 - i < m → out.length ≤ i → goodSyms out →
    ∃ r, rivetref16_Fit.l3 n m l out (i : Int) = some (r, ()) ∧ goodSyms r ∧ r.length ≤ 8 := by
  intro m
  induction m with
  | zero => intro i out _ _ h; omega
  | succ m ih =>
    intro i out hi h8 hm hlen hg
    simp only [rivetref16_Fit.l3, dt, Int.toNat_natCast]
    by_cases h1 : i < l.length
    · by_cases h2 : i < 8
      · rw [if_pos (by omega), if_pos (by omega), if_pos (by omega)]
        have hs : l.getD i [] ∈ l := by
          rw [List.getD_eq_getElem?_getD, List.getElem?_eq_getElem h1]; exact List.getElem_mem h1
        obtain ⟨nm, hf, hlab, hnl, hzz⟩ := fit15_name (l.getD i []) (hw _ hs)
        generalize l.getD i [] = s at hf ⊢
        rw [hf, Option.bind_some]
        have hget : ([((2 : Int), (0 : Int), nm, ())] : List Item).getD ((0 : Int)).toNat ((0 : Int), ((0 : Int), (([] : Str), ()))) = ((2 : Int), 0, nm, ()) := rfl
        simp only [hget]
        rw [if_pos (by simp), find16_eq out nm (by omega), Option.bind_some]
        dsimp only
        have hj : rivetref16_Fit.j4 n (rivetref16_Fit.l3 n m) l out (i : Int) = rivetref16_Fit.l3 n m l out ((i + 1 : Nat) : Int) := by
          unfold rivetref16_Fit.j4
          rw [w64 (by omega)]; rfl
        cases hfd : findR nm out with
        | some a =>
          rw [if_neg (by simp), hj]
          exact ih (i + 1) out (by omega) (by omega) (by omega) (by omega) hg
        | none =>
          rw [if_pos (by simp), if_pos (by simp), if_pos (by simp [labelOk_ne hlab]), if_pos (by simp), if_pos (by omega), if_pos (by simp; omega)]
          unfold rivetref16_Fit.j4
          rw [w64 (x := (i : Int) + 1) (by omega)]
          refine ih (i + 1) (out ++ [(nm, _, ())]) (by omega) (by omega) (by omega) (by simp; omega) ⟨fun x hx => ?_, ?_⟩
          · rcases List.mem_append.1 hx with hx | hx
            · exact hg.1 x hx
            · rw [List.mem_singleton] at hx; subst hx; exact ⟨hlab, hnl, hzz⟩
          · rw [List.map_append, List.nodup_append]
            refine ⟨hg.2, by simp, fun a ha b hb => ?_⟩
            simp only [List.map_cons, List.map_nil, List.mem_singleton] at hb
            subst hb
            intro e
            subst e
            exact findR_mem hfd ha
      · rw [if_pos (by omega), if_neg (by omega)]
        exact ⟨out, rfl, hg, by omega⟩
    · rw [if_neg (by omega)]
      exact ⟨out, rfl, hg, by omega⟩

theorem fit16_eq (l : List Str) (hl : l.length ≤ 9223372036854775807) (hw : ∀ s ∈ l, s.length ≤ 9223372036854775807) : ∃ r, rivetref16_Fit.g l = some (r, ()) ∧ goodSyms r ∧ r.length ≤ 8 :=
  fit16_loop l hl hw _ _ 0 [] (by omega) (by omega) (by omega) (by simp) ⟨fun _ h => (by cases h), by simp⟩

theorem enough_congr : ∀ {a b : List Item} (t : Int), a.map needsR = b.map needsR → enough t a = enough t b
  | [], [], _, _ => rfl
  | [], _ :: _, _, h => by simp at h
  | _ :: _, [], _, h => by simp at h
  | x :: a, y :: b, t, h => by
    simp only [List.map_cons, List.cons.injEq] at h
    unfold enough
    rw [h.1]
    split
    · exact enough_congr _ h.2
    · rfl

theorem set_needs {l : List Item} {i : Nat} {x : Item} (hi : i < l.length) (h : needsR x = needsR (l.getD i ((0 : Int), ((0 : Int), (([] : Str), ()))))) : (l.set i x).map needsR = l.map needsR := by
  rw [List.map_set, h]
  apply List.ext_getElem?
  intro j
  rw [List.getElem?_set]
  split
  · rename_i e
    subst e
    simp [hi, List.getD_eq_getElem?_getD]
  · rfl

theorem take_set {α : Type} {l : List α} {i : Nat} {x : α} (hi : i < l.length) : (l.set i x).take (i + 1) = l.take i ++ [x] := by
  rw [List.take_succ_eq_append_getElem (by simpa using hi)]
  simp [List.take_set_of_le]

theorem named_loop (labels : List Sym) (hlab : labels.length ≤ 8) (hg : goodSyms labels) (n : Nat) : ∀ (m i : Nat) (out : List Item), i ≤ out.length → out.length ≤ 19 → out.length - i < m → (∀ x ∈ out, goodItem x) → (∀ x ∈ out, x.2.2.1.length ≤ 12) → (∀ x ∈ out.take i, x.1 = 2 → (findR x.2.2.1 labels).isSome = true) →
    ∃ r, rivetref16_Named.l3 n m labels out (i : Int) = some (r, ()) ∧ r.map needsR = out.map needsR ∧ r.length = out.length ∧ (∀ x ∈ r, goodItem x) ∧ ∀ x ∈ r, x.1 = 2 → (findR x.2.2.1 labels).isSome = true := by
  intro m
  induction m with
  | zero => intro i out _ _ h; omega
  | succ m ih =>
    intro i out hi h19 hm hgo hnl ht
    simp only [rivetref16_Named.l3, dt, Int.toNat_natCast]
    by_cases h1 : i < out.length
    · have hmem : out.getD i ((0 : Int), ((0 : Int), (([] : Str), ()))) ∈ out := by
        rw [List.getD_eq_getElem?_getD, List.getElem?_eq_getElem h1]; exact List.getElem_mem h1
      have hgx := hgo _ hmem
      have hnx := hnl _ hmem
      have htk : out.take (i + 1) = out.take i ++ [out.getD i ((0 : Int), ((0 : Int), (([] : Str), ())))] := by
        rw [List.take_succ_eq_append_getElem h1, List.getD_eq_getElem?_getD, List.getElem?_eq_getElem h1]; rfl
      rw [if_pos (by omega), if_pos (by omega)]
      -- what comes of one item that is put there
      have put : ∀ x : Item, needsR x = needsR (out.getD i ((0 : Int), ((0 : Int), (([] : Str), ())))) → goodItem x → x.2.2.1.length ≤ 12 → (x.1 = 2 → (findR x.2.2.1 labels).isSome = true) → ∃ r, rivetref16_Named.j4 n (rivetref16_Named.l3 n m) labels (out.set i x) (i : Int) = some (r, ()) ∧ r.map needsR = out.map needsR ∧ r.length = out.length ∧ (∀ x ∈ r, goodItem x) ∧ ∀ x ∈ r, x.1 = 2 → (findR x.2.2.1 labels).isSome = true := by
        intro x hx hxg hxn hxf
        unfold rivetref16_Named.j4
        rw [w64 (by omega)]
        obtain ⟨r, h1', h2', h3', h4', h5'⟩ := ih (i + 1) (out.set i x) (by simp; omega) (by simp; omega) (by simp; omega) (fun y hy => by
            rcases List.mem_or_eq_of_mem_set hy with hy | rfl
            · exact hgo y hy
            · exact hxg) (fun y hy => by
            rcases List.mem_or_eq_of_mem_set hy with hy | rfl
            · exact hnl y hy
            · exact hxn) (fun y hy => by
            rw [take_set h1] at hy
            rcases List.mem_append.1 hy with hy | hy
            · exact ht y hy
            · rw [List.mem_singleton] at hy; subst hy; exact hxf)
        exact ⟨r, h1', by rw [h2', set_needs h1 hx], by rw [h3', List.length_set], h4', h5'⟩
      generalize hxe : out.getD i ((0 : Int), ((0 : Int), (([] : Str), ()))) = x at *
      by_cases h2 : x.1 = 2
      · rw [if_neg (by simpa using h2)]
        have hn : needsR x = (0, true) := by
          have h3 := hgx.2.2
          unfold needsR at h3 ⊢
          rw [if_neg (by omega), if_pos h2] at h3 ⊢
          simp only at h3
          rw [h3]
        by_cases h0 : labels.length = 0
        · rw [if_pos (by omega), if_pos (by omega), if_pos (by omega)]
          refine put _ ?_ ?_ ?_ ?_
          · rw [hn]; rfl
          · exact ⟨(u32_range _).1, (u32_range _).2, rfl⟩
          · simp
          · intro h; simp at h
        · have hx1 : IntKind.i64.wrap ((i : Int) + (x.2.2.1.length : Int)) = ((i + x.2.2.1.length : Nat) : Int) := by rw [w64 (by omega)]; omega
          have hx2 : Int.tmod ((i + x.2.2.1.length : Nat) : Int) (labels.length : Int) = (((i + x.2.2.1.length) % labels.length : Nat) : Int) := by
            rw [Int.tmod_eq_emod_of_nonneg (by omega)]; omega
          have hx3 : (i + x.2.2.1.length) % labels.length < labels.length := Nat.mod_lt _ (by omega)
          rw [if_neg (by omega), if_pos (by omega), if_neg (by omega), hx1, hx2, if_pos (by omega), if_pos (by omega), Int.toNat_natCast]
          have hlm : labels.getD ((i + x.2.2.1.length) % labels.length) (([] : Str), ((0 : Int), ())) ∈ labels := by
            rw [List.getD_eq_getElem?_getD, List.getElem?_eq_getElem hx3]; exact List.getElem_mem hx3
          generalize labels.getD ((i + x.2.2.1.length) % labels.length) (([] : Str), ((0 : Int), ())) = y at hlm ⊢
          obtain ⟨g1, g2, g3⟩ := hg.1 y hlm
          have hx0 : x.2.1 = 0 := by
            have h3 := hgx.2.2
            unfold needsR at h3
            rw [if_neg (by omega), if_pos h2] at h3
            simp only [Bool.and_eq_true, decide_eq_true_eq] at h3
            exact h3.1
          have hy : needsR (x.1, x.2.1, y.1, ()) = (0, true) := by
            unfold needsR
            dsimp only
            rw [if_neg (by omega), if_pos h2, hx0, g1]; rfl
          refine put _ ?_ ?_ ?_ ?_
          · rw [hn, hy]
          · exact ⟨hgx.1, hgx.2.1, by rw [hy]⟩
          · show y.1.length ≤ 12; omega
          · intro _; exact findR_isSome hlm rfl
      · rw [if_pos (by simpa using h2)]
        unfold rivetref16_Named.j4
        rw [w64 (by omega)]
        obtain ⟨r, h1', h2', h3', h4', h5'⟩ := ih (i + 1) out (by omega) h19 (by omega) hgo hnl (fun y hy => by
            rw [htk] at hy
            rcases List.mem_append.1 hy with hy | hy
            · exact ht y hy
            · rw [List.mem_singleton] at hy; subst hy; exact fun h => absurd h h2)
        exact ⟨r, h1', h2', h3', h4', h5'⟩
    · rw [if_neg (by omega)]
      have : out.take i = out := List.take_of_length_le (by omega)
      rw [this] at ht
      exact ⟨out, rfl, rfl, rfl, hgo, ht⟩

theorem good_len {x : Item} (h : goodItem x) : x.2.2.1.length ≤ 12 := by
  have h3 := h.2.2
  unfold needsR at h3
  split at h3
  · simp only [decide_eq_true_eq] at h3; rw [h3]; simp
  · split at h3
    · simp only [Bool.and_eq_true] at h3
      have := h3.2
      unfold labelOk at this
      simp only [Bool.and_eq_true, decide_eq_true_eq] at this
      exact this.1.1.1.2
    · split at h3
      · simp only [Bool.and_eq_true, decide_eq_true_eq] at h3; rw [h3.2]; simp
      · split at h3
        · simp only [Bool.and_eq_true, decide_eq_true_eq] at h3; rw [h3.2]; simp
        · cases h3

/-- An expression of labels, made. -/
theorem named_eq (l : List Item) (hl : l.length ≤ 9223372036854775807) (hw : wfItems l) (labels : List Sym) (hlab : labels.length ≤ 8) (hg : goodSyms labels) :
    ∃ e, rivetref16_Named.g l labels = some (e, ()) ∧ wellL e ∧ e.length ≤ 19 ∧ (∀ x ∈ e, goodItem x) ∧ ∀ x ∈ e, x.1 = 2 → (findR x.2.2.1 labels).isSome = true := by
  unfold rivetref16_Named.g rivetref16_Named.f
  obtain ⟨r, hr, hwell, hlen, hgood⟩ := fit15_eq l hl hw
  rw [hr, Option.bind_some]
  obtain ⟨e, h1, h2, h3, h4, h5⟩ := named_loop labels hlab hg (1000 + l.length + labels.length) (1000 + l.length + labels.length) 0 r (by omega) hlen (by omega) hgood (fun x hx => good_len (hgood x hx)) (fun x hx => by simp at hx)
  refine ⟨e, h1, ?_, by omega, h4, h5⟩
  unfold wellL
  rw [enough_congr 0 h2]
  exact hwell

/-- What the rows of a law's arguments tell. -/
theorem items_wf {l : List Item} (h : l.length ≤ maxLen ∧ ∀ x ∈ l, (Lit.int .i64 x.1).wf = true ∧ (Lit.int .u32 x.2.1).wf = true ∧ x.2.2.1.length ≤ maxLen ∧ True) : l.length ≤ 9223372036854775807 ∧ wfItems l :=
  ⟨wl h.1, fun x hx => ⟨(wfU32 (h.2 x hx).2.1).1, (wfU32 (h.2 x hx).2.1).2, wfLen (h.2 x hx).2.2.1⟩⟩

theorem names_wf {l : List Str} (h : l.length ≤ maxLen ∧ ∀ s ∈ l, s.length ≤ maxLen) : l.length ≤ 9223372036854775807 ∧ ∀ s ∈ l, s.length ≤ 9223372036854775807 :=
  ⟨wl h.1, fun s hs => wfLen (h.2 s hs)⟩

end Rv
