/- ValueAll: the plain law. -/
import Derived.Test.YtchahhlcmabmaaaGreatDoorPRef16
import Derived.Test.YtchahhlcmabmaaaGreatDoorPMore
import Derived.Test.YtchahhlcmabmaaaGreatDoorPNumb
set_option linter.all false
namespace Rv
open Go

theorem shown16a_eq : rivetlaw16_shown.g = some (true, ()) := by decide +kernel

/-- Numbers of 32 bits, names that are not long. -/
def okItem (x : Item) : Prop := (0 ≤ x.2.1 ∧ x.2.1 ≤ 4294967295) ∧ x.2.2.1.length ≤ 100

theorem good_short {x : Item} (h : goodItem x) : x.2.2.1.length ≤ 12 := by
  have h3 := h.2.2
  unfold needsR at h3
  split at h3
  · simp only [decide_eq_true_eq] at h3; rw [h3]; simp
  · split at h3
    · simp only [Bool.and_eq_true] at h3
      have := h3.2
      unfold labelOk at this
      simp only [Bool.and_eq_true, decide_eq_true_eq] at this
      exact this.1.1.1.2
    · split at h3
      · simp only [Bool.and_eq_true, decide_eq_true_eq] at h3; rw [h3.2]; simp
      · split at h3
        · simp only [Bool.and_eq_true, decide_eq_true_eq] at h3; rw [h3.2]; simp
        · cases h3

theorem ofR_some (labels : List Sym) {e : List Item} (hg : ∀ x ∈ e, okItem x) : ∃ v1 v2 x, ofR labels e = some (v1, v2, x, ()) ∧ 0 ≤ v1 ∧ v1 ≤ 4294967295 := by
  unfold ofR
  by_cases hw : well e = true
  · rw [if_pos hw]
    unfold well at hw
    rw [Bool.and_eq_true, decide_eq_true_eq] at hw
    have hwl : wellL e := by unfold wellL; rw [← wellR_enough]; exact hw.1
    rcases run_well labels hwl with ⟨x, hx⟩ | ⟨v, hv⟩
    · rw [hx]; exact ⟨0, 0, x, rfl, by decide, by decide⟩
    · rw [hv]
      have := run_okV (fun x hx => (hg x hx).1) (fun u hu => by cases hu) hv v (by simp)
      exact ⟨v.1, v.2.1, 0, rfl, this.1.1, this.1.2⟩
  · rw [if_neg hw]; exact ⟨0, 0, 23, rfl, by decide, by decide⟩

theorem rnum16_eq (e : List Item) (labels : List Sym) (low high v1 v2 x : Int) (h : rivetref16_Of.g e labels = some (v1, v2, x, ())) (hv : 0 ≤ v1 ∧ v1 ≤ 4294967295) :
    rivetref16_Number.g e labels low high = some (if x ≠ 0 then (0, x, ()) else if v2 ≠ 0 then (0, 27, ()) else numR (IntKind.i64.wrap (IntKind.i32.wrap v1)) (IntKind.i64.wrap v1) low high) := by
  unfold rivetref16_Number.g rivetref16_Number.f
  rw [h, Option.bind_some]
  simp only [dt]
  have z : ¬ ((0 : Int) ≠ 0) := by decide
  have hn : IntKind.i64.wrap v1 = v1 := w64 (by omega)
  have key : ∀ s : Int, rivetref16_Number.j10 (1000 + e.length + labels.length + low.toNat + high.toNat) low high v1 s = some (numR s v1 low high) := fun s => by
    unfold rivetref16_Number.j10 rivetref16_Number.j12 numR
    simp only [dt]
    by_cases a1 : low ≤ s <;> by_cases a2 : s ≤ high <;> by_cases b1 : low ≤ v1 <;> by_cases b2 : v1 ≤ high <;> simp [a1, a2, b1, b2]
  by_cases h1 : x = 0
  · subst h1
    rw [if_neg z, if_neg z]
    by_cases h2 : v2 = 0
    · subst h2
      rw [if_neg z, if_neg z, hn]
      by_cases h3 : 2147483648 ≤ v1
      · have e1 : IntKind.i64.wrap (v1 - 4294967296) = v1 - 4294967296 := w64 (by omega)
        have e2 : IntKind.i64.wrap (IntKind.i32.wrap v1) = v1 - 4294967296 := by
          have : IntKind.i32.wrap v1 = v1 - 4294967296 := by rw [IntKind.wrap_i32]; omega
          rw [this, e1]
        rw [if_pos h3, e1, e2, key]
      · have e2 : IntKind.i64.wrap (IntKind.i32.wrap v1) = v1 := by
          have : IntKind.i32.wrap v1 = v1 := by rw [IntKind.wrap_i32]; omega
          rw [this, hn]
        rw [if_neg h3, e2, key]
    · rw [if_pos (show v2 ≠ 0 from h2), if_pos (show v2 ≠ 0 from h2)]
  · rw [if_pos (show x ≠ 0 from h1), if_pos (show x ≠ 0 from h1)]

theorem short16_loop (l : List Sym) (hl : l.length ≤ 9223372036854775807) (hw : ∀ t ∈ l, t.1.length ≤ 9223372036854775807) (n : Nat) : ∀ (m i : Nat) (out : List Sym), i ≤ l.length → i ≤ 12 → 12 - i < m → out.length = i → (∀ x ∈ out, x.1.length ≤ 20) →
    ∃ r, rivetlaw16_short.l3 n m l out (i : Int) = some (r, ()) ∧ r.length ≤ 12 ∧ ∀ x ∈ r, x.1.length ≤ 20 := by
  intro m
  induction m with
  | zero => intro i out _ _ h; omega
  | succ m ih =>
    intro i out hi h30 hm ho hj
    rw [rivetlaw16_short.l3]
    simp only [dt, Int.toNat_natCast]
    by_cases h1 : i < l.length
    · by_cases h2 : i < 12
      · have hmem : l.getD i (([] : Str), ((0 : Int), ())) ∈ l := by
          rw [List.getD_eq_getElem?_getD, List.getElem?_eq_getElem h1]; exact List.getElem_mem h1
        have hlen := hw _ hmem
        rw [if_pos (by omega), if_pos (by omega), if_pos (by omega)]
        generalize l.getD i (([] : Str), ((0 : Int), ())) = t at hlen ⊢
        have e1 : mn (t.1.length : Int) 20 = ((min t.1.length 20 : Nat) : Int) := by unfold mn; split <;> omega
        rw [if_pos (by rw [e1]; omega), if_pos (by simp; omega), e1, Int.toNat_natCast, List.drop_zero, w64 (by omega)]
        refine ih (i + 1) _ (by omega) (by omega) (by omega) (by simp [ho]) fun x hx => ?_
        rcases List.mem_append.1 hx with hx | hx
        · exact hj x hx
        · rw [List.mem_singleton] at hx; subst hx; simp; omega
      · rw [if_pos (by omega), if_neg (by omega)]
        exact ⟨out, rfl, by omega, hj⟩
    · rw [if_neg (by omega)]
      exact ⟨out, rfl, by omega, hj⟩

theorem few16_loop (l : List Item) (hl : l.length ≤ 9223372036854775807) (hw : wfItems l) (n : Nat) : ∀ (m i : Nat) (out : List Item), i ≤ l.length → i ≤ 20 → 20 - i < m → out.length = i → (∀ x ∈ out, okItem x) →
    ∃ r, rivetlaw16_few.l3 n m l out (i : Int) = some (r, ()) ∧ r.length ≤ 20 ∧ ∀ x ∈ r, okItem x := by
  intro m
  induction m with
  | zero => intro i out _ _ h; omega
  | succ m ih =>
    intro i out hi h30 hm ho hj
    rw [rivetlaw16_few.l3]
    simp only [dt, Int.toNat_natCast]
    by_cases h1 : i < l.length
    · by_cases h2 : i < 20
      · have hmem : l.getD i ((0 : Int), ((0 : Int), (([] : Str), ()))) ∈ l := by
          rw [List.getD_eq_getElem?_getD, List.getElem?_eq_getElem h1]; exact List.getElem_mem h1
        have hlen := hw _ hmem
        rw [if_pos (by omega), if_pos (by omega), if_pos (by omega)]
        generalize l.getD i ((0 : Int), ((0 : Int), (([] : Str), ()))) = t at hlen ⊢
        have e1 : mn (t.2.2.1.length : Int) 20 = ((min t.2.2.1.length 20 : Nat) : Int) := by unfold mn; split <;> omega
        rw [if_pos (by rw [e1]; omega), if_pos (by simp; omega), e1, Int.toNat_natCast, List.drop_zero, w64 (by omega)]
        refine ih (i + 1) _ (by omega) (by omega) (by omega) (by simp [ho]) fun x hx => ?_
        rcases List.mem_append.1 hx with hx | hx
        · exact hj x hx
        · rw [List.mem_singleton] at hx; subst hx; exact ⟨⟨hlen.1, hlen.2.1⟩, by simp; omega⟩
      · rw [if_pos (by omega), if_neg (by omega)]
        exact ⟨out, rfl, by omega, hj⟩
    · rw [if_neg (by omega)]
      exact ⟨out, rfl, by omega, hj⟩

theorem namedA_loop (labels : List Sym) (hlab : labels.length ≤ 12) (hg : ∀ x ∈ labels, x.1.length ≤ 20) (n : Nat) : ∀ (m i : Nat) (out : List Item), i ≤ out.length → out.length ≤ 19 → out.length - i < m → (∀ x ∈ out, okItem x) →
    ∃ r, rivetref16_Named.l3 n m labels out (i : Int) = some (r, ()) ∧ r.length ≤ 19 ∧ ∀ x ∈ r, okItem x := by
  intro m
  induction m with
  | zero => intro i out _ _ h; omega
  | succ m ih =>
    intro i out hi h19 hm hgo
    rw [rivetref16_Named.l3]
    simp only [dt, Int.toNat_natCast]
    by_cases h1 : i < out.length
    · have hmem : out.getD i ((0 : Int), ((0 : Int), (([] : Str), ()))) ∈ out := by
        rw [List.getD_eq_getElem?_getD, List.getElem?_eq_getElem h1]; exact List.getElem_mem h1
      have hgx := hgo _ hmem
      rw [if_pos (by omega), if_pos (by omega)]
      have put : ∀ x : Item, okItem x → ∃ r, rivetref16_Named.j4 n (rivetref16_Named.l3 n m) labels (out.set i x) (i : Int) = some (r, ()) ∧ r.length ≤ 19 ∧ ∀ x ∈ r, okItem x := by
        intro x hx
        unfold rivetref16_Named.j4
        rw [w64 (by omega)]
        exact ih (i + 1) (out.set i x) (by simp; omega) (by simp; omega) (by simp; omega) (fun y hy => by
          rcases List.mem_or_eq_of_mem_set hy with hy | rfl
          · exact hgo y hy
          · exact hx)
      generalize out.getD i ((0 : Int), ((0 : Int), (([] : Str), ()))) = x at *
      by_cases h2 : x.1 = 2
      · rw [if_neg (by simpa using h2)]
        by_cases h0 : labels.length = 0
        · rw [if_pos (by omega), if_pos (by omega), if_pos (by omega)]
          exact put _ ⟨u32_range _, by simp⟩
        · have hx1 : IntKind.i64.wrap ((i : Int) + (x.2.2.1.length : Int)) = ((i + x.2.2.1.length : Nat) : Int) := by have := hgx.2; rw [w64 (by omega)]; omega
          have hx2 : Int.tmod ((i + x.2.2.1.length : Nat) : Int) (labels.length : Int) = (((i + x.2.2.1.length) % labels.length : Nat) : Int) := by
            rw [Int.tmod_eq_emod_of_nonneg (by omega)]; omega
          have hx3 : (i + x.2.2.1.length) % labels.length < labels.length := Nat.mod_lt _ (by omega)
          rw [if_neg (by omega), if_pos (by omega), if_neg (by omega), hx1, hx2, if_pos (by omega), if_pos (by omega), Int.toNat_natCast]
          have hlm : labels.getD ((i + x.2.2.1.length) % labels.length) (([] : Str), ((0 : Int), ())) ∈ labels := by
            rw [List.getD_eq_getElem?_getD, List.getElem?_eq_getElem hx3]; exact List.getElem_mem hx3
          have := hg _ hlm
          exact put _ ⟨hgx.1, by dsimp only; omega⟩
      · rw [if_pos (by simpa using h2)]
        unfold rivetref16_Named.j4
        rw [w64 (by omega)]
        exact ih (i + 1) out (by omega) h19 (by omega) hgo
    · rw [if_neg (by omega)]
      exact ⟨out, rfl, h19, hgo⟩

theorem all_find (w : List Sym) (hw : w.length ≤ 12) (n : Nat) : ∀ (m i : Nat), i ≤ w.length → w.length - i < m → rivetlaw16_ValueAll.l15 n m true w (i : Int) = some (true, ()) := by
  intro m
  induction m with
  | zero => intro i _ h; omega
  | succ m ih =>
    intro i hi hm
    rw [rivetlaw16_ValueAll.l15]
    simp only [dt, df, Int.toNat_natCast]
    by_cases h1 : i < w.length
    · have hmem : w.getD i (([] : Str), ((0 : Int), ())) ∈ w := by
        rw [List.getD_eq_getElem?_getD, List.getElem?_eq_getElem h1]; exact List.getElem_mem h1
      have hs : (findR (w.getD i (([] : Str), ((0 : Int), ()))).1 w).isSome = true := by
        cases hf : findR (w.getD i (([] : Str), ((0 : Int), ()))).1 w with
        | some _ => rfl
        | none => exact absurd (List.mem_map_of_mem hmem) (findR_mem hf)
      rw [if_pos (by omega), if_pos (by omega), find_eq _ _ (by omega), Option.bind_some, if_pos (by omega), find16_eq _ _ (by omega), Option.bind_some]
      dsimp only
      rw [hs, if_pos (by simp), if_pos (by simp), if_neg (by simp), w64 (by omega)]
      exact ih (i + 1) (by omega) (by omega)
    · rw [if_neg (by omega), find_eq _ _ (by omega), Option.bind_some]
      dsimp only
      cases hf : findR ([82, 49, 32] : Str) w with
      | none => simp
      | some a =>
        have hw0 : 0 < w.length := by
          cases w with
          | nil => simp [findR] at hf
          | cons _ _ => simp
        simp [hw0]

theorem all_step (n m : Nat) (l : List Item) (w : List Sym) (hw : w.length ≤ 12) (e : List Item) (he : e.length ≤ 20) (hg : ∀ x ∈ e, okItem x) (i : Int) (hi : i < 2) (b0 b1 : Int) :
    rivetlaw16_ValueAll.l5 n (m + 1) l true w e i b0 b1 = (rivetlaw16_few.g l).bind fun y5 => rivetlaw16_ValueAll.l5 n m l true w y5.1 (IntKind.i64.wrap (i + 1)) b0 b1 := by
  obtain ⟨v1, v2, x, ho, hv⟩ := ofR_some w hg
  have h1 : value_Of.g e w = some (v1, v2, x, ()) := by rw [of_eq w (by omega) e (by omega)]; exact ho
  have h2 : rivetref16_Of.g e w = some (v1, v2, x, ()) := by rw [rof_eq w (by omega) e (by omega) (fun x hx => by have := (hg x hx).2; omega)]; exact ho
  have h3 := vnumber_eq e w b0 b1 v1 v2 x h1
  have h4 := rnum16_eq e w b0 b1 v1 v2 x h2 hv
  have g0 : ([b0, b1].getD (0 : Int).toNat 0) = b0 := rfl
  have g1 : ([b0, b1].getD (1 : Int).toNat 0) = b1 := rfl
  rw [rivetlaw16_ValueAll.l5]
  simp only [dt, df, g0, g1]
  rw [if_pos hi, h1, Option.bind_some, h2, Option.bind_some, if_pos (by omega), if_pos (by omega), h3, Option.bind_some, if_pos (by omega), if_pos (by omega), h4, Option.bind_some]
  dsimp only
  rw [if_pos (by simp), if_pos (by simp), if_pos (by simp), if_neg (by simp)]

theorem vall_law (l : List Item) (labels : List Sym) (x0 x1 : Int) (hl : l.length ≤ 9223372036854775807) (hw : wfItems l) (hlab : labels.length ≤ 9223372036854775807) (hln : ∀ x ∈ labels, x.1.length ≤ 9223372036854775807) : rivetlaw16_ValueAll.g l labels x0 x1 = some (true, ()) := by
  unfold rivetlaw16_ValueAll.g rivetlaw16_ValueAll.f
  obtain ⟨w, hsw, hw12, hwn⟩ := short16_loop labels hlab hln (1000 + labels.length) (1000 + labels.length) 0 [] (by omega) (by omega) (by omega) rfl (fun x hx => by cases hx)
  have hsw : rivetlaw16_short.g labels = some (w, ()) := hsw
  obtain ⟨fw, hfw, hf20, hfg⟩ := few16_loop l hl hw (1000 + l.length) (1000 + l.length) 0 [] (by omega) (by omega) (by omega) rfl (fun x hx => by cases hx)
  have hfw : rivetlaw16_few.g l = some (fw, ()) := hfw
  have hnm : ∃ e, rivetref16_Named.g l w = some (e, ()) ∧ e.length ≤ 19 ∧ ∀ x ∈ e, okItem x := by
    unfold rivetref16_Named.g rivetref16_Named.f
    obtain ⟨r, hr, _, hlen, hgood⟩ := fit15_eq l hl hw
    rw [hr, Option.bind_some]
    exact namedA_loop w hw12 hwn _ _ 0 r (by omega) hlen (by omega) (fun x hx => ⟨⟨(hgood x hx).1, (hgood x hx).2.1⟩, by have := good_short (hgood x hx); omega⟩)
  obtain ⟨e, hne, he19, heg⟩ := hnm
  rw [shown16a_eq, Option.bind_some, hsw, Option.bind_some]
  dsimp only
  rw [hne, Option.bind_some]
  dsimp only
  obtain ⟨N, hN⟩ : ∃ N, 1000 + l.length + labels.length + x0.toNat + x1.toNat = N + 1 + 1 + 1 := ⟨997 + l.length + labels.length + x0.toNat + x1.toNat, by omega⟩
  have hN1000 : 900 ≤ N + 1 + 1 + 1 := by omega
  rw [hN, all_step _ _ l w hw12 e (by omega) heg 0 (by decide) x0 x1, hfw, Option.bind_some]
  dsimp only
  rw [show IntKind.i64.wrap (0 + 1) = 1 by decide, all_step _ _ l w hw12 fw hf20 hfg 1 (by decide) x0 x1, hfw, Option.bind_some]
  dsimp only
  rw [show IntKind.i64.wrap (1 + 1) = 2 by decide, rivetlaw16_ValueAll.l5]
  simp only [dt]
  rw [if_neg (by decide)]
  exact all_find w hw12 _ _ 0 (by omega) (by omega)

theorem vall_wf {l : List Item} {labels : List Sym} {x0 x1 : Int} (h : (l.length ≤ maxLen ∧ ∀ x ∈ l, (Lit.int .i64 x.1).wf = true ∧ (Lit.int .u32 x.2.1).wf = true ∧ x.2.2.1.length ≤ maxLen ∧ True) ∧ (labels.length ≤ maxLen ∧ ∀ x ∈ labels, x.1.length ≤ maxLen ∧ (Lit.int .i64 x.2.1).wf = true ∧ True) ∧ (Lit.int .i64 x0).wf = true ∧ (Lit.int .i64 x1).wf = true ∧ True) :
    rivetlaw16_ValueAll.g l labels x0 x1 = some (true, ()) :=
  vall_law l labels x0 x1 (wfLen h.1.1) (fun x hx => ⟨(wfU32 (h.1.2 x hx).2.1).1, (wfU32 (h.1.2 x hx).2.1).2, wfLen (h.1.2 x hx).2.2.1⟩) (wfLen h.2.1.1) (fun x hx => wfLen (h.2.1.2 x hx).1)

end Rv
