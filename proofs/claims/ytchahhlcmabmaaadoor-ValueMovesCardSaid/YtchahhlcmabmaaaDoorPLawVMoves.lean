/- ValueMoves: the plain law. -/
import Derived.Test.YtchahhlcmabmaaaDoorP16V
set_option linter.all false
namespace Rv
open Go

def mvS (b : Int) (x : Sym) : Sym := (x.1, IntKind.i64.wrap (x.2.1 + b), ())

theorem moved_sum (b v1 v2 : Int) : IntKind.u32.wrap (IntKind.u32.wrap (v1 + b * v2) - v1) = IntKind.u32.wrap (IntKind.u32.wrap b * IntKind.u32.wrap v2) := by
  simp only [IntKind.wrap_u32]
  rw [← Int.mul_emod]
  omega

theorem moves_loop (b : Int) (hb : 0 ≤ b ∧ b ≤ 65535) (labels : List Sym) (hl8 : labels.length ≤ 8) (e : List Item) (hew : wellL e) (hel : e.length ≤ 19) (heg : ∀ x ∈ e, goodItem x) (hef : ∀ x ∈ e, x.1 = 2 → (findR x.2.2.1 labels).isSome = true) (n : Nat) :
    ∀ (m i : Nat), i ≤ labels.length → labels.length - i < m → rivetlaw16_ValueMoves.l6 n m b true labels e ((labels.take i).map (mvS b)) (i : Int) = some (true, ()) := by
  intro m
  induction m with
  | zero => intro i _ h; omega
  | succ m ih =>
    intro i hi hm
    simp only [rivetlaw16_ValueMoves.l6, dt, Int.toNat_natCast]
    by_cases h1 : i < labels.length
    · rw [if_pos (by omega), if_pos (by omega), if_pos (by omega), if_pos (by simp; omega), w64 (x := b) (by omega), w64 (x := (i : Int) + 1) (by omega)]
      have htk : labels.take (i + 1) = labels.take i ++ [labels.getD i (([] : Str), ((0 : Int), ()))] := by
        rw [List.take_succ_eq_append_getElem h1, List.getD_eq_getElem?_getD, List.getElem?_eq_getElem h1]; rfl
      have := ih (i + 1) (by omega) (by omega)
      rw [htk, List.map_append] at this
      exact this
    · rw [if_neg (by omega), List.take_of_length_le (by omega)]
      have hlab : labels.length ≤ 4611686018427387904 := by omega
      have hmlab : (labels.map (mvS b)).length ≤ 4611686018427387904 := by simp; omega
      have hmv := run_moved b labels e [] fun x hx => ⟨(heg x hx).1, (heg x hx).2.1⟩
      have hmv : runR (labels.map (mvS b)) [] e = onE (List.map (mv b)) (runR labels [] e) := hmv
      rcases run_ways labels hew heg with ⟨x, hx0, hx⟩ | ⟨v, hv0, hv⟩
      · have h27 := run_err27 hef (j := 1) (st := []) hew hx
        subst h27
        rw [hx] at hmv
        rw [val_err labels hlab hew (by omega) hx, Option.bind_some, val_err _ hmlab hew (by omega) hmv, Option.bind_some]
        simp
      · rw [hv] at hmv
        rw [val_ok labels hlab hew (by omega) hv, Option.bind_some, val_ok _ hmlab hew (by omega) (v := mv b v) hmv, Option.bind_some]
        have := moved_sum b v.1 v.2.1
        simp [mv, this]

theorem vmoves_law (a : List Item) (names : List Str) (b : Int) (ha : a.length ≤ 9223372036854775807) (hwa : wfItems a) (hn : names.length ≤ 9223372036854775807) (hwn : ∀ s ∈ names, s.length ≤ 9223372036854775807) (hb : 0 ≤ b ∧ b ≤ 65535) :
    rivetlaw16_ValueMoves.g a names b = some (true, ()) := by
  unfold rivetlaw16_ValueMoves.g rivetlaw16_ValueMoves.f
  obtain ⟨labels, hlf, hlg, hl8⟩ := fit16_eq names hn hwn
  rw [shown16_eq, Option.bind_some, hlf, Option.bind_some]
  dsimp only
  obtain ⟨p, hpe, hpw, hpl, hpg, hpf⟩ := named_eq a ha hwa labels hl8 hlg
  rw [hpe, Option.bind_some]
  exact moves_loop b hb labels hl8 p hpw hpl hpg hpf _ _ 0 (by omega) (by omega)

theorem wfU16 {n : Int} (h : (Lit.int .u16 n).wf = true) : 0 ≤ n ∧ n ≤ 65535 := by
  simp [Lit.wf, IntKind.min, IntKind.max, IntKind.signed, IntKind.bits] at h; omega

theorem vmoves_wf {a : List Item} {names : List Str} {b : Int} (h : (a.length ≤ maxLen ∧ ∀ x ∈ a, (Lit.int .i64 x.1).wf = true ∧ (Lit.int .u32 x.2.1).wf = true ∧ x.2.2.1.length ≤ maxLen ∧ True) ∧ (names.length ≤ maxLen ∧ ∀ s ∈ names, s.length ≤ maxLen) ∧ (Lit.int .u16 b).wf = true ∧ True) :
    rivetlaw16_ValueMoves.g a names b = some (true, ()) :=
  vmoves_law a names b (items_wf h.1).1 (items_wf h.1).2 (names_wf h.2.1).1 (names_wf h.2.1).2 (wfU16 h.2.2.1)

end Rv
