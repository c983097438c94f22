/- ValueBack: the plain law. -/
import Derived.Test.YtchahhlcmabmaaaDoorP16V
set_option linter.all false
namespace Rv
open Go

theorem back32 {a b : Int} (h : 0 ≤ a ∧ a ≤ 4294967295) : IntKind.u32.wrap (IntKind.u32.wrap (a + b) - b) = a := by rw [IntKind.wrap_u32, IntKind.wrap_u32]; omega
theorem back64 {a b : Int} (h : -9223372036854775808 ≤ a ∧ a ≤ 9223372036854775807) : IntKind.i64.wrap (IntKind.i64.wrap (a + b) - b) = a := by rw [IntKind.wrap_i64, IntKind.wrap_i64]; omega
theorem neg32 {a : Int} (h : 0 ≤ a ∧ a ≤ 4294967295) : IntKind.u32.wrap (0 - IntKind.u32.wrap (0 - a)) = a := by rw [IntKind.wrap_u32, IntKind.wrap_u32]; omega
theorem neg64 {a : Int} (h : -9223372036854775808 ≤ a ∧ a ≤ 9223372036854775807) : IntKind.i64.wrap (0 - IntKind.i64.wrap (0 - a)) = a := by rw [IntKind.wrap_i64, IntKind.wrap_i64]; omega

abbrev iNum (n : Int) : Item := (1, n, [], ())

theorem num_well (n : Int) : wellL [iNum n] := rfl
theorem num_run (labels : List Sym) (n : Int) : runR labels [] [iNum n] = .ok [(n, 0, ())] := rfl

theorem vback_law (a b : List Item) (names : List Str) (ha : a.length ≤ 9223372036854775807) (hwa : wfItems a) (hb : b.length ≤ 9223372036854775807) (hwb : wfItems b) (hn : names.length ≤ 9223372036854775807) (hwn : ∀ s ∈ names, s.length ≤ 9223372036854775807) :
    rivetlaw16_ValueBack.g a b names = some (true, ()) := by
  unfold rivetlaw16_ValueBack.g rivetlaw16_ValueBack.f
  obtain ⟨labels, hlf, hlg, hl8⟩ := fit16_eq names hn hwn
  rw [shown16_eq, Option.bind_some, hlf, Option.bind_some]
  dsimp only
  obtain ⟨p, hpe, hpw, hpl, hpg, _⟩ := named_eq a ha hwa labels hl8 hlg
  obtain ⟨q, hqe, hqw, hql, hqg, _⟩ := named_eq b hb hwb labels hl8 hlg
  rw [hpe, Option.bind_some, hqe, Option.bind_some]
  dsimp only
  have hlab : labels.length ≤ 4611686018427387904 := by omega
  simp only [List.nil_append]
  have eN : p ++ [((3 : Int), (0 : Int), ([] : Str), ()), ((3 : Int), (0 : Int), ([] : Str), ())] = p ++ [iNeg] ++ [iNeg] := by simp
  have e0 : p ++ [((1 : Int), (0 : Int), ([] : Str), ()), ((4 : Int), (0 : Int), ([] : Str), ())] = p ++ [iNum 0] ++ [iAdd] := by simp
  have e1 : p ++ [((1 : Int), (1 : Int), ([] : Str), ()), ((6 : Int), (0 : Int), ([] : Str), ())] = p ++ [iNum 1] ++ [iMul] := by simp
  rw [eN, e0, e1]
  have wA := well_two hpw hqw iAdd rfl
  have wB := well_two wA hqw iSub rfl
  have wN := well_one (well_one hpw iNeg rfl) iNeg rfl
  have w0 := well_two hpw (num_well 0) iAdd rfl
  have w1 := well_two hpw (num_well 1) iMul rfl
  have lB : (p ++ q ++ [iAdd] ++ q ++ [iSub]).length ≤ 64 := by simp; omega
  have lN : (p ++ [iNeg] ++ [iNeg]).length ≤ 64 := by simp; omega
  have l0 : (p ++ [iNum 0] ++ [iAdd]).length ≤ 64 := by simp; omega
  have l1 : (p ++ [iNum 1] ++ [iMul]).length ≤ 64 := by simp; omega
  have rA := run_two labels (p := p) hqw iAdd
  have rB := run_two labels (p := p ++ q ++ [iAdd]) hqw iSub
  have rN1 := run_one labels (p := p) iNeg
  have rN := run_one labels (p := p ++ [iNeg]) iNeg
  have r0 := run_two labels (p := p) (num_well 0) iAdd
  have r1 := run_two labels (p := p) (num_well 1) iMul
  rw [num_run] at r0 r1
  rcases run_ways labels hpw hpg with ⟨x, hx0, hx⟩ | ⟨v, hv0, hv⟩
  · rw [hx] at rA rN1 r0 r1
    dsimp only at rA rN1 r0 r1
    rw [rA] at rB
    rw [rN1] at rN
    dsimp only at rB rN
    have key : ∃ y, value_Of.g q labels = some y := by
      rcases run_ways labels hqw hqg with ⟨y, _, hy⟩ | ⟨y, _, hy⟩
      · exact ⟨_, val_err labels hlab hqw (by omega) hy⟩
      · exact ⟨_, val_ok labels hlab hqw (by omega) hy⟩
    obtain ⟨y, hy⟩ := key
    rw [val_err labels hlab hpw (by omega) hx, Option.bind_some, hy, Option.bind_some, if_pos (by simp; omega), if_pos (by simp; omega), if_pos (by simp; omega), if_pos (by simp; omega), if_pos (by simp; omega), val_err labels hlab wB lB rB, Option.bind_some,
      if_pos (by simp; omega), if_pos (by simp; omega), val_err labels hlab wN lN rN, Option.bind_some, if_pos (by simp; omega), if_pos (by simp; omega), val_err labels hlab w0 l0 r0, Option.bind_some,
      if_pos (by simp; omega), if_pos (by simp; omega), val_err labels hlab w1 l1 r1, Option.bind_some]
    simp [hx0]
  · have s1 : ∀ c, stepR labels ([v] ++ [(c, 0, ())]) iAdd = .ok [(IntKind.u32.wrap (v.1 + c), IntKind.i64.wrap (v.2.1 + 0), ())] := fun c => rfl
    have s2 : stepR labels ([v] ++ [(1, 0, ())]) iMul = if v.2.1 = 0 ∧ (0 : Int) = 0 then .ok [(IntKind.u32.wrap (v.1 * 1), 0, ())] else .error 27 := rfl
    rw [hv] at rA rN1 r0 r1
    dsimp only at rA rN1 r0 r1
    rw [s1] at r0
    rw [s2] at r1
    rw [step_neg] at rN1
    rw [rN1] at rN
    dsimp only at rN
    rw [step_neg] at rN
    dsimp only at rN
    rw [neg32 hv0.1, neg64 hv0.2] at rN
    rw [Int.add_zero, Int.add_zero, w32u hv0.1, w64 hv0.2] at r0
    rw [Int.mul_one, w32u hv0.1] at r1
    rcases run_ways labels hqw hqg with ⟨y, hy0, hy⟩ | ⟨w, hw0, hw⟩
    · rw [hy] at rA
      dsimp only at rA
      rw [rA] at rB
      dsimp only at rB
      rw [val_ok labels hlab hpw (by omega) hv, Option.bind_some, val_err labels hlab hqw (by omega) hy, Option.bind_some, if_pos (by simp; omega), if_pos (by simp; omega), if_pos (by simp; omega), if_pos (by simp; omega), if_pos (by simp; omega), val_err labels hlab wB lB rB, Option.bind_some,
        if_pos (by simp; omega), if_pos (by simp; omega), val_ok labels hlab wN lN rN, Option.bind_some, if_pos (by simp; omega), if_pos (by simp; omega), val_ok labels hlab w0 l0 r0, Option.bind_some,
        if_pos (by simp; omega), if_pos (by simp; omega)]
      by_cases z1 : v.2.1 = 0
      · rw [if_pos ⟨z1, rfl⟩] at r1
        rw [val_ok labels hlab w1 l1 r1, Option.bind_some]
        simp [hy0]
      · rw [if_neg (fun h => z1 h.1)] at r1
        rw [val_err labels hlab w1 l1 r1, Option.bind_some]
        simp [hy0]
    · rw [hw] at rA
      dsimp only at rA
      rw [step_add] at rA
      rw [rA, hw] at rB
      dsimp only at rB
      rw [step_sub] at rB
      dsimp only at rB
      rw [back32 hv0.1, back64 hv0.2] at rB
      rw [val_ok labels hlab hpw (by omega) hv, Option.bind_some, val_ok labels hlab hqw (by omega) hw, Option.bind_some, if_pos (by simp; omega), if_pos (by simp; omega), if_pos (by simp; omega), if_pos (by simp; omega), if_pos (by simp; omega), val_ok labels hlab wB lB rB, Option.bind_some,
        if_pos (by simp; omega), if_pos (by simp; omega), val_ok labels hlab wN lN rN, Option.bind_some, if_pos (by simp; omega), if_pos (by simp; omega), val_ok labels hlab w0 l0 r0, Option.bind_some,
        if_pos (by simp; omega), if_pos (by simp; omega)]
      by_cases z1 : v.2.1 = 0
      · rw [if_pos ⟨z1, rfl⟩] at r1
        rw [val_ok labels hlab w1 l1 r1, Option.bind_some]
        simp [z1]
      · rw [if_neg (fun h => z1 h.1)] at r1
        rw [val_err labels hlab w1 l1 r1, Option.bind_some]
        simp [z1]

theorem vback_wf {a b : List Item} {names : List Str} (h : (a.length ≤ maxLen ∧ ∀ x ∈ a, (Lit.int .i64 x.1).wf = true ∧ (Lit.int .u32 x.2.1).wf = true ∧ x.2.2.1.length ≤ maxLen ∧ True) ∧ (b.length ≤ maxLen ∧ ∀ x ∈ b, (Lit.int .i64 x.1).wf = true ∧ (Lit.int .u32 x.2.1).wf = true ∧ x.2.2.1.length ≤ maxLen ∧ True) ∧ (names.length ≤ maxLen ∧ ∀ s ∈ names, s.length ≤ maxLen) ∧ True) :
    rivetlaw16_ValueBack.g a b names = some (true, ()) :=
  vback_law a b names (items_wf h.1).1 (items_wf h.1).2 (items_wf h.2.1).1 (items_wf h.2.1).2 (names_wf h.2.2.1).1 (names_wf h.2.2.1).2

end Rv
