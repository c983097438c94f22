/- ValueParts: the plain law. -/
import Derived.Test.YtchahhlcmabmaaaDoorP16V
set_option linter.all false
namespace Rv
open Go

theorem vparts_law (a b : List Item) (names : List Str) (ha : a.length ≤ 9223372036854775807) (hwa : wfItems a) (hb : b.length ≤ 9223372036854775807) (hwb : wfItems b) (hn : names.length ≤ 9223372036854775807) (hwn : ∀ s ∈ names, s.length ≤ 9223372036854775807) :
    rivetlaw16_ValueParts.g a b names = some (true, ()) := by
  unfold rivetlaw16_ValueParts.g rivetlaw16_ValueParts.f
  obtain ⟨labels, hlf, hlg, hl8⟩ := fit16_eq names hn hwn
  rw [shown16_eq, Option.bind_some, hlf, Option.bind_some]
  dsimp only
  obtain ⟨p, hpe, hpw, hpl, hpg, _⟩ := named_eq a ha hwa labels hl8 hlg
  obtain ⟨q, hqe, hqw, hql, hqg, _⟩ := named_eq b hb hwb labels hl8 hlg
  rw [hpe, Option.bind_some, hqe, Option.bind_some]
  dsimp only
  have hlab : labels.length ≤ 4611686018427387904 := by omega
  simp only [List.nil_append]
  have wS := well_two hpw hqw iAdd rfl
  have wD := well_two hpw hqw iSub rfl
  have wP := well_two hpw hqw iMul rfl
  have wN := well_one hpw iNeg rfl
  have lS : ∀ x : Item, (p ++ q ++ [x]).length ≤ 64 := fun x => by simp; omega
  have lN : (p ++ [iNeg]).length ≤ 64 := by simp; omega
  have rS := run_two labels (p := p) hqw iAdd
  have rD := run_two labels (p := p) hqw iSub
  have rP := run_two labels (p := p) hqw iMul
  have rN := run_one labels (p := p) iNeg
  rcases run_ways labels hpw hpg with ⟨x, hx0, hx⟩ | ⟨v, hv0, hv⟩
  · rw [hx] at rS rD rP rN
    dsimp only at rS rD rP rN
    have key : ∃ y, value_Of.g q labels = some y := by
      rcases run_ways labels hqw hqg with ⟨y, _, hy⟩ | ⟨y, _, hy⟩
      · exact ⟨_, val_err labels hlab hqw (by omega) hy⟩
      · exact ⟨_, val_ok labels hlab hqw (by omega) hy⟩
    obtain ⟨y, hy⟩ := key
    rw [val_err labels hlab hpw (by omega) hx, Option.bind_some, hy, Option.bind_some, if_pos (by simp; omega), if_pos (by simp; omega), if_pos (by simp; omega), if_pos (by simp; omega), val_err labels hlab wS (lS _) rS, Option.bind_some,
      if_pos (by simp; omega), if_pos (by simp; omega), val_err labels hlab wD (lS _) rD, Option.bind_some, if_pos (by simp; omega), if_pos (by simp; omega), val_err labels hlab wP (lS _) rP, Option.bind_some,
      if_pos (by simp; omega), if_pos (by simp; omega), val_err labels hlab wN lN rN, Option.bind_some]
    simp [hx0]
  · rcases run_ways labels hqw hqg with ⟨y, hy0, hy⟩ | ⟨w, hw0, hw⟩
    · rw [hv, hy] at rS rD rP
      rw [hv] at rN
      dsimp only at rS rD rP rN
      rw [step_neg] at rN
      rw [val_ok labels hlab hpw (by omega) hv, Option.bind_some, val_err labels hlab hqw (by omega) hy, Option.bind_some, if_pos (by simp; omega), if_pos (by simp; omega), if_pos (by simp; omega), if_pos (by simp; omega), val_err labels hlab wS (lS _) rS, Option.bind_some,
        if_pos (by simp; omega), if_pos (by simp; omega), val_err labels hlab wD (lS _) rD, Option.bind_some, if_pos (by simp; omega), if_pos (by simp; omega), val_err labels hlab wP (lS _) rP, Option.bind_some,
        if_pos (by simp; omega), if_pos (by simp; omega), val_ok labels hlab wN lN rN, Option.bind_some]
      simp [hy0]
    · rw [hv, hw] at rS rD rP
      rw [hv] at rN
      dsimp only at rS rD rP rN
      rw [step_neg] at rN
      rw [step_add] at rS
      rw [step_sub] at rD
      rw [step_mul] at rP
      rw [val_ok labels hlab hpw (by omega) hv, Option.bind_some, val_ok labels hlab hqw (by omega) hw, Option.bind_some, if_pos (by simp; omega), if_pos (by simp; omega), if_pos (by simp; omega), if_pos (by simp; omega), val_ok labels hlab wS (lS _) rS, Option.bind_some,
        if_pos (by simp; omega), if_pos (by simp; omega), val_ok labels hlab wD (lS _) rD, Option.bind_some, if_pos (by simp; omega), if_pos (by simp; omega)]
      by_cases hz : v.2.1 = 0 ∧ w.2.1 = 0
      · rw [if_pos hz] at rP
        rw [val_ok labels hlab wP (lS _) rP, Option.bind_some, if_pos (by simp; omega), if_pos (by simp; omega), val_ok labels hlab wN lN rN, Option.bind_some]
        simp [rivetlaw16_ValueParts.j15, hz.1, hz.2]
      · rw [if_neg hz] at rP
        rw [val_err labels hlab wP (lS _) rP, Option.bind_some, if_pos (by simp; omega), if_pos (by simp; omega), val_ok labels hlab wN lN rN, Option.bind_some]
        by_cases z1 : v.2.1 = 0
        · have z2 : ¬ w.2.1 = 0 := fun h => hz ⟨z1, h⟩
          simp [rivetlaw16_ValueParts.j15, z1, z2]
        · simp [rivetlaw16_ValueParts.j15, z1]

theorem vparts_wf {a b : List Item} {names : List Str} (h : (a.length ≤ maxLen ∧ ∀ x ∈ a, (Lit.int .i64 x.1).wf = true ∧ (Lit.int .u32 x.2.1).wf = true ∧ x.2.2.1.length ≤ maxLen ∧ True) ∧ (b.length ≤ maxLen ∧ ∀ x ∈ b, (Lit.int .i64 x.1).wf = true ∧ (Lit.int .u32 x.2.1).wf = true ∧ x.2.2.1.length ≤ maxLen ∧ True) ∧ (names.length ≤ maxLen ∧ ∀ s ∈ names, s.length ≤ maxLen) ∧ True) :
    rivetlaw16_ValueParts.g a b names = some (true, ()) :=
  vparts_law a b names (items_wf h.1).1 (items_wf h.1).2 (items_wf h.2.1).1 (items_wf h.2.1).2 (names_wf h.2.2.1).1 (names_wf h.2.2.1).2

end Rv
