/- An operation's evaluation does one thing, whatever stands behind. -/
import Derived.Test.YtlbfhddhojejfaaDoorRvLoc
set_option linter.all false
namespace Rv
open Go

section
variable {R : Type} {r : R} {st : St} {te : TypeId → Option TI}

/-- The continuation is taken at one value. -/
def Takes {α : Type} (F : (α → Option R) → Option R) (K : α → Option R) (r : R) : Prop := ∃ y, K y = some r ∧ ∀ K', F K' = K' y

theorem Takes.one {F : (V1 → Option R) → Option R} {K : V → Option R} (h : Takes F (one K) r) : Takes (fun K => F (one K)) K r := by
  obtain ⟨y, h1, h2⟩ := h
  exact ⟨.v y, h1, fun K' => h2 _⟩

theorem orNone_takes {α : Type} {x : Option α} {K : α → Option R} (he : orNone x K = some r) : Takes (orNone x) K r := by
  obtain ⟨a, rfl, h⟩ := orNone_some he
  exact ⟨a, h, fun _ => rfl⟩

theorem binI_takes {op : BinOp} {k : IntKind} {x y : Int} {K : Cell → Option R} (he : binI op k x y K = some r) : Takes (binI op k x y) K r := by
  unfold binI at he
  split at he <;> first
    | exact ⟨_, he, fun K' => rfl⟩
    | (obtain ⟨hy, he'⟩ := if_none he; exact ⟨_, he', fun K' => by simp only [binI, if_neg hy]⟩)
    | cases he

theorem binS_takes {op : BinOp} {x y : Str} {K : Cell → Option R} (he : binS op x y K = some r) : Takes (binS op x y) K r := by
  unfold binS at he
  split at he <;> first
    | exact ⟨_, he, fun K' => rfl⟩
    | (obtain ⟨hy, he'⟩ := if_some he; exact ⟨_, he', fun K' => by simp only [binS, if_pos hy]⟩)
    | cases he

theorem shI_takes {op : BinOp} {k : IntKind} {x y : Int} {K : Cell → Option R} (he : shI op k x y K = some r) : Takes (shI op k x y) K r := by
  unfold shI at he
  obtain ⟨hy, he⟩ := if_none he
  split at he
  · exact ⟨_, he, fun K' => by simp only [shI, if_neg hy]⟩
  · rename_i hne
    refine ⟨_, he, fun K' => ?_⟩
    unfold shI
    rw [if_neg hy]
    split
    · exact absurd rfl hne
    · rfl

theorem binK_int {isB isI isX : Bool} {ik : TypeId → Option IntKind} {et : Option Ty} {op : BinOp} {k k' : IntKind} {x y : Int} {K : V1 → Option R} (h1 : op ≠ .shl) (h2 : op ≠ .shr) : binK isB isI isX ik et op (.c (.int k x)) (.c (.int k' y)) K = if k = k' then binI op k x y fun c => K (.c c) else none := by
  cases op <;> first | rfl | exact absurd rfl h1 | exact absurd rfl h2

theorem binK_str {isB isI isX : Bool} {ik : TypeId → Option IntKind} {et : Option Ty} {op : BinOp} {x y : Str} {K : V1 → Option R} : binK isB isI isX ik et op (.c (.str x)) (.c (.str y)) K = binS op x y fun c => K (.c c) := by
  cases op <;> rfl

theorem eqAgg_takes {T : Ty} {xs ys : List Cell} {K : Bool → Option R} (he : eqAgg T xs ys K = some r) : Takes (eqAgg T xs ys) K r := by
  unfold eqAgg at he
  split at he
  · rename_i hx hy
    exact ⟨_, he, fun K' => by simp only [eqAgg, hx, hy]⟩
  · cases he

theorem binK_takes {isB isI isX : Bool} {ik : TypeId → Option IntKind} {et : Option Ty} {op : BinOp} {a b : V1} {K : V1 → Option R} (he : binK isB isI isX ik et op a b K = some r) : Takes (binK isB isI isX ik et op a b) K r := by
  unfold binK at he
  split at he
  · obtain ⟨y, h1, h2⟩ := shI_takes he
    exact ⟨_, h1, fun K' => h2 fun c => K' (.c c)⟩
  · obtain ⟨y, h1, h2⟩ := shI_takes he
    exact ⟨_, h1, fun K' => h2 fun c => K' (.c c)⟩
  · rename_i k x k' y hn hn'
    obtain ⟨hk, he⟩ := if_some he
    obtain ⟨z, h1, h2⟩ := binI_takes he
    have g1 : op ≠ .shl := fun e => by simp [e] at hn
    have g2 : op ≠ .shr := fun e => by simp [e] at hn'
    refine ⟨_, h1, fun K' => ?_⟩
    rw [binK_int g1 g2, if_pos hk]
    exact h2 fun c => K' (.c c)
  · obtain ⟨z, h1, h2⟩ := binS_takes he
    refine ⟨_, h1, fun K' => ?_⟩
    rw [binK_str]
    exact h2 fun c => K' (.c c)
  · obtain ⟨hb, he⟩ := if_some he
    exact ⟨_, he, fun K' => by simp only [binK, if_pos hb]⟩
  · obtain ⟨hb, he⟩ := if_some he
    exact ⟨_, he, fun K' => by simp only [binK, if_pos hb]⟩
  · obtain ⟨hb, he⟩ := if_some he
    exact ⟨_, he, fun K' => by simp only [binK, if_pos hb]⟩
  · obtain ⟨hb, he⟩ := if_some he
    exact ⟨_, he, fun K' => by simp only [binK, if_pos hb]⟩
  · obtain ⟨hb, he⟩ := if_some he
    exact ⟨_, he, fun K' => by simp only [binK, if_pos hb]⟩
  · obtain ⟨hb, he⟩ := if_some he
    exact ⟨_, he, fun K' => by simp only [binK, if_pos hb]⟩
  · obtain ⟨hb, he⟩ := if_some he
    exact ⟨_, he, fun K' => by simp only [binK, if_pos hb]⟩
  · obtain ⟨hb, he⟩ := if_some he
    exact ⟨_, he, fun K' => by simp only [binK, if_pos hb]⟩
  · split at he
    · obtain ⟨y, h1, h2⟩ := eqAgg_takes he
      exact ⟨_, h1, fun K' => h2 fun b => K' (.c (.bool b))⟩
    · cases he
  · split at he
    · obtain ⟨y, h1, h2⟩ := eqAgg_takes he
      exact ⟨_, h1, fun K' => h2 fun b => K' (.c (.bool !b))⟩
    · cases he
  · cases he

theorem unK_takes {op : UnOp} {a : V1} {K : V1 → Option R} (he : unK op a K = some r) : Takes (unK op a) K r := by
  unfold unK at he
  split at he
  · exact ⟨_, he, fun K' => rfl⟩
  · exact ⟨_, he, fun K' => rfl⟩
  · exact ⟨_, he, fun K' => rfl⟩
  · cases he

theorem loadK_takes {t : TypeId} {x : V1} {K : V1 → Option R} (he : loadK te st t x K = some r) : Takes (loadK te st t x) K r := by
  unfold loadK at he
  split at he
  · rename_i hti
    split at he
    · rename_i hat
      obtain ⟨hle, he⟩ := if_some he
      obtain ⟨y, hm, he⟩ := orNone_some he
      exact ⟨y, he, fun K' => by simp only [loadK, hti, hat, if_pos hle, hm, orNone]⟩
    · cases he
  · rename_i hti
    split at he
    · rename_i hat
      obtain ⟨hle, he⟩ := if_some he
      obtain ⟨y, hm, he⟩ := orNone_some he
      exact ⟨y, he, fun K' => by simp only [loadK, hti, hat, if_pos hle, hm, orNone]⟩
    · rename_i hat
      obtain ⟨hle, he⟩ := if_some he
      obtain ⟨y, hm, he⟩ := orNone_some he
      exact ⟨y, he, fun K' => by simp only [loadK, hti, hat, if_pos hle, hm, orNone]⟩
    · cases he
  · rename_i hti
    split at he
    · rename_i hat
      obtain ⟨hle, he⟩ := if_some he
      obtain ⟨y, hm, he⟩ := orNone_some he
      exact ⟨_, he, fun K' => by simp only [loadK, hti, hat, if_pos hle, hm, orNone]⟩
    · cases he
  · rename_i hti
    obtain ⟨hd, he⟩ := if_some he
    obtain ⟨hle, he⟩ := if_some he
    obtain ⟨y, hm, he⟩ := orNone_some he
    exact ⟨y, he, fun K' => by simp only [loadK, hti, if_pos hd, if_pos hle, hm, orNone]⟩
  · cases he

theorem indexAddrK_takes {es ar : Option Nat} {x i : V1} {K : V1 → Option R} (he : indexAddrK st es ar x i K = some r) : Takes (indexAddrK st es ar x i) K r := by
  unfold indexAddrK at he
  split at he
  · obtain ⟨h1, he⟩ := if_some he
    obtain ⟨h2, he⟩ := if_some he
    obtain ⟨h3, he⟩ := if_some he
    exact ⟨_, he, fun K' => by simp only [indexAddrK, if_pos h1, if_pos h2, if_pos h3]⟩
  · split at he
    · rename_i hl
      obtain ⟨h2, he⟩ := if_some he
      obtain ⟨h3, he⟩ := if_some he
      exact ⟨_, he, fun K' => by simp only [indexAddrK, hl, if_pos h2, if_pos h3]⟩
    · cases he
  · split at he
    · rename_i hl
      obtain ⟨h2, he⟩ := if_some he
      obtain ⟨h3, he⟩ := if_some he
      exact ⟨_, he, fun K' => by simp only [indexAddrK, hl, if_pos h2, if_pos h3]⟩
    · cases he
  · split at he
    · rename_i har hat
      obtain ⟨h3, he⟩ := if_some he
      exact ⟨_, he, fun K' => by simp only [indexAddrK, hat, if_pos h3]⟩
    · cases he
  · cases he

theorem indexK_takes {str : Bool} {ar : Option Nat} {x i : V1} {K : V1 → Option R} (he : indexK str ar x i K = some r) : Takes (indexK str ar x i) K r := by
  unfold indexK at he
  split at he
  · obtain ⟨h2, he⟩ := if_some he
    obtain ⟨h3, he⟩ := if_some he
    exact ⟨_, he, fun K' => by simp only [indexK, if_pos h2, if_pos h3]⟩
  · split at he
    · obtain ⟨h2, he⟩ := if_some he
      obtain ⟨h3, he⟩ := if_some he
      obtain ⟨c, hm, he⟩ := orNone_some he
      exact ⟨_, he, fun K' => by simp only [indexK, if_pos h2, if_pos h3, hm, orNone]⟩
    · cases he
  · cases he

theorem lenK_takes {str : Bool} {es : Option Nat} {x : V1} {K : Nat → Option R} (he : lenK st str es x K = some r) : Takes (lenK st str es x) K r := by
  unfold lenK at he
  split at he
  · obtain ⟨h1, he⟩ := if_some he
    exact ⟨_, he, fun K' => by simp only [lenK, if_pos h1]⟩
  · obtain ⟨h1, he⟩ := if_some he
    obtain ⟨h2, he⟩ := if_some he
    exact ⟨_, he, fun K' => by simp only [lenK, if_pos h1, if_pos h2]⟩
  · obtain ⟨h1, he⟩ := if_some he
    exact ⟨_, he, fun K' => by simp only [lenK, if_pos h1]⟩
  · split at he
    · rename_i hl
      obtain ⟨h1, he⟩ := if_some he
      exact ⟨_, he, fun K' => by simp only [lenK, hl, if_pos h1]⟩
    · cases he
  · split at he
    · rename_i hl
      obtain ⟨h1, he⟩ := if_some he
      exact ⟨_, he, fun K' => by simp only [lenK, hl, if_pos h1]⟩
    · cases he
  · cases he

def lowK (lo : Option V1) (h : Int) (K : Nat → Nat → Option R) : Option R :=
  match lo with
  | none => K 0 h.toNat
  | some (.c (.int _ l)) => if 0 ≤ l ∧ l ≤ h then K l.toNat h.toNat else none
  | some _ => none

theorem lowK_takes {lo : Option V1} {h : Int} {K : Nat → Nat → Option R} (he : lowK lo h K = some r) : ∃ l, K l h.toNat = some r ∧ ∀ K' : Nat → Nat → Option R, lowK lo h K' = K' l h.toNat := by
  unfold lowK at he
  split at he
  · exact ⟨0, he, fun K' => rfl⟩
  · rename_i l
    obtain ⟨h1, he⟩ := if_some he
    exact ⟨_, he, fun K' => by simp only [lowK, if_pos h1]⟩
  · cases he

theorem boundsK_takes {n : Nat} {lo hi mx : Option V1} {K : Nat → Nat → Option R} (he : boundsK n lo hi mx K = some r) : ∃ l h, K l h = some r ∧ ∀ K' : Nat → Nat → Option R, boundsK n lo hi mx K' = K' l h := by
  cases mx with
  | none =>
    cases hi with
    | none =>
      obtain ⟨l, h1, h2⟩ := lowK_takes (lo := lo) (h := (n : Int)) he
      exact ⟨l, _, h1, fun K' => h2 K'⟩
    | some v =>
      cases v with
      | agg cs => cases he
      | c c =>
        cases c with
        | int k h =>
          have he1 : (if 0 ≤ h ∧ h ≤ (n : Int) then lowK lo h K else none) = some r := he
          obtain ⟨h0, he2⟩ := if_some he1
          obtain ⟨l, h1, h2⟩ := lowK_takes he2
          refine ⟨l, _, h1, fun K' => ?_⟩
          show (if 0 ≤ h ∧ h ≤ (n : Int) then lowK lo h K' else none) = _
          rw [if_pos h0]; exact h2 K'
        | _ => cases he
  | some m =>
    cases m with
    | agg cs => cases he
    | c c =>
      cases c with
      | int mk m =>
        cases hi with
        | none =>
          have he1 : (if 0 ≤ m ∧ m ≤ (n : Int) then none else none) = some r := he
          split at he1 <;> cases he1
        | some v =>
          cases v with
          | agg cs =>
            have he1 : (if 0 ≤ m ∧ m ≤ (n : Int) then none else none) = some r := he
            split at he1 <;> cases he1
          | c c =>
            cases c with
            | int k h =>
              have he1 : (if 0 ≤ m ∧ m ≤ (n : Int) then (if 0 ≤ h ∧ h ≤ m then lowK lo h K else none) else none) = some r := he
              obtain ⟨hm, he2⟩ := if_some he1
              obtain ⟨h0, he3⟩ := if_some he2
              obtain ⟨l, h1, h2⟩ := lowK_takes he3
              refine ⟨l, _, h1, fun K' => ?_⟩
              show (if 0 ≤ m ∧ m ≤ (n : Int) then (if 0 ≤ h ∧ h ≤ m then lowK lo h K' else none) else none) = _
              rw [if_pos hm, if_pos h0]; exact h2 K'
            | _ =>
              have he1 : (if 0 ≤ m ∧ m ≤ (n : Int) then none else none) = some r := he
              split at he1 <;> cases he1
      | _ => cases he

theorem sliceK_takes {str : Bool} {es : Option Nat} {x : V1} {lo hi mx : Option V1} {K : V1 → Option R} (he : sliceK st str es x lo hi mx K = some r) : Takes (sliceK st str es x lo hi mx) K r := by
  cases x with
  | agg cs => cases he
  | c c =>
    cases c with
    | str s =>
      cases mx with
      | some m => cases he
      | none =>
        simp only [sliceK] at he
        obtain ⟨h1, he⟩ := if_some he
        obtain ⟨l, h, h2, h3⟩ := boundsK_takes he
        exact ⟨_, h2, fun K' => by simp only [sliceK, if_pos h1]; exact h3 _⟩
    | nilS =>
      simp only [sliceK] at he
      obtain ⟨h1, he⟩ := if_some he
      obtain ⟨l, h, h2, h3⟩ := boundsK_takes he
      exact ⟨_, h2, fun K' => by simp only [sliceK, if_pos h1]; exact h3 _⟩
    | sl d t xs =>
      simp only [sliceK] at he
      obtain ⟨h0, he⟩ := if_some he
      obtain ⟨h1, he⟩ := if_some he
      obtain ⟨l, h, h2, h3⟩ := boundsK_takes he
      exact ⟨_, h2, fun K' => by simp only [sliceK, if_pos h0, if_pos h1]; exact h3 _⟩
    | own k v =>
      cases hl : rowLen st.h k v with
      | none => simp only [sliceK, hl] at he; cases he
      | some tn =>
        obtain ⟨t, n⟩ := tn
        cases lo with
        | none =>
          cases mx with
          | none =>
            simp only [sliceK, hl] at he
            obtain ⟨h1, he⟩ := if_some he
            obtain ⟨l, h, h2, h3⟩ := boundsK_takes he
            exact ⟨_, h2, fun K' => by simp only [sliceK, hl, if_pos h1]; exact h3 _⟩
          | some m =>
            simp only [sliceK, hl] at he
            obtain ⟨h1, he⟩ := if_some he
            obtain ⟨rw, h0, he⟩ := orNone_some he
            obtain ⟨l, h, h2, h3⟩ := boundsK_takes he
            exact ⟨_, h2, fun K' => by simp only [sliceK, hl, if_pos h1, h0, orNone]; exact h3 _⟩
        | some lv =>
          simp only [sliceK, hl] at he
          obtain ⟨h1, he⟩ := if_some he
          obtain ⟨rw, h0, he⟩ := orNone_some he
          obtain ⟨l, h, h2, h3⟩ := boundsK_takes he
          exact ⟨_, h2, fun K' => by simp only [sliceK, hl, if_pos h1, h0, orNone]; exact h3 _⟩
    | ownP k v m0 =>
      cases hl : rowLen st.h k v with
      | none => simp only [sliceK, hl] at he; cases he
      | some tn =>
        obtain ⟨t, n⟩ := tn
        cases lo with
        | none =>
          cases mx with
          | none =>
            simp only [sliceK, hl] at he
            obtain ⟨h1, he⟩ := if_some he
            obtain ⟨l, h, h2, h3⟩ := boundsK_takes he
            exact ⟨_, h2, fun K' => by simp only [sliceK, hl, if_pos h1]; exact h3 _⟩
          | some m =>
            simp only [sliceK, hl] at he
            obtain ⟨h1, he⟩ := if_some he
            obtain ⟨rw, h0, he⟩ := orNone_some he
            obtain ⟨l, h, h2, h3⟩ := boundsK_takes he
            exact ⟨_, h2, fun K' => by simp only [sliceK, hl, if_pos h1, h0, orNone]; exact h3 _⟩
        | some lv =>
          simp only [sliceK, hl] at he
          obtain ⟨h1, he⟩ := if_some he
          obtain ⟨rw, h0, he⟩ := orNone_some he
          obtain ⟨l, h, h2, h3⟩ := boundsK_takes he
          exact ⟨_, h2, fun K' => by simp only [sliceK, hl, if_pos h1, h0, orNone]; exact h3 _⟩
    | _ => cases he

theorem storeK_takes {t : TypeId} {x v : V1} {K : List (Nat × En) → Option R} (he : storeK te st t x v K = some r) : Takes (storeK te st t x v) K r := by
  unfold storeK at he
  split at he
  · rename_i hti
    split at he
    · rename_i hat
      obtain ⟨h1, he⟩ := if_some he
      obtain ⟨h2, he⟩ := if_some he
      exact ⟨_, he, fun K' => by simp only [storeK, hti, hat, if_pos h1, if_pos h2]⟩
    · cases he
  · rename_i hti
    split at he
    · rename_i hat
      obtain ⟨h1, he⟩ := if_some he
      obtain ⟨h2, he⟩ := if_some he
      split at he
      · rename_i hns
        exact ⟨_, he, fun K' => by simp only [storeK, hti, hat, if_pos h1, if_pos h2, hns]⟩
      · cases he
    · cases he
  · rename_i hti
    split at he
    · rename_i hat
      obtain ⟨h1, he⟩ := if_some he
      obtain ⟨h2, he⟩ := if_some he
      obtain ⟨y, h3, he⟩ := orNone_some he
      exact ⟨_, he, fun K' => by simp only [storeK, hti, hat, if_pos h1, if_pos h2, h3, orNone]⟩
    · cases he
  · cases he

theorem appendK_takes {d : Option Nat} {sT : TypeId} {s x : V1} {K : Dl → Option R} (he : appendK te st d sT s x K = some r) : ∃ y, K y = some r ∧ (∀ K' : Dl → Option R, appendK te st d sT s x K' = K' y) ∧ dk d ∈ y.up.map (·.1) := by
  unfold appendK at he
  split at he
  · cases he
  · rename_i e he0
    split at he
    · cases he
    · rename_i ti hti
      split at he
      · cases he
      · rename_i t ht
        split at he
        · rename_i xs k ys hb hm
          obtain ⟨h1, he⟩ := if_some he
          exact ⟨_, he, fun K' => by simp only [appendK, he0, hti, ht, hb, hm, if_pos h1], by simp⟩
        · cases he

theorem vop_takes {op : Op} {K : V → Option R} (he : vop te st op K = some r) : Takes (vop te st op) K r := by
  unfold vop at he
  split at he
  · exact orNone_takes he
  · exact orNone_takes he
  · rename_i c a b
    split at he
    · rename_i t hc
      split at he
      · rename_i ht
        obtain ⟨y, h1, h2⟩ := orNone_takes he |>.one
        exact ⟨y, h1, fun K' => by simp only [vop, hc, if_pos ht]; exact h2 K'⟩
      · rename_i ht
        obtain ⟨y, h1, h2⟩ := orNone_takes he |>.one
        exact ⟨y, h1, fun K' => by simp only [vop, hc, if_neg ht]; exact h2 K'⟩
    · cases he
  · split at he
    · rename_i hti hp
      split at he
      · rename_i har
        obtain ⟨cs, h1, he⟩ := orNone_some he
        exact ⟨_, he, fun K' => by simp only [vop, hti, hp, har, h1, orNone]⟩
      rename_i har
      obtain ⟨h0, he⟩ := if_none he
      obtain ⟨cs, h1, he⟩ := orNone_some he
      exact ⟨_, he, fun K' => by simp only [vop, hti, hp, har, if_neg h0, h1, orNone]⟩
    · cases he
  · obtain ⟨v, hv, he⟩ := orNone_some he
    obtain ⟨y, h1, h2⟩ := (loadK_takes he).one
    exact ⟨y, h1, fun K' => by simp only [vop, hv, orNone]; exact h2 K'⟩
  · split at he
    · rename_i hx hf
      split at he
      · rename_i hat
        exact ⟨_, he, fun K' => by simp only [vop, hx, hf, hat]⟩
      · cases he
    · rename_i hx hf
      split at he
      · rename_i hat
        exact ⟨_, he, fun K' => by simp only [vop, hx, hf, hat]⟩
      · cases he
    · rename_i hx hf
      obtain ⟨h1, he⟩ := if_some he
      exact ⟨_, he, fun K' => by simp only [vop, hx, hf, if_pos h1]⟩
    · cases he
  · split at he
    · rename_i hx hf
      obtain ⟨h1, he⟩ := if_some he
      obtain ⟨y, h2, h3⟩ := (orNone_takes he).one
      exact ⟨y, h2, fun K' => by simp only [vop, hx, hf, if_pos h1]; exact h3 K'⟩
    · cases he
  · obtain ⟨x, hx, he⟩ := orNone_some he
    obtain ⟨i, hi, he⟩ := orNone_some he
    obtain ⟨y, h1, h2⟩ := (indexAddrK_takes he).one
    exact ⟨y, h1, fun K' => by simp only [vop, hx, hi, orNone]; exact h2 K'⟩
  · obtain ⟨x, hx, he⟩ := orNone_some he
    obtain ⟨i, hi, he⟩ := orNone_some he
    obtain ⟨y, h1, h2⟩ := (indexK_takes he).one
    exact ⟨y, h1, fun K' => by simp only [vop, hx, hi, orNone]; exact h2 K'⟩
  · obtain ⟨x, hx, he⟩ := orNone_some he
    obtain ⟨lo, hlo, he⟩ := orNone_some he
    obtain ⟨hi, hhi, he⟩ := orNone_some he
    obtain ⟨mx, hmx, he⟩ := orNone_some he
    obtain ⟨y, h1, h2⟩ := (sliceK_takes he).one
    exact ⟨y, h1, fun K' => by simp only [vop, hx, hlo, hhi, hmx, orNone]; exact h2 K'⟩
  · obtain ⟨x, hx, he⟩ := orNone_some he
    obtain ⟨i, hi, he⟩ := orNone_some he
    obtain ⟨y, h1, h2⟩ := (binK_takes he).one
    exact ⟨y, h1, fun K' => by simp only [vop, hx, hi, orNone]; exact h2 K'⟩
  · obtain ⟨x, hx, he⟩ := orNone_some he
    obtain ⟨y, h1, h2⟩ := (unK_takes he).one
    exact ⟨y, h1, fun K' => by simp only [vop, hx, orNone]; exact h2 K'⟩
  · split at he
    · rename_i hx hti
      split at he
      · rename_i hk
        obtain ⟨h1, he⟩ := if_some he
        exact ⟨_, he, fun K' => by simp only [vop, hx, hti, hk, if_pos h1]⟩
      · cases he
    · cases he
  · rename_i t x
    split at he
    · rename_i ti hti
      split at he
      · cases he
      · rename_i hni
        split at he
        · rename_i hs
          exact ⟨_, he, fun K' => by simp only [vop, hti, if_neg hni, hs]⟩
        · rename_i u hn hs
          refine ⟨_, he, fun K' => ?_⟩
          simp only [vop, hti, if_neg hni, hs]
        · cases he
    · cases he
  · obtain ⟨h1, he⟩ := if_some he
    obtain ⟨vs, h2, he⟩ := orNone_some he
    obtain ⟨cs, h3, he⟩ := orNone_some he
    exact ⟨_, he, fun K' => by simp only [vop, if_pos h1, h2, h3, orNone]⟩
  · obtain ⟨v, hv, he⟩ := orNone_some he
    obtain ⟨hn, he⟩ := if_some he
    exact ⟨_, he, fun K' => by simp only [vop, hv, orNone, if_pos hn]⟩
  · split at he
    · split at he
      · rename_i hs
        obtain ⟨y, h1, h2⟩ := (orNone_takes he).one
        exact ⟨y, h1, fun K' => by simp only [vop, hs]; exact h2 K'⟩
      · cases he
    · cases he
  · split at he
    · rename_i ha ht
      obtain ⟨x, hx, he⟩ := orNone_some he
      obtain ⟨n, h1, h2⟩ := lenK_takes he
      exact ⟨_, h1, fun K' => by simp only [vop, ha, ht, hx, orNone]; exact h2 _⟩
    · cases he
  · split at he
    · rename_i ha
      obtain ⟨n, hn, he⟩ := orNone_some he
      exact ⟨_, he, fun K' => by simp only [vop, ha, hn, orNone]⟩
    · cases he
  · split at he
    · rename_i ha
      obtain ⟨n, hn, he⟩ := orNone_some he
      exact ⟨_, he, fun K' => by simp only [vop, ha, hn, orNone]⟩
    · cases he
  · cases he

end
end Rv
