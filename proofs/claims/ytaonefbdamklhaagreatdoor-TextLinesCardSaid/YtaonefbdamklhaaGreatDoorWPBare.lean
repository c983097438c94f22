/- Texts put together. -/
import Derived.Test.YtaonefbdamklhaaGreatDoorW2
set_option linter.all false
namespace Rv
open Go
section
variable {l l' : List TokL} (hl : l.length = l'.length) (hb : ∀ p, bare (l.getD p dTok) = bare (l'.getD p dTok))
include hb in
theorem tok_eq (p : Nat) : (l.getD p dTok).1 = (l'.getD p dTok).1 ∧ (l.getD p dTok).2.2.1 = (l'.getD p dTok).2.2.1 ∧ (l.getD p dTok).2.2.2.1 = (l'.getD p dTok).2.2.2.1 := by
 have := hb p
 simp only [bare, Prod.mk.injEq] at this
 exact this
include hl hb in
theorem isSg_bare (p : Nat) (c : UInt8) : isSg l p c = isSg l' p c := by
 obtain ⟨h1, h2, _⟩ := tok_eq hb p
 unfold isSg
 rw [hl, h1, h2]
include hl hb in
theorem pk_bare (kd : Int) (p : Nat) (e : Int) : pk kd l p e = pk kd l' p e := by
 obtain ⟨h1, h2, _⟩ := tok_eq hb p
 unfold pk
 rw [hl, h1, h2]
include hl hb in
theorem xF_bare (S F : Nat → XR) : xF l S F = xF l' S F := by
 funext p
 obtain ⟨h1, h2, h3⟩ := tok_eq hb p
 have hs := fun p c => isSg_bare hl hb p c
 unfold xF
 rw [hs, hs, hl, h1, h2, h3]
 split
 ·rfl
 ·split
  ·cases S (p + 1) with
   | error e => rfl
   | ok r => dsimp only; rw [hs]
  ·rfl
include hl hb in
theorem lT_bare (F : Nat → XR) : ∀ (m : Nat) (it : List Item) (p : Nat), lT l F m it p = lT l' F m it p
 | 0, _, _ => rfl
 | m + 1, it, p => by
  rw [lT, lT, isSg_bare hl hb]
  split
  ·cases F (p + 1) with
   | error e => rfl
   | ok r => exact lT_bare F m _ _
  ·rfl
include hl hb in
theorem xT_bare (F : Nat → XR) : xT l F = xT l' F := by
 funext p
 unfold xT
 rw [hl]
 cases F p with
 | error e => rfl
 | ok r => exact lT_bare hl hb F _ _ _
include hl hb in
theorem lS_bare (T : Nat → XR) : ∀ (m : Nat) (it : List Item) (p : Nat), lS l T m it p = lS l' T m it p
 | 0, _, _ => rfl
 | m + 1, it, p => by
  rw [lS, lS, isSg_bare hl hb, isSg_bare hl hb]
  split
  ·cases T (p + 1) with
   | error e => rfl
   | ok r => exact lS_bare T m _ _
  ·split
   ·cases T (p + 1) with
    | error e => rfl
    | ok r => exact lS_bare T m _ _
   ·rfl
include hl hb in
theorem xS_bare (F : Nat → XR) : xS l F = xS l' F := by
 funext p
 unfold xS
 rw [xT_bare hl hb, hl]
 cases xT l' F p with
 | error e => rfl
 | ok r => exact lS_bare hl hb _ _ _ _
include hl hb in
theorem pF_bare : ∀ q : Nat, pF l q = pF l' q
 | 0 => rfl
 | q + 1 => by
  funext p
  rw [pF, pF, pF_bare q, xS_bare hl hb, xF_bare hl hb]
include hl hb in
theorem parseX_bare (p : Nat) : parseX l p = parseX l' p := by
 unfold parseX
 rw [pF_bare hl hb, xS_bare hl hb]
include hl hb in
theorem rd_bare (p : Nat) (e : Int) (s : Sm) (d : Od) : rd l p e s d = rd l' p e s d := by
 have hE : ∀ p e, rdE l p e s = rdE l' p e s := fun p e => by unfold rdE; rw [parseX_bare hl hb]
 cases d <;> simp only [rd, pk_bare hl hb, hE]
include hl hb in
theorem step_bare (op : Int) (many i p : Nat) (e : Int) (s : Sm) : stepR l op many i p e s = stepR l' op many i p e s := by
 have hK : ∀ p e s, chK l p e s = chK l' p e s := fun p e s => by unfold chK; rw [pk_bare hl hb]
 unfold stepR
 simp only [pk_bare hl hb, hK, rd_bare hl hb]
include hl hb in
theorem loop_bare (op : Int) (many : Nat) : ∀ (m i : Nat) (r : Nat × Int × Sm), loopR l op many m i r = loopR l' op many m i r
 | 0, _, _ => rfl
 | m + 1, i, r => by rw [loopR, loopR, step_bare hl hb, loop_bare op many m]
include hl hb in
theorem head_bare (lb : Str) (p : Nat) (e : Int) : headR l lb p e = headR l' lb p e := by
 obtain ⟨h1, h2, h3⟩ := tok_eq hb p
 unfold headR
 dsimp only
 rw [h1, h2, hl]
 unfold finR
 rw [loop_bare hl hb, hl]
end
theorem parse_bare {l l' : List TokL} (h : l.map bare = l'.map bare) : parseS l = parseS l' := by
 have hl : l.length = l'.length := by have := congrArg List.length h; simpa using this
 have hb : ∀ p, bare (l.getD p dTok) = bare (l'.getD p dTok) := fun p => by
  have e : ∀ q : List TokL, bare (q.getD p dTok) = (q.map bare).getD p (bare dTok) := fun q => by
   rw [List.getD_eq_getElem?_getD, List.getD_eq_getElem?_getD, List.getElem?_map]
   cases q[p]? <;> rfl
  rw [e, e, h]
 obtain ⟨h1, h2, _⟩ := tok_eq hb 0
 unfold parseS
 rw [hl, h1, h2, isSg_bare hl hb, head_bare hl hb, head_bare hl hb]
theorem shift_bare (j : Int) (l : List TokL) : (l.map (shift j)).map bare = l.map bare := by
 rw [List.map_map]; rfl
theorem one_long (u note : Str) : oneR (32 :: (u ++ 32 :: 59 :: note)) = oneR u := by
 have h1 : lineR 0 (32 :: (u ++ 32 :: 59 :: note)) = lineR (0 + 1) (u ++ 32 :: 59 :: note) := line_blank 0 _
 have h2 : lineR 0 (32 :: (u ++ 32 :: 59 :: note)) = exMap (List.map (shift 1)) (lineR 0 u) := by
  rw [h1, lineR_app (.inl rfl) _ u.length _ u (Nat.le_refl _), lineR_shift 1 u.length 0 u (Nat.le_refl _)]
  cases lineR 0 u with
  | error e => rfl
  | ok l =>
   show (if _ then _ else _) = _
   split
   ·rfl
   ·rw [lineR_cons, if_pos rfl]
    show Except.ok (_ ++ []) = _
    rw [List.append_nil]; rfl
 unfold oneR
 rw [h2]
 cases lineR 0 u with
 | error e => rfl
 | ok l =>
  show (if (0 : Int) ≠ 0 then noP 0 else parseS ([] ++ l.map (shift 1))) = (if (0 : Int) ≠ 0 then noP 0 else parseS ([] ++ l))
  rw [if_neg (show ¬ (0 : Int) ≠ 0 by decide), if_neg (show ¬ (0 : Int) ≠ 0 by decide)]
  refine parse_bare ?_
  rw [List.nil_append, List.nil_append, shift_bare]
theorem lines_one : ∀ (u v : Str), 10 ∉ u → linesR (u ++ 10 :: v) = u :: linesR v
 | [], v, _ => by rw [List.nil_append, linesR, if_pos rfl]
 | b :: u, v, h => by
  have h1 : b ≠ 10 := fun e => h (by rw [e]; exact List.mem_cons_self ..)
  rw [List.cons_append, linesR, if_neg h1, lines_one u v (fun g => h (List.mem_cons_of_mem _ g))]
theorem lines_last : ∀ (u : Str), 10 ∉ u → u ≠ [] → linesR u = [u]
 | [b], h, _ => by
  have h1 : b ≠ 10 := fun e => h (by rw [e]; exact List.mem_cons_self ..)
  rw [linesR, if_neg h1]; rfl
 | b :: c :: u, h, _ => by
  have h1 : b ≠ 10 := fun e => h (by rw [e]; exact List.mem_cons_self ..)
  rw [linesR, if_neg h1, lines_last (c :: u) (fun g => h (List.mem_cons_of_mem _ g)) (by simp)]
end Rv
