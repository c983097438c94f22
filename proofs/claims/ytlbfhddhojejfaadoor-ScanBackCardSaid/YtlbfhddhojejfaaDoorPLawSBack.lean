/- ScanBack: the plain law. -/
import Derived.Test.YtlbfhddhojejfaaDoorP14
import Derived.Test.YtlbfhddhojejfaaDoorPJoin
set_option linter.all false
namespace Rv
open Go

theorem joinL_eq : ∀ l : List TokL, L.joinR l = joinR l
  | [] => rfl
  | t :: l => by
    show _ ++ L.joinR l = _ ++ joinR l
    rw [joinL_eq l]; rfl

theorem lineR_err : ∀ (n : Nat) (k : Int) (s : Str) (e : Int), s.length ≤ n → lineR k s = .error e → e = 20 ∨ e = 21
  | _, k, [], e, _, h => by rw [lineR_nil] at h; cases h
  | 0, k, c :: r, e, hn, h => by simp at hn
  | n + 1, k, c :: r, e, hn, h => by
    rw [lineR_cons] at h
    split at h
    · cases h
    · split at h
      · exact lineR_err n _ r e (by simpa using hn) h
      · split at h
        · rename_i e' ht
          cases h
          unfold tokAt at ht
          split at ht
          · cases ht
          · split at ht
            · split at ht
              · cases ht
              · cases ht; exact .inr rfl
            · split at ht
              · cases ht
              · split at ht
                · cases ht
                · cases ht; exact .inl rfl
        · rename_i d q t v ht
          obtain ⟨b1, b2, _⟩ := tokAt_ok ht
          split at h
          · rename_i e' he'
            cases h
            exact lineR_err n _ _ e (by simp at hn ⊢; omega) he'
          · cases h

theorem reAt_len : ∀ (p : Int) (l : List TokL), (reAt p l).length = l.length
  | _, [] => rfl
  | p, t :: l => by simp [reAt, reAt_len]

theorem tokT_len (t : TokL) : (tokT t).length = t.2.2.1.length + 1 + (if t.1 = 4 then 1 else 0) := by
  unfold tokT
  split <;> simp <;> omega

abbrev dTok : TokL := ((0 : Int), ((0 : Int), (([] : Str), ((0 : Int), ()))))

theorem sback_loop (l r : List TokL) (hl : l.length ≤ 1000) (hr : r.length = l.length) (n : Nat) : ∀ (m i p : Nat), i ≤ l.length → l.length - i < m → p + (joinR (l.drop i)).length ≤ 1000000 → r.drop i = reAt (p : Int) (l.drop i) →
    rivetlaw14_ScanBack.l12 n m l r r (p : Int) (i : Int) = some (true, ()) := by
  intro m
  induction m with
  | zero => intro i p _ h; omega
  | succ m ih =>
    intro i p hi hm hp hd
    rw [rivetlaw14_ScanBack.l12]
    simp only [dt, df, Int.toNat_natCast]
    by_cases h : i < l.length
    · have hx : l.drop i = l.getD i dTok :: l.drop (i + 1) := by
        rw [List.drop_eq_getElem_cons h, List.getD_eq_getElem?_getD, List.getElem?_eq_getElem h]; rfl
      have hy : r.drop i = r.getD i dTok :: r.drop (i + 1) := by
        rw [List.drop_eq_getElem_cons (by omega), List.getD_eq_getElem?_getD, List.getElem?_eq_getElem (by omega)]; rfl
      rw [hx, hy] at hd
      rw [hx] at hp
      simp only [reAt, List.cons.injEq] at hd
      obtain ⟨hd1, hd2⟩ := hd
      have hj : joinR (l.getD i dTok :: l.drop (i + 1)) = tokT (l.getD i dTok) ++ joinR (l.drop (i + 1)) := rfl
      rw [hj, List.length_append] at hp
      have htl := tokT_len (l.getD i dTok)
      generalize hte : l.getD i dTok = t at *
      have next := ih (i + 1) (p + (tokT t).length) (by omega) (by omega) (by omega) (by rw [hd2]; simp)
      rw [if_pos (by omega), if_pos (by omega)]
      have step : ∀ q : Int, q = ((p + (tokT t).length : Nat) : Int) → rivetlaw14_ScanBack.j19 n (rivetlaw14_ScanBack.l12 n m) l r r q (i : Int) t.1 (p : Int) t.2.2.1 t.2.2.2.1 = some (true, ()) := by
        intro q hq
        unfold rivetlaw14_ScanBack.j19
        simp only [Int.toNat_natCast]
        rw [if_pos (by omega)]
        have hg : r.getD i dTok = (t.1, (p : Int), t.2.2.1, t.2.2.2.1, ()) := hd1
        show (if (!(decide ((r.getD i dTok).1 = t.1) && (decide ((r.getD i dTok).2.1 = (p : Int)) && (decide ((r.getD i dTok).2.2.1 = t.2.2.1) && (decide ((r.getD i dTok).2.2.2.1 = t.2.2.2.1) && true))))) = false then (if 0 ≤ (i : Int) ∧ (i : Int) < (r.length : Int) then (if (!(decide ((r.getD i dTok).1 = t.1) && (decide ((r.getD i dTok).2.1 = (p : Int)) && (decide ((r.getD i dTok).2.2.1 = t.2.2.1) && (decide ((r.getD i dTok).2.2.2.1 = t.2.2.2.1) && true))))) = true then (some (false, ())) else rivetlaw14_ScanBack.l12 n m l r r q (IntKind.i64.wrap ((i : Int) + 1))) else none) else some (false, ())) = _
        rw [hg]
        rw [if_pos (by simp), if_pos (by omega), if_neg (by simp), hq, w64 (by omega)]
        exact next
      have g1 : ∀ X Y : Option (Bool × Unit), (X = some (true, ())) → (Y = some (true, ())) → (if t.1 = 4 then X else Y) = some (true, ()) := fun X Y h1 h2 => by split <;> assumption
      by_cases h4 : t.1 = 4
      · rw [if_pos h4] at htl
        rw [if_pos (by simpa [List.getD_eq_getElem?_getD, ← hte] using h4)]
        have := step (IntKind.i64.wrap (IntKind.i64.wrap (IntKind.i64.wrap ((p : Int) + (t.2.2.1.length : Int)) + 1) + 1)) (by
          rw [w64 (x := (p : Int) + (t.2.2.1.length : Int)) (by omega), w64 (x := (p : Int) + (t.2.2.1.length : Int) + 1) (by omega), w64 (by omega)]; omega)
        exact this
      · rw [if_neg h4] at htl
        rw [if_neg (by simpa [List.getD_eq_getElem?_getD, ← hte] using h4)]
        have := step (IntKind.i64.wrap (IntKind.i64.wrap ((p : Int) + (t.2.2.1.length : Int)) + 1)) (by
          rw [w64 (x := (p : Int) + (t.2.2.1.length : Int)) (by omega), w64 (by omega)]; omega)
        exact this
    · rw [if_neg (by omega)]

theorem sback_law (s b : Str) (hs : s.length ≤ 9223372036854775807) (hb : b.length ≤ 9223372036854775807) : rivetlaw14_ScanBack.g s b = some (true, ()) := by
  unfold rivetlaw14_ScanBack.g rivetlaw14_ScanBack.f
  rw [shown_eq, Option.bind_some, few_eq s hs, Option.bind_some]
  dsimp only
  have hw : (s.take 100).length ≤ 100 := by simp; omega
  have hb100 : (b.take 100).length ≤ 100 := by simp; omega
  generalize s.take 100 = w at hw
  have hsemi : ∀ q : Int, lineR q (59 :: b.take 100) = .ok [] := fun q => by rw [lineR_cons, if_pos rfl]
  rw [line_eq w (by omega), Option.bind_some]
  cases he : lineR 0 w with
  | error e =>
    simp only [lineOut]
    have hj : L.joinO [] = some ([], ()) := rfl
    rw [hj, Option.bind_some]
    dsimp only
    rw [line_eq [] (by simp), Option.bind_some, if_pos (by simp), few_eq b hb, Option.bind_some]
    dsimp only
    rw [if_pos (by simp; omega), line_eq _ (by simp; omega), Option.bind_some]
    rcases lineR_err w.length 0 w e (Nat.le_refl _) he with rfl | rfl <;> simp
  | ok l =>
    simp only [lineOut, List.nil_append]
    obtain ⟨hok, hjl⟩ := lineR_tokOk w.length 0 w l (Nat.le_refl _) he
    have hll := lineR_len w.length 0 w l (Nat.le_refl _) he
    have hj : L.joinO l = some (joinR l, ()) := by
      unfold L.joinO
      rw [joinL_eq, if_pos (by omega)]
    rw [hj, Option.bind_some]
    dsimp only
    have h1 : lineR 0 (joinR l) = .ok (reAt 0 l) := by
      have := line_join (y := []) (fun q => lineR_nil q) l 0 hok
      rwa [List.append_nil] at this
    have h2 : lineR 0 (joinR l ++ [59] ++ b.take 100) = .ok (reAt 0 l) := by
      have := line_join (y := 59 :: b.take 100) hsemi l 0 hok
      rw [List.append_assoc]
      exact this
    rw [line_eq _ (by omega), h1, Option.bind_some, if_pos (by simp; omega), few_eq b hb, Option.bind_some]
    dsimp only
    rw [if_pos (by simp; omega), line_eq _ (by simp; omega), h2, Option.bind_some]
    simp only [lineOut, List.nil_append]
    have hrl := reAt_len 0 l
    have fin := sback_loop l (reAt 0 l) (by omega) hrl (1000 + s.length + b.length) (1000 + s.length + b.length) 0 0 (by omega) (by omega) (by simp; omega) (by simp)
    simpa [hrl] using fin

theorem sback_wf {s b : Str} (h : s.length ≤ maxLen ∧ b.length ≤ maxLen ∧ True) : rivetlaw14_ScanBack.g s b = some (true, ()) := sback_law s b (wfLen h.1) (wfLen h.2.1)

end Rv
