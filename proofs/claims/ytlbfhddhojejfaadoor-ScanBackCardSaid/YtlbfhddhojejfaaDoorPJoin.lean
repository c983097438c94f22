/- Tokens, joined, are scanned as they were. -/
import Derived.Test.YtlbfhddhojejfaaDoorPWord
set_option linter.all false
namespace Rv
open Go

/-- A token's text, as Join writes it. -/
def tokT (t : TokL) : Str := (if t.1 = 4 then [46] else []) ++ t.2.2.1 ++ [32]
def joinR : List TokL → Str
  | [] => []
  | t :: l => tokT t ++ joinR l

/-- What a scanned token is. -/
def tokOk (t : TokL) : Prop :=
  (t.1 = 1 ∧ t.2.2.2.1 = 0 ∧ t.2.2.1.all isW = true ∧ ∃ c r, t.2.2.1 = c :: r ∧ isL c = true) ∨
  (t.1 = 2 ∧ (∃ v : Nat, num t.2.2.1 = some v ∧ t.2.2.2.1 = (v : Int)) ∧ t.2.2.1.all isW = true ∧ ∃ c r, t.2.2.1 = c :: r ∧ isL c = false ∧ isD c = true) ∨
  (t.1 = 4 ∧ t.2.2.2.1 = 0 ∧ t.2.2.1.all isW = true ∧ ∃ c r, t.2.2.1 = c :: r ∧ isL c = true) ∨
  (t.1 = 3 ∧ t.2.2.2.1 = 0 ∧ ∃ c, t.2.2.1 = [c] ∧ isL c = false ∧ isD c = false ∧ isS c = true)

/-- The same tokens, where Join puts them. -/
def reAt : Int → List TokL → List TokL
  | _, [] => []
  | p, t :: l => (t.1, p, t.2.2.1, t.2.2.2.1, ()) :: reAt (p + (tokT t).length) l

theorem wordOf_W (s : Str) : (wordOf s).all isW = true := by
  unfold wordOf
  exact List.all_takeWhile

theorem tokAt_tokOk {c : UInt8} {r : Str} {d : Nat} {q v : Int} {t : Str} (k : Int) (h : tokAt c r = .ok (d, q, t, v)) : tokOk (q, k, t, v, ()) ∧ ((q = 4 ∧ d = 1) ∨ (q ≠ 4 ∧ d = 0)) := by
  unfold tokAt at h
  split at h
  · rename_i hL
    cases h
    refine ⟨.inl ⟨rfl, rfl, wordOf_W _, c, wordOf r, ?_, hL⟩, .inr ⟨by decide, rfl⟩⟩
    show wordOf (c :: r) = _
    unfold wordOf
    rw [List.takeWhile_cons_of_pos (by simp [isW, hL])]
  · rename_i hL
    split at h
    · rename_i hD
      split at h
      · rename_i v' hv
        cases h
        refine ⟨.inr (.inl ⟨rfl, ⟨v', hv, rfl⟩, wordOf_W _, c, wordOf r, ?_, by simpa using hL, hD⟩), .inr ⟨by decide, rfl⟩⟩
        show wordOf (c :: r) = _
        unfold wordOf
        rw [List.takeWhile_cons_of_pos (by simp [isW, hD])]
      · cases h
    · rename_i hD
      split at h
      · rename_i hdot
        cases h
        obtain ⟨_, b, hb, hbL⟩ := hdot
        cases r with
        | nil => simp at hb
        | cons b' r =>
          simp at hb
          subst hb
          refine ⟨.inr (.inr (.inl ⟨rfl, rfl, wordOf_W _, b', wordOf r, ?_, hbL⟩)), .inl ⟨rfl, rfl⟩⟩
          show wordOf (b' :: r) = _
          unfold wordOf
          rw [List.takeWhile_cons_of_pos (by simp [isW, hbL])]
      · split at h
        · rename_i hS
          cases h
          exact ⟨.inr (.inr (.inr ⟨rfl, rfl, c, rfl, by simpa using hL, by simpa using hD, hS⟩)), .inr ⟨by decide, rfl⟩⟩
        · cases h

theorem lineR_tokOk : ∀ (n : Nat) (k : Int) (s : Str) (l : List TokL), s.length ≤ n → lineR k s = .ok l → (∀ t ∈ l, tokOk t) ∧ (joinR l).length ≤ 3 * s.length
  | _, k, [], l, _, h => by
    rw [lineR_nil] at h
    cases h
    exact ⟨fun t ht => (by cases ht), by simp [joinR]⟩
  | 0, k, c :: r, l, hn, h => by simp at hn
  | n + 1, k, c :: r, l, hn, h => by
    rw [lineR_cons] at h
    split at h
    · cases h
      exact ⟨fun t ht => (by cases ht), by simp [joinR]⟩
    · split at h
      · obtain ⟨h1, h2⟩ := lineR_tokOk n (k + 1) r l (by simpa using hn) h
        exact ⟨h1, by simp; omega⟩
      · split at h
        · cases h
        · rename_i d q t v ht
          obtain ⟨hok, hd⟩ := tokAt_tokOk k ht
          obtain ⟨b1, b2, _⟩ := tokAt_ok ht
          split at h
          · cases h
          · rename_i l' hl'
            cases h
            obtain ⟨h1, h2⟩ := lineR_tokOk n _ _ l' (by simp at hn ⊢; omega) hl'
            refine ⟨fun x hx => ?_, ?_⟩
            · rcases List.mem_cons.1 hx with rfl | hx
              · exact hok
              · exact h1 x hx
            · have e1 : (joinR ((q, k, t, v, ()) :: l')).length = (tokT (q, k, t, v, ())).length + (joinR l').length := by simp [joinR]
              have e2 : (tokT (q, k, t, v, ())).length ≤ d + t.length + 1 := by
                unfold tokT
                rcases hd with ⟨hq, hd⟩ | ⟨hq, hd⟩
                · simp [hq]; omega
                · simp [hq]
              rw [e1]
              simp only [List.length_drop] at h2
              simp only [List.length_cons]
              omega

theorem sign_facts {c : UInt8} (h1 : isS c = true) : c ≠ 46 ∧ c ≠ 59 ∧ c ≠ 32 ∧ c ≠ 9 := by
  refine ⟨?_, ?_, ?_, ?_⟩ <;> (intro e; subst e; exact absurd h1 (by decide))

theorem okR32 (y : Str) : okR (32 :: y) := .inr ⟨32, y, rfl, by decide⟩

/-- One token, as Join writes it. -/
theorem line_tok {t : TokL} (h : tokOk t) (p : Int) (r : Str) : lineR p (tokT t ++ r) = preE [(t.1, p, t.2.2.1, t.2.2.2.1, ())] (lineR (p + (tokT t).length) r) := by
  obtain ⟨q, a, s, v, u⟩ := t
  cases u
  unfold tokT
  rcases h with ⟨h1, h2, h3, c, x, h4, h5⟩ | ⟨h1, ⟨w, h2, h2'⟩, h3, c, x, h4, h5, h6⟩ | ⟨h1, h2, h3, c, x, h4, h5⟩ | ⟨h1, h2, c, h4, h5, h6, h7⟩
  · simp only at h1 h2 h3 h4
    subst h1 h2
    have e : (if (1 : Int) = 4 then [46] else []) ++ s ++ [32] ++ r = s ++ (32 :: r) := by simp
    show lineR p ((if (1 : Int) = 4 then [46] else []) ++ s ++ [32] ++ r) = _
    rw [e, line_word h4 h3 (fun y hy => ?_) p (okR32 r), line_blank]
    · congr 2
      simp; omega
    · have hw : wordOf (c :: (x ++ y)) = s := by rw [← List.cons_append, ← h4]; exact word_okR h3 hy
      unfold tokAt
      rw [if_pos h5, hw]
  · simp only at h1 h2 h2' h3 h4
    subst h1 h2'
    have e : (if (2 : Int) = 4 then [46] else []) ++ s ++ [32] ++ r = s ++ (32 :: r) := by simp
    show lineR p ((if (2 : Int) = 4 then [46] else []) ++ s ++ [32] ++ r) = _
    rw [e, line_word h4 h3 (fun y hy => ?_) p (okR32 r), line_blank]
    · congr 2
      simp; omega
    · have hw : wordOf (c :: (x ++ y)) = s := by rw [← List.cons_append, ← h4]; exact word_okR h3 hy
      unfold tokAt
      rw [if_neg (by simp [h5]), if_pos h6, hw, h2]
  · simp only at h1 h2 h3 h4
    subst h1 h2
    have e : (if (4 : Int) = 4 then [46] else []) ++ s ++ [32] ++ r = 46 :: (s ++ (32 :: r)) := by simp
    show lineR p ((if (4 : Int) = 4 then [46] else []) ++ s ++ [32] ++ r) = _
    have hw : wordOf (s ++ (32 :: r)) = s := word_okR h3 (okR32 r)
    rw [e, lineR_cons, if_neg (by decide), if_neg (by decide)]
    unfold tokAt
    rw [if_neg (by decide), if_neg (by decide), if_pos ⟨rfl, c, by rw [h4]; simp, h5⟩, hw]
    dsimp only
    have hd : (s ++ (32 :: r)).drop (1 + s.length - 1) = 32 :: r := by
      rw [show 1 + s.length - 1 = s.length by omega]; exact List.drop_left' rfl
    rw [hd, line_blank]
    have he : p + ((1 : Nat) : Int) + (s.length : Int) + 1 = p + (((if (4 : Int) = 4 then [46] else []) ++ s ++ [32] : Str).length : Nat) := by simp; omega
    rw [he]
    cases lineR (p + (((if (4 : Int) = 4 then [46] else []) ++ s ++ [32] : Str).length : Nat)) r <;> rfl
  · simp only at h1 h2 h4
    subst h1 h2 h4
    obtain ⟨g1, g2, g3, g4⟩ := sign_facts h7
    have e : (if (3 : Int) = 4 then [46] else []) ++ [c] ++ [32] ++ r = c :: (32 :: r) := by simp
    show lineR p ((if (3 : Int) = 4 then [46] else []) ++ [c] ++ [32] ++ r) = _
    rw [e, lineR_cons, if_neg g2, if_neg (fun h => h.elim g3 g4)]
    unfold tokAt
    rw [if_neg (by simp [h5]), if_neg (by simp [h6]), if_neg (fun h => g1 h.1), if_pos h7]
    dsimp only
    rw [show 0 + ([c] : Str).length - 1 = 0 from rfl, List.drop_zero, line_blank]
    have he : p + ((0 : Nat) : Int) + (([c] : Str).length : Int) + 1 = p + (((if (3 : Int) = 4 then [46] else []) ++ [c] ++ [32] : Str).length : Nat) := by simp; omega
    rw [he]
    cases lineR (p + (((if (3 : Int) = 4 then [46] else []) ++ [c] ++ [32] : Str).length : Nat)) r <;> rfl

/-- Joined tokens, scanned. -/
theorem line_join {y : Str} (hy : ∀ q : Int, lineR q y = .ok []) : ∀ (l : List TokL) (p : Int), (∀ t ∈ l, tokOk t) → lineR p (joinR l ++ y) = .ok (reAt p l)
  | [], p, _ => hy p
  | t :: l, p, h => by
    simp only [joinR, reAt]
    rw [List.append_assoc, line_tok (h t (by simp)), line_join hy l _ fun x hx => h x (by simp [hx])]
    rfl

end Rv
