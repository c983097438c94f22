/- An expression's text, and its tokens. -/
import Derived.Test.YtchahhlcmabmaaaDoorPTree
import Derived.Test.YtchahhlcmabmaaaDoorPDigs
set_option linter.all false
namespace Rv
open Go

def brkT (b : Bool) (s : Str) : Str := if b then 40 :: (s ++ [41]) else s

namespace Tr
def txt : Tr → Str
  | .num n => Lib.itoa n
  | .nam s => s
  | .neg x => 45 :: brkT (decide (x.tight < 2)) x.txt
  | .bin o a b => brkT (decide (a.tight < o.tight)) a.txt ++ ([32, o.byte, 32] ++ brkT (decide (b.tight < o.tight + 1)) b.txt)
  | .br x => 40 :: (x.txt ++ [41])
end Tr

/- Decimal numerals. -/
theorem dec_num : ∀ (n : Nat), n < 4294967296 → numFrom 10 0 (Lib.decDigits n) = some n := by
  intro n
  induction n using Nat.strongRecOn with
  | _ n ih =>
    intro hn
    rw [Lib.decDigits]
    have hd : ∀ d, d < 10 → digOf (UInt8.ofNat (48 + d)) = some d := fun d h => by
      have := (dch_facts (show d < 16 by omega)).1
      unfold dch at this
      rwa [if_pos h] at this
    split
    · rename_i h
      simp only [numFrom, hd n h]
      rw [if_pos h, if_pos (by omega)]
      simp
    · rename_i h
      rw [numFrom_app, ih (n / 10) (by omega) (by omega), Option.bind_some]
      simp only [numFrom, hd (n % 10) (by omega)]
      have e : n / 10 * 10 + n % 10 = n := by omega
      rw [if_pos (by omega), e, if_pos hn]

theorem dec_all : ∀ (n : Nat), (Lib.decDigits n).all isD = true ∧ Lib.decDigits n ≠ [] := by
  intro n
  induction n using Nat.strongRecOn with
  | _ n ih =>
    rw [Lib.decDigits]
    have hd : ∀ d, d < 10 → isD (UInt8.ofNat (48 + d)) = true := fun d h => by
      have := (dch_facts (show d < 16 by omega)).2.2.1 h
      unfold dch at this
      rwa [if_pos h] at this
    split
    · rename_i h
      exact ⟨by rw [List.all_cons, hd n h]; rfl, by simp⟩
    · rename_i h
      exact ⟨by rw [List.all_append, (ih (n / 10) (by omega)).1, List.all_cons, hd (n % 10) (by omega)]; rfl, by simp⟩

theorem dec_len : ∀ (k n : Nat), n < 10 ^ (k + 1) → (Lib.decDigits n).length ≤ k + 1
  | 0, n, h => by
    rw [Lib.decDigits, dif_pos (by simpa using h)]; simp
  | k + 1, n, h => by
    rw [Lib.decDigits]
    split
    · simp
    · have := dec_len k (n / 10) (by rw [Nat.div_lt_iff_lt_mul (by omega), ← Nat.pow_succ]; exact h)
      simp; omega

def preE (ts : List TokL) : Except Int (List TokL) → Except Int (List TokL)
  | .error e => .error e
  | .ok l => .ok (ts ++ l)

theorem preE_app (a b : List TokL) (x : Except Int (List TokL)) : preE (a ++ b) x = preE a (preE b x) := by cases x <;> simp [preE]

def okR (r : Str) : Prop := r = [] ∨ ∃ b y, r = b :: y ∧ isW b = false

/-- A word alone, ahead of what is none. -/
theorem word_okR {s r : Str} (hs : s.all isW = true) (hr : okR r) : wordOf (s ++ r) = s := by
  rcases hr with rfl | ⟨b, y, rfl, hb⟩
  · rw [List.append_nil]; exact wordOf_all hs
  · unfold wordOf
    rw [takeW_app hb]
    exact wordOf_all hs

theorem line_word {s : Str} {c : UInt8} {t : Str} (hs : s = c :: t) (ha : s.all isW = true) {q v : Int} (hk : ∀ r, okR r → tokAt c (t ++ r) = .ok (0, q, s, v)) (k : Int) {r : Str} (hr : okR r) : lineR k (s ++ r) = preE [(q, k, s, v, ())] (lineR (k + s.length) r) := by
  subst hs
  have hW : isW c = true := by simp only [List.all_cons, Bool.and_eq_true] at ha; exact ha.1
  obtain ⟨h1, h2⟩ := blank_facts hW
  rw [List.cons_append, lineR_cons, if_neg h1, if_neg h2, hk r hr]
  dsimp only
  have hd : (t ++ r).drop (0 + (c :: t).length - 1) = r := by
    rw [List.length_cons, show 0 + (t.length + 1) - 1 = t.length by omega]
    exact List.drop_left' rfl
  rw [hd, show k + ((0 : Nat) : Int) + ((c :: t).length : Int) = k + ((c :: t).length : Int) by omega]
  cases lineR (k + ((c :: t).length : Int)) r <;> rfl

theorem line_dec (n : Int) (h : 0 ≤ n ∧ n ≤ 4294967295) (k : Int) {r : Str} (hr : okR r) : lineR k (Lib.itoa n ++ r) = preE [(2, k, Lib.itoa n, n, ())] (lineR (k + (Lib.itoa n).length) r) := by
  obtain ⟨m, rfl⟩ : ∃ m : Nat, n = m := ⟨n.toNat, by omega⟩
  have hi : Lib.itoa (m : Int) = Lib.decDigits m := by unfold Lib.itoa; rw [if_neg (by omega)]; rfl
  obtain ⟨hD, hne⟩ := dec_all m
  rw [hi]
  obtain ⟨c, t, hs⟩ : ∃ c t, Lib.decDigits m = c :: t := by
    cases hd : Lib.decDigits m with
    | nil => exact absurd hd hne
    | cons c t => exact ⟨c, t, rfl⟩
  have hW : (Lib.decDigits m).all isW = true := by
    rw [List.all_eq_true] at hD ⊢
    intro x hx
    have := hD x hx
    simp [isW, this]
  have hc : isD c = true := List.all_eq_true.1 hD c (by rw [hs]; simp)
  refine line_word hs hW (fun r hr => ?_) k hr
  have hL : ¬ isL c = true := by
    intro h
    unfold isL at h
    unfold isD at hc
    simp only [decide_eq_true_eq] at h hc
    omega
  have hword : wordOf (c :: (t ++ r)) = Lib.decDigits m := by
    rw [← List.cons_append, ← hs]; exact word_okR hW hr
  have hnum : num (Lib.decDigits m) = some m := by
    unfold num
    have : ¬ ([48, 120] : Str).isPrefixOf (Lib.decDigits m) = true := by
      intro hp
      rw [hs] at hp hD
      cases t with
      | nil => simp [List.isPrefixOf] at hp
      | cons b t =>
        have hb : isD b = true := List.all_eq_true.1 hD b (by simp)
        simp only [List.isPrefixOf, Bool.and_true, Bool.and_eq_true, beq_iff_eq] at hp
        rw [← hp.2] at hb
        exact absurd hb (by decide)
    rw [if_neg this, if_neg hne]
    exact dec_num m (by omega)
  unfold tokAt
  rw [if_neg hL, if_pos hc, hword, hnum]

theorem line_name' {s : Str} (h : labelOk s = true) (k : Int) {r : Str} (hr : okR r) : lineR k (s ++ r) = preE [(1, k, s, 0, ())] (lineR (k + s.length) r) := by
  unfold labelOk at h
  simp only [Bool.and_eq_true, decide_eq_true_eq, Bool.not_eq_true'] at h
  obtain ⟨⟨⟨⟨hne, _⟩, hD⟩, hW⟩, _⟩ := h
  obtain ⟨c, t, hs⟩ : ∃ c t, s = c :: t := by
    cases s with
    | nil => exact absurd rfl hne
    | cons c t => exact ⟨c, t, rfl⟩
  have hc : isL c = true := by
    have h1 : isW c = true := List.all_eq_true.1 hW c (by rw [hs]; simp)
    rw [hs] at hD
    have h2 : isD c = false := hD
    simpa [isW, h2] using h1
  refine line_word hs hW (fun r hr => ?_) k hr
  have hword : wordOf (c :: (t ++ r)) = s := by
    rw [← List.cons_append, ← hs]; exact word_okR hW hr
  unfold tokAt
  rw [if_pos hc, hword]

theorem line_sig (c : UInt8) (hc : c ∈ ([40, 41, 42, 43, 45] : Str)) (k : Int) (r : Str) : lineR k (c :: r) = preE [(3, k, [c], 0, ())] (lineR (k + 1) r) := by
  have step : isL c = false ∧ isD c = false ∧ c ≠ 46 ∧ isS c = true ∧ c ≠ 59 ∧ c ≠ 32 ∧ c ≠ 9 := by
    simp only [List.mem_cons, List.not_mem_nil, or_false] at hc
    rcases hc with rfl | rfl | rfl | rfl | rfl <;> decide
  obtain ⟨h1, h2, h3, h4, h5, h6, h7⟩ := step
  rw [lineR_cons, if_neg h5, if_neg (fun h => h.elim h6 h7)]
  unfold tokAt
  rw [if_neg (by simp [h1]), if_neg (by simp [h2]), if_neg (fun h => h3 h.1), if_pos h4]
  dsimp only
  rw [show k + ((0 : Nat) : Int) + (([c] : Str).length : Int) = k + 1 by simp, show 0 + ([c] : Str).length - 1 = 0 from rfl, List.drop_zero]
  cases lineR (k + 1) r <;> rfl

theorem line_blank (k : Int) (r : Str) : lineR k (32 :: r) = lineR (k + 1) r := by
  rw [lineR_cons, if_neg (by decide), if_pos (.inl rfl)]

/-- A text is scanned: to these tokens, wherever it stands. -/
def Scans (s : Str) (b : List Bt) : Prop := ∀ k : Int, ∃ ts : List TokL, ts.map bare = b ∧ ∀ r, okR r → lineR k (s ++ r) = preE ts (lineR (k + s.length) r)

theorem Scans.sig (c : UInt8) (hc : c ∈ ([40, 41, 42, 43, 45] : Str)) : ∀ k : Int, ∃ ts : List TokL, ts.map bare = [(3, [c], 0)] ∧ ∀ r, lineR k ([c] ++ r) = preE ts (lineR (k + ([c] : Str).length) r) := fun k =>
  ⟨[(3, k, [c], 0, ())], rfl, fun r => line_sig c hc k r⟩

theorem Scans.brk {s : Str} {b : List Bt} (h : Scans s b) : Scans (40 :: (s ++ [41])) (tLp :: (b ++ [tRp])) := fun k => by
  obtain ⟨ts, h1, h2⟩ := h (k + 1)
  refine ⟨[(3, k, [40], 0, ())] ++ ts ++ [(3, k + 1 + s.length, [41], 0, ())], ?_, fun r hr => ?_⟩
  · rw [List.map_append, List.map_append, h1]; rfl
  · have e : (40 :: (s ++ [41])) ++ r = 40 :: (s ++ (41 :: r)) := by simp
    rw [e, line_sig 40 (by simp), h2 _ (.inr ⟨41, r, rfl, by decide⟩), line_sig 41 (by simp), ← preE_app, ← preE_app]
    congr 2
    simp; omega

theorem Scans.brkT {s : Str} {b : List Bt} (h : Scans s b) (x : Bool) : Scans (Rv.brkT x s) (Rv.brk x b) := by
  unfold Rv.brkT Rv.brk
  cases x with
  | false => exact h
  | true => exact h.brk

theorem scans_tree : ∀ t : Tr, t.ok → Scans t.txt t.toks
  | .num n, h => fun k => ⟨_, rfl, fun r hr => line_dec n h k hr⟩
  | .nam s, h => fun k => ⟨_, rfl, fun r hr => line_name' h k hr⟩
  | .neg x, h => fun k => by
    obtain ⟨ts, h1, h2⟩ := (scans_tree x h).brkT (decide (x.tight < 2)) (k + 1)
    refine ⟨[(3, k, [45], 0, ())] ++ ts, ?_, fun r hr => ?_⟩
    · rw [List.map_append, h1]; rfl
    · show lineR k (45 :: (Rv.brkT (decide (x.tight < 2)) x.txt ++ r)) = _
      rw [line_sig 45 (by simp), h2 r hr, ← preE_app]
      congr 2
      simp [Tr.txt]; omega
  | .br x, h => (scans_tree x h).brk
  | .bin o a b, h => fun k => by
    obtain ⟨t1, h1, h2⟩ := (scans_tree a h.1).brkT (decide (a.tight < o.tight)) k
    obtain ⟨t2, h3, h4⟩ := (scans_tree b h.2).brkT (decide (b.tight < o.tight + 1)) (k + (Rv.brkT (decide (a.tight < o.tight)) a.txt).length + 3)
    refine ⟨t1 ++ [(3, k + (Rv.brkT (decide (a.tight < o.tight)) a.txt).length + 1, [o.byte], 0, ())] ++ t2, ?_, fun r hr => ?_⟩
    · rw [List.map_append, List.map_append, h1, h3, List.append_assoc]; rfl
    · have e : (Tr.bin o a b).txt ++ r = Rv.brkT (decide (a.tight < o.tight)) a.txt ++ (32 :: o.byte :: 32 :: (Rv.brkT (decide (b.tight < o.tight + 1)) b.txt ++ r)) := by simp [Tr.txt]
      rw [e, h2 _ (.inr ⟨32, _, rfl, by decide⟩), line_blank, line_sig o.byte (by cases o <;> simp [Opr.byte]), line_blank]
      rw [show k + ((Rv.brkT (decide (a.tight < o.tight)) a.txt).length : Int) + 1 + 1 + 1 = k + (Rv.brkT (decide (a.tight < o.tight)) a.txt).length + 3 by omega, h4 r hr, ← preE_app, ← preE_app]
      congr 2
      simp [Tr.txt]; omega

theorem brkT_len (b : Bool) (s : Str) : (brkT b s).length ≤ s.length + 2 := by unfold brkT; split <;> simp

theorem txt_len : ∀ t : Tr, t.ok → t.plain → t.txt.length ≤ 20 * t.post.length
  | .num n, h, _ => by
    obtain ⟨m, rfl⟩ : ∃ m : Nat, n = m := ⟨n.toNat, by have := h.1; omega⟩
    have hi : Lib.itoa (m : Int) = Lib.decDigits m := by unfold Lib.itoa; rw [if_neg (by omega)]; rfl
    have := dec_len 9 m (by have h2 := h.2; omega)
    show (Lib.itoa (m : Int)).length ≤ 20 * 1
    rw [hi]; omega
  | .nam s, h, _ => by
    have h : labelOk s = true := h
    unfold labelOk at h
    simp only [Bool.and_eq_true, decide_eq_true_eq] at h
    have := h.1.1.1.2
    show s.length ≤ 20 * 1
    omega
  | .neg x, h, hp => by
    have h1 := txt_len x h hp
    have h2 := brkT_len (decide (x.tight < 2)) x.txt
    simp [Tr.txt, Tr.post]; omega
  | .br x, _, hp => hp.elim
  | .bin o a b, h, hp => by
    have h1 := txt_len a h.1 hp.1
    have h2 := txt_len b h.2 hp.2
    have h3 := brkT_len (decide (a.tight < o.tight)) a.txt
    have h4 := brkT_len (decide (b.tight < o.tight + 1)) b.txt
    simp [Tr.txt, Tr.post]; omega

end Rv
