/- Expressions as trees: their items, their tokens, how deep they are. -/
import Derived.Test.YtchahhlcmabmaaaDoorPGb
set_option linter.all false
namespace Rv
open Go

inductive Opr
  | add | sub | mul

def Opr.kind : Opr → Int
  | .add => 4 | .sub => 5 | .mul => 6
def Opr.byte : Opr → UInt8
  | .add => 43 | .sub => 45 | .mul => 42
/-- How tight it binds: its left part is as tight, its right part tighter. -/
def Opr.tight : Opr → Nat
  | .mul => 1 | _ => 0

inductive Tr
  | num (n : Int) | nam (s : Str) | neg (x : Tr) | bin (o : Opr) (a b : Tr) | br (x : Tr)

namespace Tr
def post : Tr → List Item
  | .num n => [(1, n, [], ())]
  | .nam s => [(2, 0, s, ())]
  | .neg x => x.post ++ [(3, 0, [], ())]
  | .bin o a b => a.post ++ b.post ++ [(o.kind, 0, [], ())]
  | .br x => x.post

def ok : Tr → Prop
  | .num n => 0 ≤ n ∧ n ≤ 4294967295
  | .nam s => labelOk s = true
  | .neg x => x.ok
  | .bin _ a b => a.ok ∧ b.ok
  | .br x => x.ok

/-- No brackets but those that must be. -/
def plain : Tr → Prop
  | .neg x => x.plain
  | .bin _ a b => a.plain ∧ b.plain
  | .br _ => False
  | _ => True

def tight : Tr → Nat
  | .bin o _ _ => o.tight
  | _ => 2
end Tr

/-- A token without its place. -/
abbrev Bt := Int × Str × Int
abbrev TokL := Int × Int × Str × Int × Unit
def bare (t : TokL) : Bt := (t.1, t.2.2.1, t.2.2.2.1)

def tLp : Bt := (3, [40], 0)
def tRp : Bt := (3, [41], 0)
def tOp (o : Opr) : Bt := (3, [o.byte], 0)
def tNeg : Bt := (3, [45], 0)

def brk (b : Bool) (l : List Bt) : List Bt := if b then tLp :: (l ++ [tRp]) else l

namespace Tr
def toks : Tr → List Bt
  | .num n => [(2, Lib.itoa n, n)]
  | .nam s => [(1, s, 0)]
  | .neg x => tNeg :: brk (decide (x.tight < 2)) x.toks
  | .bin o a b => brk (decide (a.tight < o.tight)) a.toks ++ tOp o :: brk (decide (b.tight < o.tight + 1)) b.toks
  | .br x => tLp :: (x.toks ++ [tRp])

/-- Its tokens where it must be so tight. -/
def toksA (lv : Nat) (x : Tr) : List Bt := brk (decide (x.tight < lv)) x.toks

def dep : Tr → Nat
  | .num _ => 0
  | .nam _ => 0
  | .neg x => 1 + (x.dep + if x.tight < 2 then 1 else 0)
  | .bin o a b => max (a.dep + if a.tight < o.tight then 1 else 0) (b.dep + if b.tight < o.tight + 1 then 1 else 0)
  | .br x => 1 + x.dep

def depA (lv : Nat) (x : Tr) : Nat := x.dep + if x.tight < lv then 1 else 0

theorem tight_le (x : Tr) : x.tight ≤ 2 := by cases x <;> simp [tight]; rename_i o _ _; cases o <;> simp [Opr.tight]

theorem post_pos : ∀ x : Tr, 1 ≤ x.post.length
  | .num _ => by simp [post]
  | .nam _ => by simp [post]
  | .neg _ => by simp [post]
  | .bin _ _ _ => by simp [post]; omega
  | .br x => post_pos x

/-- How many signs and brackets there are: at least as many as it is deep. -/
def cnt (l : List Bt) : Nat := l.countP fun b => decide (b.2.1 = [45]) || decide (b.2.1 = [40])

theorem cnt_app (a b : List Bt) : cnt (a ++ b) = cnt a + cnt b := List.countP_append
theorem cnt_cons (b : Bt) (l : List Bt) : cnt (b :: l) = cnt l + if (decide (b.2.1 = [45]) || decide (b.2.1 = [40])) = true then 1 else 0 := by unfold cnt; rw [List.countP_cons]

theorem cnt_brk {b : Bool} {l : List Bt} {k : Nat} (h : k ≤ cnt l) : (k + if b = true then 1 else 0) ≤ cnt (brk b l) := by
  unfold brk
  cases b with
  | false => simpa using h
  | true =>
    simp only [if_true]
    rw [cnt_cons, cnt_app]
    simp [tLp]; omega

theorem dep_cnt : ∀ x : Tr, x.dep ≤ cnt x.toks
  | .num _ => Nat.zero_le _
  | .nam _ => Nat.zero_le _
  | .neg x => by
    have h := cnt_brk (b := decide (x.tight < 2)) (dep_cnt x)
    simp only [dep, toks, cnt_cons]
    simp only [decide_eq_true_eq] at h
    simp [tNeg]; omega
  | .bin o a b => by
    have h1 := cnt_brk (b := decide (a.tight < o.tight)) (dep_cnt a)
    have h2 := cnt_brk (b := decide (b.tight < o.tight + 1)) (dep_cnt b)
    simp only [decide_eq_true_eq] at h1 h2
    simp only [dep, toks, cnt_app, cnt_cons]
    omega
  | .br x => by
    have h := dep_cnt x
    simp only [dep, toks, cnt_cons, cnt_app]
    simp [tLp]; omega

theorem depA_cnt (lv : Nat) (x : Tr) : x.depA lv ≤ cnt (x.toksA lv) := by
  have h := cnt_brk (b := decide (x.tight < lv)) (dep_cnt x)
  simp only [decide_eq_true_eq] at h
  exact h
end Tr

/-- What an item that may be is. -/
theorem item_cases {x : Item} (h : (needsR x).2 = true) : (∃ n, x = (1, n, [], ())) ∨ (∃ s, x = (2, 0, s, ()) ∧ labelOk s = true) ∨ x = (3, 0, [], ()) ∨ ∃ o : Opr, x = (o.kind, 0, [], ()) := by
  obtain ⟨a, b, c, u⟩ := x
  cases u
  unfold needsR at h
  dsimp only at h
  split at h
  · rename_i h1
    simp only [decide_eq_true_eq] at h
    exact .inl ⟨b, by rw [h1, h]⟩
  · split at h
    · rename_i h2
      simp only [Bool.and_eq_true, decide_eq_true_eq] at h
      exact .inr (.inl ⟨c, by rw [h2, h.1], h.2⟩)
    · split at h
      · rename_i h3
        simp only [Bool.and_eq_true, decide_eq_true_eq] at h
        exact .inr (.inr (.inl (by rw [h3, h.1, h.2])))
      · split at h
        · rename_i h4
          simp only [Bool.and_eq_true, decide_eq_true_eq] at h
          obtain ⟨rfl, rfl⟩ := h
          rcases h4 with rfl | rfl | rfl
          · exact .inr (.inr (.inr ⟨.add, rfl⟩))
          · exact .inr (.inr (.inr ⟨.sub, rfl⟩))
          · exact .inr (.inr (.inr ⟨.mul, rfl⟩))
        · cases h

theorem snocT (l : List Tr) : l = [] ∨ ∃ a x, l = a ++ [x] := by
  rcases List.eq_nil_or_concat l with h | ⟨a, x, h⟩
  · exact .inl h
  · exact .inr ⟨a, x, by simpa using h⟩

def posts (st : List Tr) : List Item := (st.map Tr.post).flatten

theorem posts_app (a b : List Tr) : posts (a ++ b) = posts a ++ posts b := by simp [posts]
theorem posts_one (x : Tr) : posts [x] = x.post := by simp [posts]

theorem trees_of : ∀ (e : List Item) (st : List Tr) (k : Int), enough (st.length : Int) e = some k → (∀ x ∈ e, goodItem x) → (∀ x ∈ st, x.ok ∧ x.plain) →
    ∃ st' : List Tr, (st'.length : Int) = k ∧ posts st ++ e = posts st' ∧ ∀ x ∈ st', x.ok ∧ x.plain
  | [], st, k, h, _, ho => by
    simp only [enough, Option.some.injEq] at h
    exact ⟨st, h, by simp, ho⟩
  | x :: e, st, k, h, hg, ho => by
    have hgx := hg x (by simp)
    unfold enough at h
    split at h
    case isFalse => cases h
    rename_i hc
    have push : ∀ (l : List Tr) (t : Tr), (∀ y ∈ l, y.ok ∧ y.plain) → t.ok ∧ t.plain → ((l.length : Int) + 1 = st.length + (1 - (needsR x).1)) → posts st ++ [x] = posts l ++ t.post → ∃ st' : List Tr, (st'.length : Int) = k ∧ posts st ++ x :: e = posts st' ∧ ∀ x ∈ st', x.ok ∧ x.plain := by
      intro l t hl ht hlen hp
      obtain ⟨st', h1, h2, h3⟩ := trees_of e (l ++ [t]) k (by rw [show ((l ++ [t]).length : Int) = st.length + (1 - (needsR x).1) by rw [← hlen]; simp]; exact h) (fun y hy => hg y (by simp [hy])) (fun y hy => by
        rcases List.mem_append.1 hy with hy | hy
        · exact hl y hy
        · rw [List.mem_singleton] at hy; subst hy; exact ht)
      refine ⟨st', h1, ?_, h3⟩
      rw [← h2, posts_app, posts_one, ← hp]; simp
    rcases item_cases hc.1 with ⟨n, rfl⟩ | ⟨s, rfl, hs⟩ | rfl | ⟨o, rfl⟩
    · exact push st (.num n) ho ⟨⟨hgx.1, hgx.2.1⟩, trivial⟩ (by rw [show (needsR (1, n, [], ())).1 = 0 from rfl]; omega) rfl
    · exact push st (.nam s) ho ⟨hs, trivial⟩ (by rw [show (needsR (2, 0, s, ())).1 = 0 from rfl]; omega) rfl
    · have e1 : (needsR (3, 0, [], ())).1 = 1 := rfl
      rcases snocT st with rfl | ⟨l, v, rfl⟩
      · exact absurd hc.2 (by rw [e1]; simp)
      · have hv := ho v (by simp)
        exact push l (.neg v) (fun y hy => ho y (by simp [hy])) hv (by rw [e1]; simp <;> omega) (by rw [posts_app, posts_one]; simp [Tr.post])
    · have e2 : (needsR (o.kind, 0, [], ())).1 = 2 := by cases o <;> rfl
      rcases snocT st with rfl | ⟨l0, v, rfl⟩
      · exact absurd hc.2 (by rw [e2]; simp)
      · rcases snocT l0 with rfl | ⟨l, w, rfl⟩
        · exact absurd hc.2 (by rw [e2]; simp)
        · exact push l (.bin o w v) (fun y hy => ho y (by simp [hy])) ⟨⟨(ho w (by simp)).1, (ho v (by simp)).1⟩, (ho w (by simp)).2, (ho v (by simp)).2⟩ (by rw [e2]; simp <;> omega) (by rw [posts_app, posts_app, posts_one, posts_one]; simp [Tr.post])

/-- An expression is a tree's items. -/
theorem tree_of {e : List Item} (h : wellL e) (hg : ∀ x ∈ e, goodItem x) : ∃ t : Tr, t.post = e ∧ t.ok ∧ t.plain := by
  obtain ⟨st, h1, h2, h3⟩ := trees_of e [] 1 h hg (fun x hx => by cases hx)
  match st, h1, h2, h3 with
  | [t], _, h2, h3 => exact ⟨t, by rw [posts_one] at h2; exact h2.symm, h3 t (by simp)⟩
  | [], h1, _, _ => simp at h1
  | _ :: _ :: _, h1, _, _ => simp at h1; omega

end Rv
