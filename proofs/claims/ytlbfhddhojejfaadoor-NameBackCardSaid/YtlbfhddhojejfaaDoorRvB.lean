/- How an abstract state stands to a frame's temporaries and a world. -/
import Derived.Test.YtlbfhddhojejfaaDoorRvS
import Derived.RowKit3
import Derived.Laws.OwnMore
set_option linter.all false
namespace Rv
open Go

def All2 {α β : Type} (R : α → β → Prop) : List α → List β → Prop
  | [], [] => True
  | a :: r, b :: s => R a b ∧ All2 R r s
  | _, _ => False

section
variable {α β : Type} {R R' : α → β → Prop}
theorem All2.mono (h : ∀ a b, R a b → R' a b) : ∀ {l : List α} {m : List β}, All2 R l m → All2 R' l m
  | [], [], _ => trivial
  | _ :: _, _ :: _, H => ⟨h _ _ H.1, All2.mono h H.2⟩
theorem All2.length : ∀ {l : List α} {m : List β}, All2 R l m → l.length = m.length
  | [], [], _ => rfl
  | _ :: _, _ :: _, H => by simp [All2.length H.2]
theorem All2.get : ∀ {l : List α} {m : List β} {i : Nat} {a : α}, All2 R l m → l[i]? = some a → ∃ b, m[i]? = some b ∧ R a b
  | a :: _, b :: _, 0, _, H, e => by simp at e; subst e; exact ⟨b, rfl, H.1⟩
  | _ :: _, _ :: _, i + 1, _, H, e => by
    simp only [List.getElem?_cons_succ] at e ⊢
    exact All2.get H.2 e
  | [], [], _, _, _, e => by simp at e
theorem All2.append : ∀ {l : List α} {m : List β} {l' : List α} {m' : List β}, All2 R l m → All2 R l' m' → All2 R (l ++ l') (m ++ m')
  | [], [], _, _, _, H => H
  | _ :: _, _ :: _, _, _, H, H' => ⟨H.1, All2.append H.2 H'⟩
theorem All2.take : ∀ (n : Nat) {l : List α} {m : List β}, All2 R l m → All2 R (l.take n) (m.take n)
  | 0, _, _, _ => by simp [All2]
  | _ + 1, [], [], _ => by simp [All2]
  | n + 1, _ :: _, _ :: _, H => ⟨H.1, All2.take n H.2⟩
theorem All2.drop : ∀ (n : Nat) {l : List α} {m : List β}, All2 R l m → All2 R (l.drop n) (m.drop n)
  | 0, _, _, H => by simpa using H
  | _ + 1, [], [], _ => by simp [All2]
  | n + 1, _ :: _, _ :: _, H => by simpa using All2.drop n H.2
end

structure Ctx where
  w0 : World
  own : Nat → Prop
  rd : Nat → Prop
  L : World → Prop
  nl : Nat := 0
  lent : Nat → Option (Nat × Nat) := fun _ => none

abbrev Gam := Nat → Option (Nat × Nat)

def Box.live : Box → Prop
  | .cells _ => True
  | .row _ _ _ => True
  | _ => False

def Box.isRow : Box → Prop
  | .row _ _ _ => True
  | _ => False

/-- May what is read lie in block g? -/
def okb (C : Ctx) (γ : Gam) (h : Heap) (d : Dep) (g : Nat) : Prop :=
  C.rd g ∧ ∀ k e c, h k = some e → e.box.live → γ k = some (g, c) → d = some (k, e.ver, e.dver) ∧ e.box.isRow

/-- How a plain value reads in cells. -/
def Rd (w : World) (ok : Nat → Prop) : (t : Ty) → t.D → List Value → Prop
  | .int k, n, cs => cs = [.int k n]
  | .bool, b, cs => cs = [.bool b]
  | .str, s, cs => cs = [.string (mkS s)]
  | .sl t, xs, cs => ∃ A c, cs = [.slice A xs.length c] ∧ xs.length ≤ c ∧ ∀ i x, xs[i]? = some x → ∃ g o ds, A = some ⟨g, o, none⟩ ∧ ok g ∧ g < w.heap.size ∧ Rd w ok t x ds ∧
      ∀ j v, ds[j]? = some v → w.cell? ⟨g, o + i * t.size + j, none⟩ = some v
  | .nil, _, cs => cs = []
  | .pair a b, x, cs => ∃ c1 c2, cs = c1 ++ c2 ∧ Rd w ok a x.1 c1 ∧ Rd w ok b x.2 c2

theorem Rd.length {w : World} {ok : Nat → Prop} : ∀ {t : Ty} {x : t.D} {cs : List Value}, Rd w ok t x cs → cs.length = t.size
  | .int _, _, _, h => by rw [h]; rfl
  | .bool, _, _, h => by rw [h]; rfl
  | .str, _, _, h => by rw [h]; rfl
  | .sl _, _, _, ⟨_, _, h, _⟩ => by rw [h]; rfl
  | .nil, _, _, h => by rw [h]; rfl
  | .pair _ _, _, _, ⟨_, _, h, h1, h2⟩ => by rw [h, List.length_append, h1.length, h2.length]; rfl

theorem Rd.mono {w w' : World} {ok ok' : Nat → Prop} (hs : w.heap.size ≤ w'.heap.size) (hb : ∀ g, ok g → g < w.heap.size → w'.heap[g]? = w.heap[g]? ∧ ok' g) :
    ∀ {t : Ty} {x : t.D} {cs : List Value}, Rd w ok t x cs → Rd w' ok' t x cs
  | .int _, _, _, h => h
  | .bool, _, _, h => h
  | .str, _, _, h => h
  | .sl _, _, _, ⟨A, c, h, hc, hx⟩ => ⟨A, c, h, hc, fun i x e => by
      obtain ⟨g, o, ds, hA, hg, hgs, hd, hcell⟩ := hx i x e
      obtain ⟨h1, h2⟩ := hb g hg hgs
      exact ⟨g, o, ds, hA, h2, Nat.lt_of_lt_of_le hgs hs, hd.mono hs hb, fun j v e => (World.cell?_of_block h1).trans (hcell j v e)⟩⟩
  | .nil, _, _, h => h
  | .pair _ _, _, _, ⟨c1, c2, h, h1, h2⟩ => ⟨c1, c2, h, h1.mono hs hb, h2.mono hs hb⟩

theorem Rd.one {w : World} {ok : Nat → Prop} : ∀ {t : Ty} {x : t.D} {cs : List Value}, Rd w ok t x cs → ∀ v ∈ cs, v.oneCell' = true
  | .int _, _, _, h => by rw [h]; simp [Value.oneCell']
  | .bool, _, _, h => by rw [h]; simp [Value.oneCell']
  | .str, _, _, h => by rw [h]; simp [Value.oneCell']
  | .sl _, _, _, ⟨_, _, h, _⟩ => by rw [h]; simp [Value.oneCell']
  | .nil, _, _, h => by rw [h]; simp
  | .pair _ _, _, _, ⟨_, _, h, h1, h2⟩ => by
      rw [h]; intro v hv
      rcases List.mem_append.1 hv with hv | hv
      · exact h1.one v hv
      · exact h2.one v hv

def OwnV : Option (Nat × Nat) → Nat → Value → Prop
  | none, n, v => n = 0 ∧ v = .slice none 0 0
  | some (g, c), n, v => v = .slice (some ⟨g, 0, none⟩) n c

/-- A ref to key k in version v: what holds if that is still its version. -/
def Now (h : Heap) (k v : Nat) (p : En → Prop) : Prop := ∃ e, h k = some e ∧ v ≤ e.ver ∧ (v = e.ver → p e)

/-- Does what hangs on contents still stand? -/
def DepNow (h : Heap) : Dep → Prop → Prop
  | none, p => p
  | some (k, v, dv), p => Now h k v fun e => dv ≤ e.dver ∧ (dv = e.dver → p)

def Box.len : Box → Option Nat
  | .row _ _ xs => some xs.length
  | .pub _ xs => some xs.length
  | _ => none

def Box.tsize : Box → Nat
  | .row _ t _ => t.size
  | .pub t _ => t.size
  | _ => 0

/-- A slice that is read: its elements lie in blocks that hang on d, what these hold lies in plain memory. -/
def RdS (C : Ctx) (γ : Gam) (h : Heap) (w : World) (d : Dep) (t : Ty) (xs : List t.D) (v : Value) : Prop :=
  ∃ A c, v = .slice A xs.length c ∧ xs.length ≤ c ∧ ∀ i x, xs[i]? = some x → ∃ g o ds, A = some ⟨g, o, none⟩ ∧ okb C γ h d g ∧ g < w.heap.size ∧ Rd w (okb C γ h none) t x ds ∧
    ∀ j v, ds[j]? = some v → w.cell? ⟨g, o + i * t.size + j, none⟩ = some v

theorem RdS.iff {C : Ctx} {γ : Gam} {h : Heap} {w : World} {t : Ty} {xs : List t.D} {v : Value} : RdS C γ h w none t xs v ↔ Rd w (okb C γ h none) (.sl t) xs [v] := by
  simp [RdS, Rd]

section
variable (C : Ctx) (γ : Gam) (h : Heap) (w : World)

def RepC : Cell → Value → Prop
  | .int k n, v => v = .int k n
  | .bool b, v => v = .bool b
  | .str s, v => v = .string (mkS s)
  | .sl d t xs, v => v.oneCell' = true ∧ DepNow h d (RdS C γ h w d t xs v)
  | .nilS, v => v = .slice none 0 0
  | .own k kv, v => v.oneCell' = true ∧ Now h k kv fun e => ∀ n, e.box.len = some n → OwnV (γ k) n v
  | .ownP k kv m, v => v.oneCell' = true ∧ Now h k kv fun e => ∀ n, e.box.len = some n → m ≤ n ∧ OwnV (γ k) m v
  | .ptr k kv off, v => v.oneCell' = true ∧ Now h k kv fun e => ∀ l, e.box = .cells l → ∃ g c, γ k = some (g, c) ∧ v = .pointer (some ⟨g, off, none⟩)
  | .elt k kv i off, v => v.oneCell' = true ∧ Now h k kv fun e => ∀ n, e.box.len = some n → i < n ∧ ∃ g c, γ k = some (g, c) ∧ v = .pointer (some ⟨g, i * e.box.tsize + off, none⟩)
  | .slp d t xs i off, v => v.oneCell' = true ∧ DepNow h d (∃ g p x ds, v = .pointer (some ⟨g, p + off, none⟩) ∧ xs[i]? = some x ∧ okb C γ h d g ∧ g < w.heap.size ∧ Rd w (okb C γ h none) t x ds ∧
      ∀ j u, ds[j]? = some u → w.cell? ⟨g, p + j, none⟩ = some u)
  | .raw u, v => v = u ∧ u.oneCell' = true
  | .err b, v => v.oneCell' = true ∧ (b = true → v = .nilIface) ∧ (b = false → ∃ t x, v = .iface t x)
  | .ifo t k o, v => match o with
    | none => v = .nilIface
    | some n => v = .iface t (.int k n)
  | .glob g, v => v.oneCell' = true ∧ ∀ w', C.L w' → w'.cell? ⟨g, 0, none⟩ = some v
  | .pel k kv base n i, v => v.oneCell' = true ∧ Now h k kv fun e => ∀ l, e.box = .cells l → i < n ∧ ∃ g c, γ k = some (g, c) ∧ v = .pointer (some ⟨g, base + i, none⟩)
  | .dead, v => v.oneCell' = true

def RepV1 : V1 → Value → Prop
  | .c x, v => RepC C γ h w x v
  | .agg cs, v => ∃ vs : List Value, v = .agg vs.toArray ∧ All2 (RepC C γ h w) cs vs

def RepV : V → Value → Prop
  | .v x, v => RepV1 C γ h w x v
  | .tup xs, v => ∃ vs : List Value, v = .tuple vs.toArray ∧ All2 (RepV1 C γ h w) xs vs
  | .clo f cs, v => ∃ vs : List Value, v = .func (.func f) #[] vs.toArray ∧ All2 (RepC C γ h w) cs vs
  | .no, _ => True

def RowR (ok : Nat → Prop) (t : Ty) (xs : List t.D) (cur : List Value) : Prop :=
  ∀ i x, xs[i]? = some x → Rd w ok t x ((cur.drop (i * t.size)).take t.size)

def BoxR (k : Nat) : Box → Prop
  | .cells l => ∃ g vs T, γ k = some (g, 0) ∧ w.heap[g]? = some (.cells vs T (0, 0)) ∧ All2 (RepC C γ h w) l vs.toList
  | .row e t xs => (γ k = none ∧ xs = []) ∨ ∃ g c cur, γ k = some (g, c) ∧ w.heap[g]? = some (.cells cur e (0, 0)) ∧ xs.length ≤ c ∧ c ≤ maxLen ∧ cur.size = c * t.size ∧ 0 < t.size ∧
      RowR w (okb C γ h none) t xs cur.toList
  | .pub t xs => ∃ v, OwnV (γ k) xs.length v ∧ Rd w (okb C γ h none) (.sl t) xs [v]
  | .gone => True

structure Inv : Prop where
  box : ∀ k e, h k = some e → BoxR C γ h w k e.box
  inj : ∀ k k' e e' g c c', h k = some e → e.box.live → h k' = some e' → e'.box.live → γ k = some (g, c) → γ k' = some (g, c') → k = k'
  own : ∀ k e g c, h k = some e → e.box.live → γ k = some (g, c) → C.own g
  frame : ∀ g, g < C.w0.heap.size → ¬ C.own g → w.heap[g]? = C.w0.heap[g]?
  size : C.w0.heap.size ≤ w.heap.size
  os : w.os = C.w0.os
  tape : w.tape = C.w0.tape
  output : w.output = C.w0.output
  new : ∀ g, C.w0.heap.size ≤ g → C.own g
  rd : ∀ g, C.own g → C.rd g
  laid : C.L w
  stable : ∀ a b : World, C.L a → (∀ g, ¬ C.own g → b.heap[g]? = a.heap[g]?) → C.L b
  lent : ∀ i, i < C.nl → ∃ e, h (nmJ i).1 = some e ∧ (e.ver = 0 → γ (nmJ i).1 = C.lent i)

structure Rel (st : St) (tmps : Array Value) : Prop where
  size : tmps.size = st.s.length
  slot : ∀ i v, st.s[i]? = some v → RepV C γ st.h w v (tmps.getD i undef)
  inv : Inv C γ st.h w
end

/-- What may become of an entry without a new version. -/
def Alike (e e' : En) : Prop :=
  match e.box, e'.box with
  | .cells _, .cells _ => e'.dver = e.dver
  | .row a t xs, .row a' t' xs' => a' = a ∧ (∃ ht : t' = t, (ht ▸ xs' : List t.D).length = xs.length) ∧ e.dver ≤ e'.dver
  | .row _ t xs, .pub t' xs' => (∃ ht : t' = t, (ht ▸ xs' : List t.D) = xs) ∧ e'.dver = e.dver
  | .pub t xs, .pub t' xs' => (∃ ht : t' = t, (ht ▸ xs' : List t.D) = xs) ∧ e'.dver = e.dver
  | .gone, .gone => e'.dver = e.dver
  | _, _ => False

theorem Alike.refl (e : En) : Alike e e := by
  unfold Alike
  cases e.box with
  | cells l => rfl
  | row a t xs => exact ⟨rfl, ⟨rfl, rfl⟩, Nat.le_refl _⟩
  | pub t xs => exact ⟨⟨rfl, rfl⟩, rfl⟩
  | gone => rfl

/-- A step of heap and world. -/
structure Trans (C : Ctx) (γ : Gam) (h : Heap) (w : World) (C' : Ctx) (γ' : Gam) (h' : Heap) (w' : World) : Prop where
  sz : w.heap.size ≤ w'.heap.size
  keep : ∀ k e, h k = some e → ∃ e', h' k = some e' ∧ (e.ver < e'.ver ∨ (e'.ver = e.ver ∧ γ' k = γ k ∧ Alike e e'))
  blk : ∀ g, g < w.heap.size → (∀ k e c, h k = some e → e.box.live → γ k = some (g, c) → e.box.isRow ∧ ∃ e', h' k = some e' ∧ e'.ver = e.ver ∧ e'.dver = e.dver) → w'.heap[g]? = w.heap[g]?
  okn : ∀ k e' c g, h' k = some e' → e'.box.live → γ' k = some (g, c) → g < w.heap.size → ∃ k0 e0 c0, h k0 = some e0 ∧ e0.box.live ∧ γ k0 = some (g, c0) ∧ (k0 = k ∨ ∃ e1, h' k0 = some e1 ∧ e0.ver < e1.ver)
  rd : ∀ g, g < w.heap.size → C.rd g → C'.rd g
  L : ∀ w0, C'.L w0 → C.L w0

section
variable {C C' : Ctx} {γ γ' : Gam} {h h' : Heap} {w w' : World}

/-- Does the dependency stand as it did? -/
def DepSame (h h' : Heap) : Dep → Prop
  | none => True
  | some (k, v, dv) => ∃ e e', h k = some e ∧ h' k = some e' ∧ e.ver = v ∧ e'.ver = v ∧ e.dver = dv ∧ e'.dver = dv

theorem Trans.okb (T : Trans C γ h w C' γ' h' w') {d : Dep} {g : Nat} (hd : DepSame h h' d) (ho : Rv.okb C γ h d g) (hg : g < w.heap.size) : w'.heap[g]? = w.heap[g]? ∧ Rv.okb C' γ' h' d g := by
  refine ⟨T.blk g hg fun k e c hk hl hγ => ?_, T.rd g hg ho.1, fun k e' c hk hl hγ => ?_⟩
  · obtain ⟨rfl, hr⟩ := ho.2 k e c hk hl hγ
    obtain ⟨e0, e1, h0, h1, hv, hv', hdv, hdv'⟩ := hd
    exact ⟨hr, e1, h1, hv', hdv'⟩
  · obtain ⟨k0, e0, c0, hk0, hl0, hγ0, hcase⟩ := T.okn k e' c g hk hl hγ hg
    obtain ⟨rfl, hr⟩ := ho.2 k0 e0 c0 hk0 hl0 hγ0
    obtain ⟨e1, e2, h1, h2, hv, hv', hdv, hdv'⟩ := hd
    rcases hcase with rfl | ⟨e3, h3, hlt⟩
    · rw [h2] at hk
      simp only [Option.some.injEq] at hk
      subst hk
      rw [hk0] at h1
      simp only [Option.some.injEq] at h1
      subst h1
      refine ⟨by rw [hv', hdv'], ?_⟩
      obtain ⟨e4, h4, hc⟩ := T.keep k0 _ hk0
      rw [h2] at h4
      simp only [Option.some.injEq] at h4
      subst h4
      rcases hc with hc | ⟨_, _, ha⟩
      · omega
      · unfold Alike at ha
        cases hb : e0.box with
        | row a t xs =>
          rw [hb] at ha
          cases hb' : e2.box with
          | row a' t' xs' => trivial
          | pub t' xs' => rw [hb'] at hl; exact hl
          | cells l => rw [hb'] at ha; exact ha
          | gone => rw [hb'] at ha; exact ha
        | _ => rw [hb] at hr; exact hr.elim
    · rw [h2] at h3
      simp only [Option.some.injEq] at h3
      subst h3
      omega

theorem DepNow.imp {d : Dep} {p q : Prop} (hd : DepNow h d p) (hk : ∀ k e, h k = some e → ∃ e', h' k = some e' ∧ (e.ver < e'.ver ∨ (e'.ver = e.ver ∧ e.dver ≤ e'.dver))) (hpq : DepSame h h' d → p → q) : DepNow h' d q := by
  cases d with
  | none => exact hpq trivial hd
  | some x =>
    obtain ⟨k, v, dv⟩ := x
    obtain ⟨e, he, hv, hp⟩ := hd
    obtain ⟨e', he', hc⟩ := hk k e he
    rcases hc with hc | ⟨hc, hdc⟩
    · exact ⟨e', he', by omega, fun e => by omega⟩
    · refine ⟨e', he', by omega, fun hve => ?_⟩
      obtain ⟨h1, h2⟩ := hp (by omega)
      exact ⟨by omega, fun hdv => hpq ⟨e, e', he, he', by omega, by omega, by omega, by omega⟩ (h2 (by omega))⟩

theorem Alike.dver {e e' : En} (ha : Alike e e') : e.dver ≤ e'.dver := by
  unfold Alike at ha
  split at ha <;> first | omega | exact ha.elim

theorem Alike.len {e e' : En} (ha : Alike e e') : e'.box.len = e.box.len ∧ (∀ n, e.box.len = some n → e'.box.tsize = e.box.tsize) := by
  unfold Alike at ha
  split at ha
  · rename_i h1 h2; rw [h1, h2]; exact ⟨rfl, fun n hn => by cases hn⟩
  · rename_i h1 h2
    obtain ⟨rfl, ⟨rfl, hl⟩, _⟩ := ha
    rw [h1, h2]; simp only at hl; simp [Box.len, Box.tsize, hl]
  · rename_i h1 h2
    obtain ⟨⟨rfl, hl⟩, _⟩ := ha
    simp only at hl
    rw [h1, h2]; simp [Box.len, Box.tsize, hl]
  · rename_i h1 h2
    obtain ⟨⟨rfl, hl⟩, _⟩ := ha
    simp only at hl
    rw [h1, h2]; simp [Box.len, Box.tsize, hl]
  · rename_i h1 h2; rw [h1, h2]; exact ⟨rfl, fun n hn => by cases hn⟩
  · exact ha.elim

theorem Alike.cells {e e' : En} (ha : Alike e e') {l : List Cell} (hl : e'.box = .cells l) : ∃ l', e.box = .cells l' := by
  unfold Alike at ha
  rw [hl] at ha
  cases hb : e.box with
  | cells l' => exact ⟨l', rfl⟩
  | _ => rw [hb] at ha; exact ha.elim

theorem Now.imp {k v : Nat} {p q : En → Prop} (hn : Now h k v p) (T : Trans C γ h w C' γ' h' w') (hpq : ∀ e e', h k = some e → h' k = some e' → γ' k = γ k → Alike e e' → p e → q e') : Now h' k v q := by
  obtain ⟨e, he, hv, hp⟩ := hn
  obtain ⟨e', he', hc⟩ := T.keep k e he
  rcases hc with hc | ⟨hc, hg, ha⟩
  · exact ⟨e', he', by omega, fun e => by omega⟩
  · exact ⟨e', he', by omega, fun hve => hpq e e' he he' hg ha (hp (by omega))⟩

theorem Trans.kp (T : Trans C γ h w C' γ' h' w') : ∀ k e, h k = some e → ∃ e', h' k = some e' ∧ (e.ver < e'.ver ∨ (e'.ver = e.ver ∧ e.dver ≤ e'.dver)) := fun k e hk => by
  obtain ⟨e', he', hc⟩ := T.keep k e hk
  exact ⟨e', he', hc.imp id fun ⟨h1, _, ha⟩ => ⟨h1, ha.dver⟩⟩

theorem RepC.step (T : Trans C γ h w C' γ' h' w') : ∀ {c : Cell} {v : Value}, RepC C γ h w c v → RepC C' γ' h' w' c v := by
  intro c v hr
  have rdm : ∀ {d : Dep} {t : Ty} {x : t.D} {cs : List Value}, DepSame h h' d → Rd w (Rv.okb C γ h d) t x cs → Rd w' (Rv.okb C' γ' h' d) t x cs := fun hd hh => hh.mono T.sz fun g ho hg => T.okb hd ho hg
  cases c with
  | int k n => exact hr
  | bool b => exact hr
  | str s => exact hr
  | nilS => exact hr
  | raw u => exact hr
  | err b => exact hr
  | ifo t k o => exact hr
  | dead => exact hr
  | sl d t xs =>
    refine ⟨hr.1, hr.2.imp T.kp fun hd hh => ?_⟩
    obtain ⟨A, c, hv, hle, hx⟩ := hh
    refine ⟨A, c, hv, hle, fun i x e => ?_⟩
    obtain ⟨g, o, ds, hA, ho, hg, hrd, hc⟩ := hx i x e
    have h1 := T.okb hd ho hg
    exact ⟨g, o, ds, hA, h1.2, Nat.lt_of_lt_of_le hg T.sz, rdm (d := none) trivial hrd, fun j u e => (World.cell?_of_block h1.1).trans (hc j u e)⟩
  | slp d t xs i off =>
    refine ⟨hr.1, hr.2.imp T.kp fun hd hh => ?_⟩
    obtain ⟨g, p, x, ds, hv, hx, ho, hg, hrd, hc⟩ := hh
    have h1 := T.okb hd ho hg
    exact ⟨g, p, x, ds, hv, hx, h1.2, Nat.lt_of_lt_of_le hg T.sz, rdm (d := none) trivial hrd, fun j u e => (World.cell?_of_block h1.1).trans (hc j u e)⟩
  | own k kv =>
    refine ⟨hr.1, hr.2.imp T fun e e' _ _ hg ha hp n hn => ?_⟩
    rw [hg]; exact hp n (by rw [← ha.len.1]; exact hn)
  | ownP k kv m =>
    refine ⟨hr.1, hr.2.imp T fun e e' _ _ hg ha hp n hn => ?_⟩
    rw [hg]; exact hp n (by rw [← ha.len.1]; exact hn)
  | ptr k kv off =>
    refine ⟨hr.1, hr.2.imp T fun e e' _ _ hg ha hp l hl => ?_⟩
    obtain ⟨l', hl'⟩ := ha.cells hl
    rw [hg]; exact hp l' hl'
  | glob g => exact ⟨hr.1, fun w0 h0 => hr.2 w0 (T.L w0 h0)⟩
  | pel k kv base n i =>
    refine ⟨hr.1, hr.2.imp T fun e e' _ _ hg ha hp l hl => ?_⟩
    obtain ⟨l', hl'⟩ := ha.cells hl
    rw [hg]; exact hp l' hl'
  | elt k kv i off =>
    refine ⟨hr.1, hr.2.imp T fun e e' _ _ hg ha hp n hn => ?_⟩
    have hn' : e.box.len = some n := by rw [← ha.len.1]; exact hn
    rw [hg, ha.len.2 n hn']; exact hp n hn'

theorem RepV1.step (T : Trans C γ h w C' γ' h' w') {x : V1} {v : Value} (hr : RepV1 C γ h w x v) : RepV1 C' γ' h' w' x v := by
  cases x with
  | c x => exact RepC.step T hr
  | agg cs =>
    obtain ⟨vs, hv, ha⟩ := hr
    exact ⟨vs, hv, ha.mono fun _ _ hh => RepC.step T hh⟩

theorem RepV.step (T : Trans C γ h w C' γ' h' w') {x : V} {v : Value} (hr : RepV C γ h w x v) : RepV C' γ' h' w' x v := by
  cases x with
  | v x => exact RepV1.step T hr
  | tup xs =>
    obtain ⟨vs, hv, ha⟩ := hr
    exact ⟨vs, hv, ha.mono fun _ _ hh => RepV1.step T hh⟩
  | clo f cs =>
    obtain ⟨vs, hv, ha⟩ := hr
    exact ⟨vs, hv, ha.mono fun _ _ hh => RepC.step T hh⟩
  | no => trivial

/-- A box that stays as it is. -/
theorem BoxR.step (T : Trans C γ h w C' γ' h' w') {k : Nat} {b : Box} (hb : BoxR C γ h w k b) (hg : γ' k = γ k) (blk : b.live → ∀ g c, γ k = some (g, c) → w'.heap[g]? = w.heap[g]?) : BoxR C' γ' h' w' k b := by
  cases b with
  | cells l =>
    obtain ⟨g, vs, U, hγ, hb, ha⟩ := hb
    exact ⟨g, vs, U, by rw [hg]; exact hγ, (blk trivial g 0 hγ).trans hb, ha.mono fun _ _ hh => RepC.step T hh⟩
  | row e t xs =>
    rcases hb with ⟨h0, hx⟩ | ⟨g, c, cur, hγ, hb, hc, hcm, hcs, hsz, hr⟩
    · exact .inl ⟨by rw [hg]; exact h0, hx⟩
    · exact .inr ⟨g, c, cur, by rw [hg]; exact hγ, (blk trivial g c hγ).trans hb, hc, hcm, hcs, hsz, fun i x hx => (hr i x hx).mono T.sz fun g ho hg => T.okb (d := none) trivial ho hg⟩
  | pub t xs =>
    obtain ⟨v, h1, h2⟩ := hb
    exact ⟨v, by rw [hg]; exact h1, h2.mono T.sz fun g ho hg => T.okb (d := none) trivial ho hg⟩
  | gone => trivial

/-- What was lent, is where it was. -/
theorem Trans.lent {nl : Nat} {lent : Nat → Option (Nat × Nat)} (T : Trans C γ h w C' γ' h' w') (hl : ∀ i, i < nl → ∃ e, h (nmJ i).1 = some e ∧ (e.ver = 0 → γ (nmJ i).1 = lent i)) :
    ∀ i, i < nl → ∃ e, h' (nmJ i).1 = some e ∧ (e.ver = 0 → γ' (nmJ i).1 = lent i) := fun i hi => by
  obtain ⟨e, he, hv⟩ := hl i hi
  obtain ⟨e', he', hc⟩ := T.keep _ e he
  refine ⟨e', he', fun h0 => ?_⟩
  rcases hc with hc | ⟨hc, hg, _⟩
  · omega
  · rw [hg]; exact hv (by omega)

theorem Rel.step {st : St} {tmps : Array Value} (R : Rel C γ w st tmps) (T : Trans C γ st.h w C' γ' h' w') (I' : Inv C' γ' h' w') : Rel C' γ' w' ⟨st.s, h'⟩ tmps where
  size := R.size
  slot := fun i v hv => RepV.step T (R.slot i v hv)
  inv := I'

/-- What an own row reads as. -/
theorem Inv.row (I : Inv C γ h w) {k : Nat} {e : En} {a : TypeId} {t : Ty} {xs : List t.D} (hk : h k = some e) (hb : e.box = .row a t xs) {n : Nat} (hn : n ≤ xs.length) {v : Value} (hv : OwnV (γ k) n v) :
    RdS C γ h w (some (k, e.ver, e.dver)) t (xs.take n) v := by
  have hbx := I.box k e hk
  rw [hb] at hbx
  rcases hbx with ⟨h0, hx⟩ | ⟨g, c, cur, hγ, hbl, hc, _, hcs, hsz, hr⟩
  · rw [h0] at hv
    obtain ⟨rfl, rfl⟩ := hv
    exact ⟨none, 0, by simp, by simp, fun i x e => by simp at e⟩
  · rw [hγ] at hv
    have hgs : g < w.heap.size := (Array.getElem?_eq_some_iff.1 hbl).1
    have hl : e.box.live := by rw [hb]; trivial
    refine ⟨some ⟨g, 0, none⟩, c, ?_, ?_, fun i x hx => ?_⟩
    · simp only [OwnV] at hv; rw [hv]; simp; omega
    · simp; omega
    · have hi : xs[i]? = some x := by
        rw [List.getElem?_take] at hx; split at hx
        · exact hx
        · cases hx
      have hrd := hr i x hi
      refine ⟨g, 0, _, rfl, ⟨I.rd g (I.own k e g c hk hl hγ), fun k' e' c' hk' hl' hγ' => ?_⟩, hgs, hrd, fun j u hj => ?_⟩
      · have ee := I.inj k k' e e' g c c' hk hl hk' hl' hγ hγ'
        subst ee
        rw [hk] at hk'
        simp only [Option.some.injEq] at hk'
        subst hk'
        exact ⟨rfl, by rw [hb]; trivial⟩
      · rw [cell_of_row w g _ cur a (0, 0) hbl]
        rw [List.getElem?_take] at hj
        split at hj
        · rw [List.getElem?_drop] at hj
          simpa using hj
        · cases hj

theorem at_some {k v : Nat} {b : Box} (ha : h.at k v = some b) : ∃ e, h k = some e ∧ e.ver = v ∧ e.box = b := by
  unfold Heap.at at ha
  split at ha
  · rename_i e he
    split at ha
    · simp only [Option.some.injEq] at ha
      exact ⟨e, he, ‹_›, ha⟩
    · cases ha
  · cases ha

theorem Now.get {k v : Nat} {p : En → Prop} (hn : Now h k v p) {e : En} (he : h k = some e) (hv : e.ver = v) : p e := by
  obtain ⟨e', he', _, hp⟩ := hn
  rw [he] at he'
  simp only [Option.some.injEq] at he'
  subst he'
  exact hp hv.symm

theorem DepNow.get {d : Dep} {p : Prop} (hn : DepNow h d p) (hd : h.depOk d = true) : p := by
  cases d with
  | none => exact hn
  | some x =>
    obtain ⟨k, v, dv⟩ := x
    simp only [Heap.depOk] at hd
    split at hd
    · rename_i e he
      simp only [decide_eq_true_eq] at hd
      exact (Now.get hn he hd.1).2 hd.2.symm
    · cases hd

/-- What a slice reads as, whatever it is. -/
theorem rowOf_rd (I : Inv C γ h w) {c : Cell} {r : (t : Ty) × List t.D} (hr : rowOf h c = some r) {v : Value} (hv : RepC C γ h w c v) : RdS C γ h w (depOf h c) r.1 r.2 v := by
  have weak : ∀ {t : Ty} {xs : List t.D} {d : Dep}, RdS C γ h w none t xs v → RdS C γ h w d t xs v := fun {t xs d} ⟨A, c, h1, h2, h3⟩ =>
    ⟨A, c, h1, h2, fun i x e => by
      obtain ⟨g, o, ds, hA, ho, hg, hrd, hc⟩ := h3 i x e
      exact ⟨g, o, ds, hA, ⟨ho.1, fun k' e' c' hk' hl' hγ' => by have := (ho.2 k' e' c' hk' hl' hγ').1; simp at this⟩, hg, hrd, hc⟩⟩
  cases c with
  | sl d t xs =>
    simp only [rowOf] at hr
    split at hr
    · simp only [Option.some.injEq] at hr
      subst hr
      exact hv.2.get ‹_›
    · cases hr
  | own k kv =>
    simp only [rowOf] at hr
    split at hr
    · rename_i a t xs ha
      simp only [Option.some.injEq] at hr
      subst hr
      obtain ⟨e, he, hve, hb⟩ := at_some ha
      have := I.row he hb (Nat.le_refl _) (hv.2.get he hve xs.length (by rw [hb]; rfl))
      simp only [depOf, he, Option.map_some]
      rw [List.take_length, hve] at this
      exact this
    · rename_i t xs ha
      simp only [Option.some.injEq] at hr
      subst hr
      obtain ⟨e, he, hve, hb⟩ := at_some ha
      have hbx := I.box k e he
      rw [hb] at hbx
      obtain ⟨u, h1, h2⟩ := hbx
      have h3 := hv.2.get he hve xs.length (by rw [hb]; rfl)
      have : u = v := by
        cases hγ : γ k with
        | none => rw [hγ] at h1 h3; rw [h1.2, h3.2]
        | some p => rw [hγ] at h1 h3; rw [show u = _ from h1, show v = _ from h3]
      subst this
      exact weak (RdS.iff.2 h2)
    · cases hr
  | ownP k kv n =>
    simp only [rowOf] at hr
    split at hr
    · rename_i a t xs ha
      simp only [Option.some.injEq] at hr
      subst hr
      obtain ⟨e, he, hve, hb⟩ := at_some ha
      obtain ⟨hn, ho⟩ := hv.2.get he hve xs.length (by rw [hb]; rfl)
      have := I.row he hb hn ho
      simp only [depOf, he, Option.map_some]
      rw [hve] at this
      exact this
    · rename_i t xs ha
      simp only [Option.some.injEq] at hr
      subst hr
      obtain ⟨e, he, hve, hb⟩ := at_some ha
      have hbx := I.box k e he
      rw [hb] at hbx
      obtain ⟨u, h1, A, c, hA, hle, hx⟩ := hbx
      obtain ⟨hn, ho⟩ := hv.2.get he hve xs.length (by rw [hb]; rfl)
      simp only [List.cons.injEq, and_true] at hA
      apply weak
      cases hγ : γ k with
      | none =>
        rw [hγ] at ho
        obtain ⟨rfl, rfl⟩ := ho
        exact RdS.iff.2 ⟨none, 0, by simp, by simp, fun i x e => by simp at e⟩
      | some p =>
        obtain ⟨g, cc⟩ := p
        rw [hγ] at ho h1
        rw [show u = _ from h1] at hA
        simp only [Value.slice.injEq, true_and] at hA
        obtain ⟨rfl, rfl⟩ := hA
        refine RdS.iff.2 ⟨some ⟨g, 0, none⟩, cc, ?_, by simp; omega, fun i x e => ?_⟩
        · rw [show v = _ from ho]; simp; omega
        · rw [List.getElem?_take] at e
          split at e
          · exact hx i x e
          · cases e
    · cases hr
  | _ => simp [rowOf] at hr

end
end Rv
