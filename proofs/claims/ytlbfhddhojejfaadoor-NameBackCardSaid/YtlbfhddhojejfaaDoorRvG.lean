/- Operations that make or turn memory. -/
import Derived.Test.YtlbfhddhojejfaaDoorRvF
set_option linter.all false
namespace Rv
open Go

section
variable {P : Program} {C : Ctx} {γ : Gam} {h : Heap} {w : World} {R : Type} {r : R}

theorem Rel.put {st : St} {a : Act} (R' : Rel C γ w st a.tmps) (dst : Option Nat) {y : V} {val : Value} (hr : RepV C γ st.h w y val) : Rel C γ w (st.put dst y) (a.put dst val).tmps := by
  cases dst with
  | none => exact R'
  | some d =>
    refine ⟨by simp [St.put, Act.put, R'.size], fun i v hv => ?_, R'.inv⟩
    simp only [St.put, List.getElem?_set] at hv
    by_cases e : d = i
    · subst e
      rw [if_pos rfl] at hv
      by_cases hl : d < st.s.length
      · rw [if_pos hl] at hv
        simp only [Option.some.injEq] at hv
        subst hv
        have hsz : d < a.tmps.size := by rw [R'.size]; exact hl
        simpa [St.put, Act.put, Array.getD, hsz] using hr
      · rw [if_neg hl] at hv; cases hv
    · rw [if_neg e] at hv
      have := R'.slot i v hv
      simpa [St.put, Act.put, Array.getD_eq_getD_getElem?, Array.getElem?_setIfInBounds, e] using this

/-- The frame between the world in which the call began and this one, a step further. -/
structure Step (C : Ctx) (w w' : World) : Prop where
  size : w.heap.size ≤ w'.heap.size
  old : ∀ g, g < w.heap.size → ¬ C.own g → w'.heap[g]? = w.heap[g]?
  os : w'.os = w.os
  tape : w'.tape = w.tape
  output : w'.output = w.output

theorem Step.of_ext {w w' : World} (hE : Ext w w') (h1 : w'.os = w.os) (h2 : w'.tape = w.tape) (h3 : w'.output = w.output) : Step C w w' := ⟨hE.1, fun g hg _ => hE.2 g hg, h1, h2, h3⟩

theorem Inv.step {γ' : Gam} {h' : Heap} {w' : World} (I : Inv C γ h w) (S : Step C w w') (T : Trans C γ h w C γ' h' w') (hbox : ∀ k e, h' k = some e → BoxR C γ' h' w' k e.box)
    (hinj : ∀ k k' e e' g c c', h' k = some e → e.box.live → h' k' = some e' → e'.box.live → γ' k = some (g, c) → γ' k' = some (g, c') → k = k')
    (hown : ∀ k e g c, h' k = some e → e.box.live → γ' k = some (g, c) → C.own g) : Inv C γ' h' w' where
  box := hbox
  inj := hinj
  own := hown
  frame := fun g hg hno => (S.old g (Nat.lt_of_lt_of_le hg I.size) hno).trans (I.frame g hg hno)
  size := Nat.le_trans I.size S.size
  os := S.os.trans I.os
  tape := S.tape.trans I.tape
  output := S.output.trans I.output
  new := I.new
  rd := I.rd
  laid := I.stable w w' I.laid fun g hno => by
    by_cases hg : g < w.heap.size
    · exact S.old g hg hno
    · exact absurd (I.new g (Nat.le_trans I.size (by omega))) hno
  stable := I.stable
  lent := T.lent I.lent

def setG (γ : Gam) (K : Nat) (v : Option (Nat × Nat)) : Gam := fun j => if j = K then v else γ j

theorem setG_same (γ : Gam) (K : Nat) (v : Option (Nat × Nat)) : setG γ K v K = v := by simp [setG]
theorem setG_ne (γ : Gam) {K k : Nat} (v : Option (Nat × Nat)) (h : k ≠ K) : setG γ K v k = γ k := by simp [setG, h]
theorem set_same (h : Heap) (K : Nat) (e : En) : h.set K e K = some e := by simp [Heap.set]
theorem set_ne (h : Heap) {K k : Nat} (e : En) (hne : k ≠ K) : h.set K e k = h k := by simp [Heap.set, hne]

theorem key_lt (I : Inv C γ h w) {k g c : Nat} {e : En} (hk : h k = some e) (hl : e.box.live) (hγ : γ k = some (g, c)) : g < w.heap.size := by
  have := I.box k e hk
  cases hb : e.box with
  | cells l =>
    rw [hb] at this
    obtain ⟨g', vs, U, h1, h2, _⟩ := this
    rw [hγ] at h1
    simp only [Option.some.injEq, Prod.mk.injEq] at h1
    rw [h1.1]; exact (Array.getElem?_eq_some_iff.1 h2).1
  | row a t xs =>
    rw [hb] at this
    rcases this with ⟨h0, _⟩ | ⟨g', c', cur, h1, h2, _⟩
    · rw [hγ] at h0; cases h0
    · rw [hγ] at h1
      simp only [Option.some.injEq, Prod.mk.injEq] at h1
      rw [h1.1]; exact (Array.getElem?_eq_some_iff.1 h2).1
  | pub t xs => rw [hb] at hl; exact hl.elim
  | gone => rw [hb] at hl; exact hl.elim

theorem next_gt {K : Nat} {e : En} (hk : h K = some e) : e.ver < h.next K := by simp [Heap.next, hk]

/-- A new key over a new block: the step of the other cells. -/
theorem trans_fresh (_I : Inv C γ h w) {w' : World} (hE : Ext w w') (K : Nat) (b : Box) (v : Option (Nat × Nat)) (hv : ∀ g c, v = some (g, c) → w.heap.size ≤ g) :
    Trans C γ h w C (setG γ K v) (h.set K ⟨h.next K, 0, b⟩) w' where
  sz := hE.1
  blk := fun g hg _ => hE.2 g hg
  keep := fun k e hk => by
    by_cases hkK : k = K
    · subst hkK
      exact ⟨_, set_same _ _ _, .inl (next_gt hk)⟩
    · exact ⟨e, by rw [set_ne _ _ hkK]; exact hk, .inr ⟨rfl, setG_ne _ _ hkK, Alike.refl e⟩⟩
  okn := fun k e' c g hk hl hγ hg => by
    by_cases hkK : k = K
    · subst hkK
      rw [setG_same] at hγ
      exact absurd (hv g c hγ) (by omega)
    · rw [setG_ne _ _ hkK] at hγ
      rw [set_ne _ _ hkK] at hk
      exact ⟨k, e', c, hk, hl, hγ, .inl rfl⟩
  rd := fun _ _ h => h
  L := fun _ h => h

theorem Inv.fresh (I : Inv C γ h w) {w' : World} (hE : Ext w w') (S : Step C w w') (K : Nat) (b : Box) (v : Option (Nat × Nat)) (hv : ∀ g c, v = some (g, c) → w.heap.size ≤ g)
    (hB : BoxR C (setG γ K v) (h.set K ⟨h.next K, 0, b⟩) w' K b) : Inv C (setG γ K v) (h.set K ⟨h.next K, 0, b⟩) w' := by
  have T := trans_fresh I hE K b v hv
  refine I.step S T (fun k e hk => ?_) (fun k k' e e' g c c' hk hl hk' hl' h1 h2 => ?_) (fun k e g c hk hl h1 => ?_)
  · by_cases hkK : k = K
    · subst hkK
      rw [set_same] at hk
      simp only [Option.some.injEq] at hk
      subst hk
      exact hB
    · rw [set_ne _ _ hkK] at hk
      exact BoxR.step T (I.box k e hk) (setG_ne _ _ hkK) fun hl g c hγ => hE.2 g (key_lt I hk hl hγ)
  · by_cases hkK : k = K <;> by_cases hkK' : k' = K
    · rw [hkK, hkK']
    · subst hkK
      rw [setG_same] at h1
      rw [setG_ne _ _ hkK'] at h2
      rw [set_ne _ _ hkK'] at hk'
      have := key_lt I hk' hl' h2
      have := hv g c h1
      omega
    · subst hkK'
      rw [setG_same] at h2
      rw [setG_ne _ _ hkK] at h1
      rw [set_ne _ _ hkK] at hk
      have := key_lt I hk hl h1
      have := hv g c' h2
      omega
    · rw [setG_ne _ _ hkK] at h1
      rw [setG_ne _ _ hkK'] at h2
      rw [set_ne _ _ hkK] at hk
      rw [set_ne _ _ hkK'] at hk'
      exact I.inj k k' e e' g c c' hk hl hk' hl' h1 h2
  · by_cases hkK : k = K
    · subst hkK
      rw [setG_same] at h1
      exact I.new g (Nat.le_trans I.size (hv g c h1))
    · rw [setG_ne _ _ hkK] at h1
      rw [set_ne _ _ hkK] at hk
      exact I.own k e g c hk hl h1

/-- What is to be shown of an operation that did x. -/
def OpOk (P : Program) (C : Ctx) (w : World) (st : St) (a : Act) (o : Oper) (x : Dl) : Prop :=
  ∀ (next : Act → World → Prop) (Q : Exit → Act → World → Prop), (∀ γ' w' val, Rel C γ' w' (st.app o.dst x) (a.put o.dst val).tmps → next (a.put o.dst val) w') → o.wp P a w next Q

/-- A state after a step of heap and world. -/
theorem Rel.app {st : St} {a : Act} (R' : Rel C γ w st a.tmps) {γ' : Gam} {w' : World} {dst : Option Nat} {x : Dl} (T : Trans C γ st.h w C γ' (x.up.foldl (fun h p => h.set p.1 p.2) st.h) w')
    (I' : Inv C γ' (x.up.foldl (fun h p => h.set p.1 p.2) st.h) w') {val : Value} (hv : RepV C γ' (x.up.foldl (fun h p => h.set p.1 p.2) st.h) w' x.v val) : Rel C γ' w' (st.app dst x) (a.put dst val).tmps := by
  have R1 : Rel C γ' w' ⟨st.s, x.up.foldl (fun h p => h.set p.1 p.2) st.h⟩ a.tmps := R'.step T I'
  exact R1.put dst hv

theorem wp_value {o : Oper} {a : Act} {val : Value} {w' : World} (hr : (execOp a.eval o).run P w = .ok (.value val) w') {next : Act → World → Prop} {Q : Exit → Act → World → Prop} (hn : next (a.put o.dst val) w') : o.wp P a w next Q := by
  unfold Oper.wp; rw [hr]; exact hn

theorem wp_skip' {o : Oper} {a : Act} {w' : World} (hr : (execOp a.eval o).run P w = .ok .skip w') {next : Act → World → Prop} {Q : Exit → Act → World → Prop} (hn : next (a.put o.dst undef) w') : o.wp P a w next Q := by
  unfold Oper.wp; rw [hr]; exact hn

theorem ext_alloc (w : World) (o : Obj) : Ext w (w.alloc o) := ⟨by simp, fun g hg => Go.RowKit.Below.heap_alloc w o g hg⟩
theorem step_alloc (w : World) (o : Obj) : Step C w (w.alloc o) := Step.of_ext (ext_alloc w o) rfl rfl rfl

theorem some_pair {a b g c : Nat} (h : some (a, b) = some (g, c)) : a = g ∧ b = c := by simpa using h

/-- A new box. -/
theorem box_ok {st : St} {a : Act} (R' : Rel C γ w st a.tmps) {o : Oper} {T : TypeId} {l : List Cell} {vs : Array Value} {rd : List Nat} (ha : All2 (RepC C γ st.h w) l vs.toList)
    (hrun : (execOp a.eval o).run P w = .ok (.value (.pointer (some ⟨w.heap.size, 0, none⟩))) (w.alloc (.cells vs T))) :
    OpOk P C w st a o ⟨.v (.c (.ptr (dk o.dst) (st.h.next (dk o.dst)) 0)), rd, [(dk o.dst, ⟨st.h.next (dk o.dst), 0, .cells l⟩)]⟩ := by
  intro next Q hn
  have hE := ext_alloc w (.cells vs T)
  have hv : ∀ g c, some (w.heap.size, 0) = some (g, c) → w.heap.size ≤ g := fun g c e => by have := some_pair e; omega
  have T' := trans_fresh R'.inv hE (dk o.dst) (.cells l) (some (w.heap.size, 0)) hv
  refine wp_value hrun (hn (setG γ (dk o.dst) (some (w.heap.size, 0))) _ _ (R'.app T' (R'.inv.fresh hE (step_alloc w _) (dk o.dst) (.cells l) (some (w.heap.size, 0)) hv ?_) ?_))
  · exact ⟨w.heap.size, vs, T, setG_same _ _ _, heap_alloc_new w _, ha.mono fun _ _ hh => RepC.step T' hh⟩
  · exact ⟨rfl, now_self (set_same _ _ _) rfl fun l _ => ⟨w.heap.size, 0, setG_same _ _ _, rfl⟩⟩

theorem Rd.parse : ∀ {t : Ty} {l : List Cell} {x : t.D} {rest : List Cell} {vs : List Value}, t.parse l = some (x, rest) → All2 (RepC C γ h w) l vs → ∃ v1 v2, vs = v1 ++ v2 ∧ Rd w (okb C γ h none) t x v1 ∧ All2 (RepC C γ h w) rest v2
  | .int k, l, x, rest, vs, he, ha => by
    cases l with
    | nil => simp [Ty.parse] at he
    | cons c r =>
      cases c with
      | int j n =>
        simp only [Ty.parse] at he
        split at he
        · rename_i hjk
          subst hjk
          simp only [Option.some.injEq, Prod.mk.injEq] at he
          obtain ⟨rfl, rfl⟩ := he
          cases vs with
          | nil => exact ha.elim
          | cons v vs => exact ⟨[v], vs, rfl, by rw [show v = _ from ha.1]; rfl, ha.2⟩
        · cases he
      | _ => simp [Ty.parse] at he
  | .bool, l, x, rest, vs, he, ha => by
    cases l with
    | nil => simp [Ty.parse] at he
    | cons c r =>
      cases c with
      | bool b =>
        simp only [Ty.parse, Option.some.injEq, Prod.mk.injEq] at he
        obtain ⟨rfl, rfl⟩ := he
        cases vs with
        | nil => exact ha.elim
        | cons v vs => exact ⟨[v], vs, rfl, by rw [show v = _ from ha.1]; rfl, ha.2⟩
      | _ => simp [Ty.parse] at he
  | .str, l, x, rest, vs, he, ha => by
    cases l with
    | nil => simp [Ty.parse] at he
    | cons c r =>
      cases c with
      | str b =>
        simp only [Ty.parse, Option.some.injEq, Prod.mk.injEq] at he
        obtain ⟨rfl, rfl⟩ := he
        cases vs with
        | nil => exact ha.elim
        | cons v vs => exact ⟨[v], vs, rfl, by rw [show v = _ from ha.1]; rfl, ha.2⟩
      | _ => simp [Ty.parse] at he
  | .sl t, l, x, rest, vs, he, ha => by
    cases l with
    | nil => simp [Ty.parse] at he
    | cons c r =>
      cases c with
      | nilS =>
        simp only [Ty.parse, Option.some.injEq, Prod.mk.injEq] at he
        obtain ⟨rfl, rfl⟩ := he
        cases vs with
        | nil => exact ha.elim
        | cons v vs => exact ⟨[v], vs, rfl, ⟨none, 0, by rw [show v = _ from ha.1]; rfl, by simp, fun i x e => by simp at e⟩, ha.2⟩
      | sl d t' xs =>
        cases d with
        | some d => simp [Ty.parse] at he
        | none =>
          simp only [Ty.parse] at he
          split at he
          · rename_i ht
            subst ht
            simp only [Option.some.injEq, Prod.mk.injEq] at he
            obtain ⟨rfl, rfl⟩ := he
            cases vs with
            | nil => exact ha.elim
            | cons v vs => exact ⟨[v], vs, rfl, RdS.iff.1 ha.1.2, ha.2⟩
          · cases he
      | _ => simp [Ty.parse] at he
  | .nil, l, x, rest, vs, he, ha => by
    simp only [Ty.parse, Option.some.injEq, Prod.mk.injEq] at he
    obtain ⟨_, rfl⟩ := he
    exact ⟨[], vs, rfl, rfl, ha⟩
  | .pair a b, l, x, rest, vs, he, ha => by
    simp only [Ty.parse] at he
    split at he
    · rename_i x1 r1 h1
      split at he
      · rename_i x2 r2 h2
        simp only [Option.some.injEq, Prod.mk.injEq] at he
        obtain ⟨rfl, rfl⟩ := he
        obtain ⟨v1, v2, rfl, hr1, ha1⟩ := Rd.parse h1 ha
        obtain ⟨v3, v4, rfl, hr2, ha2⟩ := Rd.parse h2 ha1
        exact ⟨v1 ++ v3, v4, by simp, ⟨v1, v3, rfl, hr1, hr2⟩, ha2⟩
      · cases he
    · cases he

theorem Rd.ofCells {t : Ty} {l : List Cell} {x : t.D} {vs : List Value} (he : t.ofCells l = some x) (ha : All2 (RepC C γ h w) l vs) : Rd w (okb C γ h none) t x vs := by
  unfold Ty.ofCells at he
  split at he
  · rename_i y hp
    simp only [Option.some.injEq] at he
    subst he
    obtain ⟨v1, v2, rfl, hr, ha⟩ := Rd.parse hp ha
    cases v2 with
    | nil => simpa using hr
    | cons _ _ => exact ha.elim
  · cases he

theorem alloc_ok {st : St} {a : Act} (R' : Rel C γ w st a.tmps) {o : Oper} {t : TypeId} {ti : TI} (hi : TIok P t ti) (ho : o.op = .alloc t) {rd : List Nat} :
    OpOk P C w st a o ⟨.v (.c (.ptr (dk o.dst) (st.h.next (dk o.dst)) 0)), rd, [(dk o.dst, ⟨st.h.next (dk o.dst), 0, .cells ti.zero⟩)]⟩ := by
  obtain ⟨z, hz, hzs, hza⟩ := zero_run (C := C) (γ := γ) (h := st.h) (w := w) hi
  refine box_ok R' hza (T := t) ?_
  simp [execOp, ho, Instr.alloc, hz, newVar, newRow]

theorem boxop_ok {st : St} {a : Act} (R' : Rel C γ w st a.tmps) {o : Oper} {t : TypeId} {x : Operand} {v : V1} (hx : opd st x = some v) (ho : o.op = .box t x) {rd : List Nat} :
    OpOk P C w st a o ⟨.v (.c (.ptr (dk o.dst) (st.h.next (dk o.dst)) 0)), rd, [(dk o.dst, ⟨st.h.next (dk o.dst), 0, .cells v.cells⟩)]⟩ := by
  obtain ⟨h1, h2⟩ := R'.opd hx
  refine box_ok R' h1.cells (T := t) ?_
  simp [execOp, ho, Instr.box, newVar, newRow]

theorem RowR.set {ok : Nat → Prop} {t : Ty} {xs : List t.D} {cur : List Value} (hr : RowR w ok t xs cur) (hl : cur.length = xs.length * t.size) {i : Nat} (hi : i < xs.length) {x : t.D} {ds : List Value} (hd : Rd w ok t x ds) :
    RowR w ok t (xs.set i x) (cur.take (i * t.size) ++ ds ++ cur.drop (i * t.size + t.size)) := by
  have hlen := hd.length
  have hle : i * t.size + t.size ≤ cur.length := by
    rw [hl]
    calc i * t.size + t.size = (i + 1) * t.size := by rw [Nat.add_mul, Nat.one_mul]
      _ ≤ xs.length * t.size := Nat.mul_le_mul_right _ hi
  intro j y hj
  rw [List.getElem?_set] at hj
  by_cases e : i = j
  · subst e
    rw [if_pos rfl, if_pos hi] at hj
    simp only [Option.some.injEq] at hj
    subst hj
    have : ((cur.take (i * t.size) ++ ds ++ cur.drop (i * t.size + t.size)).drop (i * t.size)).take t.size = ds := by
      rw [List.append_assoc, List.drop_append_of_le_length (by simp; omega), List.drop_of_length_le (by simp; omega), List.nil_append, List.take_append_of_le_length (by omega), List.take_of_length_le (by omega)]
    rw [this]; exact hd
  · rw [if_neg e] at hj
    have := hr j y hj
    have hjl : j < xs.length := (List.getElem?_eq_some_iff.1 hj).1
    have hjle : j * t.size + t.size ≤ cur.length := by
      rw [hl]
      calc j * t.size + t.size = (j + 1) * t.size := by rw [Nat.add_mul, Nat.one_mul]
        _ ≤ xs.length * t.size := Nat.mul_le_mul_right _ hjl
    have heq : ((cur.take (i * t.size) ++ ds ++ cur.drop (i * t.size + t.size)).drop (j * t.size)).take t.size = (cur.drop (j * t.size)).take t.size := by
      apply List.ext_getElem?
      intro m
      rw [List.getElem?_take, List.getElem?_take]
      split
      · rename_i hm
        rw [List.getElem?_drop, List.getElem?_drop]
        rcases Nat.lt_or_gt_of_ne e with hlt | hgt
        · have h1 : i * t.size + t.size ≤ j * t.size := by
            calc i * t.size + t.size = (i + 1) * t.size := by rw [Nat.add_mul, Nat.one_mul]
              _ ≤ j * t.size := Nat.mul_le_mul_right _ hlt
          rw [List.append_assoc, List.getElem?_append_right (by simp; omega), List.getElem?_append_right (by simp; omega), List.getElem?_drop]
          congr 1
          simp
          omega
        · have h1 : j * t.size + t.size ≤ i * t.size := by
            calc j * t.size + t.size = (j + 1) * t.size := by rw [Nat.add_mul, Nat.one_mul]
              _ ≤ i * t.size := Nat.mul_le_mul_right _ hgt
          rw [List.append_assoc, List.getElem?_append_left (by simp; omega), List.getElem?_take, if_pos (by omega)]
      · rfl
    rw [heq]; exact this

theorem rowFill_sound {t : Ty} {ok : Nat → Prop} (hok : ∀ {l : List Cell} {x : t.D} {vs : List Value}, t.ofCells l = some x → All2 (RepC C γ h w) l vs → Rd w ok t x vs) :
    ∀ {ps : List (Nat × V1)} {qs : List (Nat × Value)} {acc xs : List t.D} {vs : Array Value}, rowFill t acc ps = some xs → RowR w ok t acc vs.toList → vs.size = acc.length * t.size →
    All2 (fun (p : Nat × V1) (q : Nat × Value) => p.1 = q.1 ∧ All2 (RepC C γ h w) p.2.cells q.2.cells.toList) ps qs →
    ∃ vs' : Array Value, Instr.fill (fun i => some (i * t.size, t.size)) vs qs = some vs' ∧ RowR w ok t xs vs'.toList ∧ vs'.size = vs.size ∧ xs.length = acc.length
  | [], [], acc, xs, vs, he, hr, hl, _ => by
    simp only [rowFill, Option.some.injEq] at he
    subst he
    exact ⟨vs, rfl, hr, rfl, rfl⟩
  | (i, x) :: ps, (j, v) :: qs, acc, xs, vs, he, hr, hl, hp => by
    obtain ⟨⟨hij, hc⟩, hp⟩ := hp
    simp only at hij
    subst hij
    simp only [rowFill] at he
    split at he
    · rename_i y hy
      obtain ⟨hi, he⟩ := if_some he
      have hd := hok hy hc
      have hlen := hd.length
      have hle : i * t.size + t.size ≤ vs.size := by
        rw [hl]
        calc i * t.size + t.size = (i + 1) * t.size := by rw [Nat.add_mul, Nat.one_mul]
          _ ≤ acc.length * t.size := Nat.mul_le_mul_right _ hi
      have hsz : v.cells.size = t.size := by simpa using hlen
      have hset : (v.cells.zipIdx.foldl (fun (cs : Array Value) (p : Value × Nat) => cs.setIfInBounds (i * t.size + p.2) p.1) vs).toList = vs.toList.take (i * t.size) ++ v.cells.toList ++ vs.toList.drop (i * t.size + t.size) := by
        rw [← Array.foldl_toList, Array.toList_zipIdx]
        have := set_run v.cells.toList 0 (i * t.size) vs (by simp; omega)
        simpa [hsz] using this
      have hr' := hr.set (by simpa using hl) hi hd
      rw [← hset] at hr'
      have hsize : (v.cells.zipIdx.foldl (fun (cs : Array Value) (p : Value × Nat) => cs.setIfInBounds (i * t.size + p.2) p.1) vs).size = vs.size := by
        rw [← Array.length_toList, hset]; simp; omega
      obtain ⟨vs', h3, h4, h5, h6⟩ := rowFill_sound hok he hr' (by rw [hsize, hl]; simp) hp
      refine ⟨vs', ?_, h4, by rw [h5, hsize], by rw [h6]; simp⟩
      simp only [Instr.fill]
      rw [if_neg (by simp; omega)]
      exact h3
    · cases he
  | [], _ :: _, _, _, _, _, _, _, hp => hp.elim
  | _ :: _, [], _, _, _, _, _, _, hp => hp.elim

end
end Rv
