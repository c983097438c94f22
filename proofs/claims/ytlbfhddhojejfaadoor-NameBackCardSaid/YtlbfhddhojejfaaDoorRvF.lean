/- Building values; the law of all operations that yield a value. -/
import Derived.Test.YtlbfhddhojejfaaDoorRvE
set_option linter.all false
namespace Rv
open Go

section
variable {P : Program} {C : Ctx} {γ : Gam} {h : Heap} {w : World} {R : Type} {r : R}

theorem set_run : ∀ (l : List Value) (i off : Nat) (cs : Array Value), off + i + l.length ≤ cs.size →
    ((l.zipIdx i).foldl (fun (cs : Array Value) (p : Value × Nat) => cs.setIfInBounds (off + p.2) p.1) cs).toList = cs.toList.take (off + i) ++ l ++ cs.toList.drop (off + i + l.length)
  | [], i, off, cs, _ => by simp
  | v :: l, i, off, cs, hle => by
    simp only [List.length_cons] at hle
    simp only [List.zipIdx_cons, List.foldl_cons]
    rw [set_run l (i + 1) off _ (by simp; omega)]
    have hi : off + i < cs.toList.length := by simp; omega
    simp only [Array.toList_setIfInBounds, List.length_cons]
    rw [show off + (i + 1) = off + i + 1 by omega, List.take_succ_eq_append_getElem (by simpa using hi), List.drop_set, if_pos (by omega), show off + i + 1 + l.length = off + i + (l.length + 1) by omega]
    simp [List.take_set_of_le]

theorem fill_sound {place : Nat → Option (Nat × Nat)} {R' : Cell → Value → Prop} : ∀ {ps : List (Nat × V1)} {qs : List (Nat × Value)} {cs cs' : List Cell} {vs : Array Value},
    fillCells place cs ps = some cs' → All2 R' cs vs.toList → All2 (fun (p : Nat × V1) (q : Nat × Value) => p.1 = q.1 ∧ All2 R' p.2.cells q.2.cells.toList) ps qs →
    ∃ vs' : Array Value, Instr.fill place vs qs = some vs' ∧ All2 R' cs' vs'.toList ∧ vs'.size = vs.size
  | [], [], cs, cs', vs, he, ha, _ => by
    simp only [fillCells, Option.some.injEq] at he
    subst he
    exact ⟨vs, rfl, ha, rfl⟩
  | (i, x) :: ps, (j, v) :: qs, cs, cs', vs, he, ha, hp => by
    obtain ⟨⟨hij, hc⟩, hp⟩ := hp
    simp only at hij
    subst hij
    simp only [fillCells] at he
    split at he
    · cases he
    · rename_i off size hpl
      obtain ⟨⟨h1, h2⟩, he⟩ := if_some he
      have hl := ha.length
      have hlc := hc.length
      have hsz : v.cells.size = size := by simp at hlc; omega
      have hle : off + v.cells.size ≤ vs.size := by simp at hl; omega
      have hset : (v.cells.zipIdx.foldl (fun (cs : Array Value) (p : Value × Nat) => cs.setIfInBounds (off + p.2) p.1) vs).toList = vs.toList.take off ++ v.cells.toList ++ vs.toList.drop (off + size) := by
        rw [← Array.foldl_toList, Array.toList_zipIdx]
        have := set_run v.cells.toList 0 off vs (by simpa using hle)
        simpa [hsz] using this
      have ha' : All2 R' (cs.take off ++ x.cells ++ cs.drop (off + size)) (v.cells.zipIdx.foldl (fun (cs : Array Value) (p : Value × Nat) => cs.setIfInBounds (off + p.2) p.1) vs).toList := by
        rw [hset]
        exact ((ha.take off).append hc).append (ha.drop (off + size))
      obtain ⟨vs', h3, h4, h5⟩ := fill_sound he ha' hp
      refine ⟨vs', ?_, h4, ?_⟩
      · simp only [Instr.fill, hpl]
        rw [if_neg (by simp; omega)]
        exact h3
      · rw [h5, ← Array.length_toList, hset]
        simp
        omega
  | [], _ :: _, _, _, _, _, _, hp => hp.elim
  | _ :: _, [], _, _, _, _, _, hp => hp.elim

theorem plain_rep {c : Cell} {v : Value} (hp : c.plain = some v) : RepC C γ h w c v := by
  unfold Cell.plain at hp
  split at hp <;> first | (cases hp; done) | (simp only [Option.some.injEq] at hp; subst hp; first | rfl | exact ⟨rfl, rfl⟩)

theorem zero_run {t : TypeId} {i : TI} (hi : TIok P t i) : ∃ z, (∀ w', (zeroValue t).run P w' = .ok z w') ∧ z.cells.size = i.size ∧ All2 (RepC C γ h w) i.zero z.cells.toList := by
  obtain ⟨inf, h1, h2, h3, z, h4, h5, h6⟩ := hi.info
  exact ⟨z, fun w' => by simp [zeroValue, typeInfo, h1, h4], h5, h6.mono fun _ _ hp => plain_rep hp⟩

theorem mapM_places : ∀ (l : List Field) (m : List (Nat × Nat × Bool)), All2 (fun (f : Nat × Nat × Bool) (fd : Field) => fd.offset = f.1 ∧ 0 < f.2.1 ∧ (∃ inf, P.info? fd.type = some inf ∧ inf.size = f.2.1) ∧
    ∃ d, P.underlying fd.type = some d ∧ isAggD d = f.2.2) m l → ∀ w', (l.mapM (fun (f : Field) => do pure (f.offset, ← Go.sizeOf f.type) : Field → Sem (Nat × Nat))).run P w' = .ok (m.map fun f => (f.1, f.2.1)) w'
  | [], [], _, w' => by simp
  | f :: l, x :: m, ⟨⟨h1, h2, ⟨inf, h3, h4⟩, _⟩, hr⟩, w' => by
    have ih := mapM_places l m hr w'
    have hs : (Go.sizeOf f.type).run P w' = .ok x.2.1 w' := by simp [Go.sizeOf, typeInfo, h3, h4]
    simp only [List.mapM_cons, Sem.run_bind, hs, Result.andThen_ok, Sem.run_pure, ih, h1, List.map_cons]
  | [], _ :: _, hh, _ => hh.elim
  | _ :: _, [], hh, _ => hh.elim

theorem partsOf_sound {st : St} {a : Act} (R' : Rel C γ w st a.tmps) : ∀ {l : List (Nat × Operand)} {ps : List (Nat × V1)}, partsOf st l = some ps →
    All2 (fun (p : Nat × V1) (q : Nat × Value) => p.1 = q.1 ∧ All2 (RepC C γ st.h w) p.2.cells q.2.cells.toList) ps (l.map fun (p : Nat × Operand) => (p.1, a.eval p.2))
  | [], ps, he => by simp only [partsOf, Option.some.injEq] at he; subst he; trivial
  | (i, x) :: l, ps, he => by
    simp only [partsOf] at he
    split at he
    · rename_i v hv
      split at he
      · rename_i l' hl
        simp only [Option.some.injEq] at he
        subst he
        have := R'.opd hv
        exact ⟨⟨rfl, this.1.cells⟩, partsOf_sound R' hl⟩
      · cases he
    · cases he

theorem build_sound {st : St} {a : Act} (R' : Rel C γ w st a.tmps) {t : TypeId} {i : TI} (hi : TIok P t i) (hne : i.fields ≠ []) {parts : Array (Nat × Operand)} {ps : List (Nat × V1)} (hp : partsOf st parts.toList = some ps) {cs : List Cell}
    (hf : fillCells (fun j => i.fields[j]?.map fun f => (f.1, f.2.1)) i.zero ps = some cs) : Fixed P (Instr.build t (parts.map fun (p : Nat × Operand) => (p.1, a.eval p.2))) C γ st.h w (.agg cs) := by
  obtain ⟨z, hz, hzs, hza⟩ := zero_run (C := C) (γ := γ) (h := st.h) (w := w) hi
  rcases hi.fields with h0 | ⟨fs, h1, h2⟩
  · exact absurd h0 hne
  · obtain ⟨vs', h3, h4, h5⟩ := fill_sound hf hza (partsOf_sound R' hp)
    refine ⟨.agg vs', ⟨vs'.toList, by simp, h4⟩, fun w' => ?_⟩
    have hm := mapM_places fs.toList i.fields h2 w'
    have hpl : (fs.mapM (fun (f : Field) => do pure (f.offset, ← Go.sizeOf f.type) : Field → Sem (Nat × Nat))).run P w' = .ok (i.fields.map fun (f : Nat × Nat × Bool) => (f.1, f.2.1)).toArray w' := by
      rw [Array.mapM_eq_mapM_toList, Sem.run_map, hm]
      rfl
    have h3' : Instr.fill (fun j => (i.fields.map fun (f : Nat × Nat × Bool) => (f.1, f.2.1)).toArray[j]?) z.cells (parts.map fun (p : Nat × Operand) => (p.1, a.eval p.2)).toList = some vs' := by
      rw [Array.toList_map]
      have : (fun (j : Nat) => (i.fields.map fun (f : Nat × Nat × Bool) => (f.1, f.2.1)).toArray[j]?) = (fun (j : Nat) => i.fields[j]?.map fun (f : Nat × Nat × Bool) => (f.1, f.2.1)) := by funext j; simp
      rw [this]; exact h3
    simp only [Instr.build, Sem.run_bind, hz, Result.andThen_ok, run_underlying h1, hpl, h3', Sem.run_pure]

theorem buildA_sound {st : St} {a : Act} (R' : Rel C γ w st a.tmps) {t : TypeId} {i : TI} (hi : TIok P t i) {n : Nat} (har : i.arr = some n) {parts : Array (Nat × Operand)} {ps : List (Nat × V1)} (hp : partsOf st parts.toList = some ps) {cs : List Cell}
    (hf : fillCells (fun j => some (j, 1)) i.zero ps = some cs) : Fixed P (Instr.build t (parts.map fun (p : Nat × Operand) => (p.1, a.eval p.2))) C γ st.h w (.agg cs) := by
  obtain ⟨z, hz, hzs, hza⟩ := zero_run (C := C) (γ := γ) (h := st.h) (w := w) hi
  obtain ⟨e, hu, hsz, _⟩ := hi.arr n har
  obtain ⟨vs', h3, h4, h5⟩ := fill_sound hf hza (partsOf_sound R' hp)
  refine ⟨.agg vs', ⟨vs'.toList, by simp, h4⟩, fun w' => ?_⟩
  have h3' : Instr.fill (fun j => some (j * 1, 1)) z.cells (parts.map fun (p : Nat × Operand) => (p.1, a.eval p.2)).toList = some vs' := by
    rw [Array.toList_map]
    have : (fun (j : Nat) => some (j * 1, 1)) = fun (j : Nat) => some (j, 1) := by funext j; simp
    rw [this]; exact h3
  simp only [Instr.build, Sem.run_bind, hz, Result.andThen_ok, run_underlying hu, hsz, h3', Sem.run_pure]

theorem nonNil_run {h : Heap} {v : V} (hn : nonNil h v = true) {u : Value} (hv : RepV C γ h w v u) (hI : Inv C γ h w) : (∃ q, u = .pointer (some q)) ∨ ∃ f c, u = .func (.func f) #[] c := by
  unfold nonNil at hn
  split at hn
  · rename_i k kv off
    split at hn
    · rename_i l hat
      obtain ⟨e, hk, hve, hbox⟩ := at_some hat
      have hv : RepC C γ h w (.ptr k kv off) u := hv
      obtain ⟨g, c, _, rfl⟩ := hv.2.get hk hve l hbox
      exact .inl ⟨_, rfl⟩
    · cases hn
  · rename_i k kv i off
    have hv : RepC C γ h w (.elt k kv i off) u := hv
    cases hr : rowLen h k kv with
    | none => rw [hr] at hn; cases hn
    | some x =>
      obtain ⟨t', n⟩ := x
      obtain ⟨en, hk, hve, hlen, hts⟩ := rowLen_some hr
      obtain ⟨_, g, c, _, rfl⟩ := hv.2.get hk hve n hlen
      exact .inl ⟨_, rfl⟩
  · rename_i d t' xs i off
    have hv : RepC C γ h w (.slp d t' xs i off) u := hv
    obtain ⟨g, p, x, ds, rfl, _⟩ := hv.2.get hn
    exact .inl ⟨_, rfl⟩
  · rename_i f cs
    obtain ⟨vs, rfl, _⟩ := hv
    exact .inr ⟨_, _, rfl⟩
  · cases hn

theorem optOpd_sound {st : St} {a : Act} (R' : Rel C γ w st a.tmps) {x : Option Operand} {v : Option V1} (he : optOpd st x = some v) : OptRep C γ st.h w v (x.map a.eval) := by
  cases x with
  | none => simp only [optOpd, Option.some.injEq] at he; subst he; trivial
  | some x =>
    simp only [optOpd] at he
    split at he
    · rename_i v' hv
      simp only [Option.some.injEq] at he
      subst he
      exact (R'.opd hv).1
    · cases he

theorem opds_sound {st : St} {a : Act} (R' : Rel C γ w st a.tmps) : ∀ {l : List Operand} {vs : List V1}, opds st l = some vs → All2 (fun x v => RepV1 C γ st.h w x v ∧ x ≠ .c .dead) vs (l.map a.eval)
  | [], vs, he => by simp only [opds, Option.some.injEq] at he; subst he; trivial
  | x :: l, vs, he => by
    simp only [opds] at he
    split at he
    · rename_i v hv
      split at he
      · rename_i l' hl
        simp only [Option.some.injEq] at he
        subst he
        exact ⟨R'.opd hv, opds_sound R' hl⟩
      · cases he
    · cases he

theorem foldMin_sound {k : IntKind} : ∀ {vs : List V1} {l : List Value} {acc n : Int}, foldInt mn k acc vs = some n → All2 (fun x v => RepV1 C γ h w x v ∧ x ≠ .c .dead) vs l → ∀ w', (l.foldlM Builtin.min2 (.int k acc)).run P w' = .ok (.int k n) w'
  | [], [], acc, n, he, _, w' => by simp only [foldInt, Option.some.injEq] at he; subst he; rfl
  | .c (.int k' m) :: vs, v :: l, acc, n, he, ⟨⟨hv, _⟩, ha⟩, w' => by
    simp only [foldInt] at he
    obtain ⟨hk, he2⟩ := if_some he
    subst hk
    rw [show v = _ from hv]
    simp only [List.foldlM_cons, Sem.run_bind, Builtin.min2, Sem.run_pure, Result.andThen_ok]
    exact foldMin_sound he2 ha w'

theorem foldMax_sound {k : IntKind} : ∀ {vs : List V1} {l : List Value} {acc n : Int}, foldInt mx k acc vs = some n → All2 (fun x v => RepV1 C γ h w x v ∧ x ≠ .c .dead) vs l → ∀ w', (l.foldlM Builtin.max2 (.int k acc)).run P w' = .ok (.int k n) w'
  | [], [], acc, n, he, _, w' => by simp only [foldInt, Option.some.injEq] at he; subst he; rfl
  | .c (.int k' m) :: vs, v :: l, acc, n, he, ⟨⟨hv, _⟩, ha⟩, w' => by
    simp only [foldInt] at he
    obtain ⟨hk, he2⟩ := if_some he
    subst hk
    rw [show v = _ from hv]
    simp only [List.foldlM_cons, Sem.run_bind, Builtin.max2, Sem.run_pure, Result.andThen_ok]
    exact foldMax_sound he2 ha w'

theorem capCells_sound : ∀ {vs : List V1} {cs : List Cell} {us : List Value}, capCells vs = some cs → All2 (fun x v => RepV1 C γ h w x v ∧ x ≠ .c .dead) vs us → All2 (RepC C γ h w) cs us
  | [], cs, [], he, _ => by
    simp only [capCells, Option.some.injEq] at he
    subst he; trivial
  | .c x :: vs, cs, u :: us, he, ha => by
    simp only [capCells] at he
    split at he
    · rename_i l hl
      simp only [Option.some.injEq] at he
      subst he
      exact ⟨ha.1.1, capCells_sound hl ha.2⟩
    · cases he
  | .agg _ :: _, _, _, he, _ => by cases he
  | [], _, _ :: _, _, ha => ha.elim
  | .c _ :: _, _, [], _, ha => ha.elim

theorem opdV_sound {st : St} {a : Act} (R' : Rel C γ w st a.tmps) {x : Operand} {v : V} (hv : opdV st x = some v) : RepV C γ st.h w v (a.eval x) := by
  cases x with
  | tmp t =>
    simp only [opdV] at hv
    split at hv
    · rename_i vs hs
      simp only [Option.some.injEq] at hv
      subst hv
      exact R'.slot t _ hs
    · rename_i f cs hs
      simp only [Option.some.injEq] at hv
      subst hv
      exact R'.slot t _ hs
    · cases hv
    · rename_i y _ hs
      simp only [Option.some.injEq] at hv
      subst hv
      exact R'.slot t _ hs
    · cases hv
  | const c =>
    simp only [opdV] at hv
    split at hv
    · rename_i y hy
      simp only [Option.some.injEq] at hv
      subst hv
      exact (R'.opd hy).1
    · cases hv
  | func f =>
    simp only [opdV] at hv
    split at hv
    · rename_i y hy
      simp only [Option.some.injEq] at hv
      subst hv
      exact (R'.opd hy).1
    · cases hv
  | global g =>
    simp only [opdV] at hv
    split at hv
    · rename_i y hy
      simp only [Option.some.injEq] at hv
      subst hv
      exact (R'.opd hy).1
    · cases hv

theorem mkI_slot {st : St} {a : Act} (R' : Rel C γ w st a.tmps) {x : Operand} {v : V} (hv : (match x with | .tmp s => st.s[s]? | x => (opd st x).map .v) = some v) : RepV C γ st.h w v (a.eval x) := by
  cases x with
  | tmp t => exact R'.slot t _ hv
  | const c =>
    simp only [Option.map_eq_some_iff] at hv
    obtain ⟨y, hy, rfl⟩ := hv
    exact (R'.opd hy).1
  | func f =>
    simp only [Option.map_eq_some_iff] at hv
    obtain ⟨y, hy, rfl⟩ := hv
    exact (R'.opd hy).1
  | global g =>
    simp only [Option.map_eq_some_iff] at hv
    obtain ⟨y, hy, rfl⟩ := hv
    exact (R'.opd hy).1

theorem mkI_run {t : TypeId} {i : TI} (hi : TIok P t i) (h : i.iface = false) (v : Value) (w' : World) : (Instr.makeInterface t v).run P w' = .ok (.iface t v) w' := by
  obtain ⟨d, hd, _⟩ := hi.desc
  have hn := hi.notIface h
  simp only [Instr.makeInterface, Sem.run_bind, run_underlying hd, Result.andThen_ok]
  cases d <;> first | rfl | exact absurd hd (hn _)

theorem vop_sound {te : TypeId → Option TI} (hte : ∀ t i, te t = some i → TIok P t i) {st : St} {a : Act} (R' : Rel C γ w st a.tmps) {o : Oper} {K : V → Option R} (he : vop te st o.op K = some r) :
    ∃ y val, K y = some r ∧ RepV C γ st.h w y val ∧ ∀ w', Ext w w' → (execOp a.eval o).run P w' = .ok (.value val) w' := by
  have fin : ∀ {s : Sem Value}, (∃ y, one K y = some r ∧ FixedE P s C γ st.h w y) → execOp a.eval o = (do pure (.value (← s))) → ∃ y val, K y = some r ∧ RepV C γ st.h w y val ∧ ∀ w', Ext w w' → (execOp a.eval o).run P w' = .ok (.value val) w' := by
    rintro s ⟨y, hk, val, hr, hrun⟩ hs
    exact ⟨.v y, val, hk, hr, fun w' hw => by rw [hs, Sem.run_bind, hrun w' hw, Result.andThen_ok, Sem.run_pure]⟩
  have finF : ∀ {s : Sem Value}, (∃ y, one K y = some r ∧ Fixed P s C γ st.h w y) → execOp a.eval o = (do pure (.value (← s))) → ∃ y val, K y = some r ∧ RepV C γ st.h w y val ∧ ∀ w', Ext w w' → (execOp a.eval o).run P w' = .ok (.value val) w' := by
    rintro s ⟨y, hk, hf⟩ hs
    exact fin ⟨y, hk, hf.ext⟩ hs
  unfold vop at he
  split at he
  · rename_i x ho
    obtain ⟨v, hv, he⟩ := orNone_some he
    exact ⟨v, _, he, opdV_sound R' hv, fun w' _ => by simp [execOp, ho]⟩
  · rename_i x ho
    obtain ⟨v, hv, he⟩ := orNone_some he
    exact ⟨v, _, he, opdV_sound R' hv, fun w' _ => by simp [execOp, ho]⟩
  · rename_i c x y ho
    split at he
    · rename_i b hb
      have hbv : a.eval c = .bool b := (R'.opd hb).1
      split at he
      · rename_i ht
        subst ht
        obtain ⟨v, hv, he⟩ := orNone_some he
        exact ⟨.v v, _, he, (R'.opd hv).1, fun w' _ => by simp [execOp, ho, hbv, asBool]⟩
      · rename_i ht
        have ht : b = false := by simpa using ht
        subst ht
        obtain ⟨v, hv, he⟩ := orNone_some he
        exact ⟨.v v, _, he, (R'.opd hv).1, fun w' _ => by simp [execOp, ho, hbv, asBool]⟩
    · cases he
  · rename_i t parts ho
    split at he
    · rename_i ti ps hti hps
      split at he
      · rename_i n har
        obtain ⟨cs, hf, he⟩ := orNone_some he
        exact finF ⟨_, he, buildA_sound R' (hte _ _ hti) har hps hf⟩ (by simp [execOp, ho])
      split at he
      · cases he
      · rename_i hne
        obtain ⟨cs, hf, he⟩ := orNone_some he
        exact finF ⟨_, he, build_sound R' (hte _ _ hti) (by simpa using hne) hps hf⟩ (by simp [execOp, ho])
    · cases he
  · rename_i t x ho
    obtain ⟨v, hv, he⟩ := orNone_some he
    exact fin (loadK_sound hte R'.inv he (R'.opd hv).1) (by simp [execOp, ho])
  · rename_i t x f ho
    have fg : ∀ {fd : Nat × Nat × Bool}, (te t).bind (·.fields[f]?) = some fd → ∃ i, TIok P t i ∧ i.fields[f]? = some fd := by
      intro fd hh
      cases ht : te t with
      | none => rw [ht] at hh; simp at hh
      | some i => rw [ht] at hh; exact ⟨i, hte _ _ ht, hh⟩
    split at he
    · rename_i k kv off fd hx hfd
      split at he
      · rename_i l hat
        obtain ⟨i, hi, hfd⟩ := fg hfd
        obtain ⟨e, hk, hve, hbox⟩ := at_some hat
        obtain ⟨g, c, h2, h3⟩ := (R'.opd hx).1.2.get hk hve l hbox
        refine finF (s := Instr.fieldAt t (a.eval x) f) ⟨_, he, .pointer (some ⟨g, off + fd.1, none⟩), ⟨rfl, now_self hk hve fun l' hl' => ⟨g, c, h2, rfl⟩⟩, fun w' => ?_⟩ (by simp [execOp, ho])
        rw [h3]; exact fieldAt_run hi hfd g off w'
      · cases he
    · rename_i k kv i' off fd hx hfd
      split at he
      · rename_i x' hrl
        obtain ⟨t', n⟩ := x'
        obtain ⟨i, hi, hfd⟩ := fg hfd
        obtain ⟨en, hk, hve, hlen, hts⟩ := rowLen_some hrl
        obtain ⟨h2, g, c, h3, h4⟩ := (R'.opd hx).1.2.get hk hve n hlen
        refine finF (s := Instr.fieldAt t (a.eval x) f) ⟨_, he, .pointer (some ⟨g, i' * en.box.tsize + (off + fd.1), none⟩), ⟨rfl, now_self hk hve fun n' hn' => ?_⟩, fun w' => ?_⟩ (by simp [execOp, ho])
        · rw [hlen] at hn'
          simp only [Option.some.injEq] at hn'
          subst hn'
          exact ⟨h2, g, c, h3, rfl⟩
        · rw [h4, ← Nat.add_assoc]; exact fieldAt_run hi hfd g _ w'
      · cases he
    · rename_i d t' xs i' off fd hx hfd
      obtain ⟨hd, he⟩ := if_some he
      obtain ⟨i, hi, hfd⟩ := fg hfd
      obtain ⟨g, p, x', ds, h1, h2⟩ := (R'.opd hx).1.2.get hd
      refine finF (s := Instr.fieldAt t (a.eval x) f) ⟨_, he, .pointer (some ⟨g, p + (off + fd.1), none⟩), ⟨rfl, DepNow.mk hd ⟨g, p, x', ds, rfl, h2⟩⟩, fun w' => ?_⟩ (by simp [execOp, ho])
      rw [h1, ← Nat.add_assoc]; exact fieldAt_run hi hfd g _ w'
    · cases he
  · rename_i t x f ho
    split at he
    · rename_i cs fd hx hfd
      obtain ⟨hle, he⟩ := if_some he
      obtain ⟨y, hm, he⟩ := orNone_some he
      cases ht : te t with
      | none => rw [ht] at hfd; simp at hfd
      | some i =>
        rw [ht] at hfd
        exact finF ⟨y, he, field_run (hte _ _ ht) hfd (R'.opd hx).1 hle hm⟩ (by simp [execOp, ho])
    · cases he
  · rename_i t x i ho
    obtain ⟨v, hv, he⟩ := orNone_some he
    obtain ⟨vi, hvi, he⟩ := orNone_some he
    exact finF (indexAddrK_sound hte he (R'.opd hv).1 (R'.opd hvi).1) (by simp [execOp, ho])
  · rename_i t x i ho
    obtain ⟨v, hv, he⟩ := orNone_some he
    obtain ⟨vi, hvi, he⟩ := orNone_some he
    exact finF (indexK_sound hte he (R'.opd hv).1 (R'.opd hvi).1) (by simp [execOp, ho])
  · rename_i t x lo hi mx ho
    obtain ⟨v, hv, he⟩ := orNone_some he
    obtain ⟨vl, hvl, he⟩ := orNone_some he
    obtain ⟨vh, hvh, he⟩ := orNone_some he
    obtain ⟨vm, hvm, he⟩ := orNone_some he
    exact finF (sliceK_sound hte R'.inv he (R'.opd hv).1 (optOpd_sound R' hvl) (optOpd_sound R' hvh) (optOpd_sound R' hvm)) (by simp [execOp, ho])
  · rename_i op t x y yt ho
    obtain ⟨v, hv, he⟩ := orNone_some he
    obtain ⟨v', hv', he⟩ := orNone_some he
    exact finF (binK_sound (x := x) (y := y) hte he (R'.opd hv).1 (R'.opd hv').1) (by simp [execOp, ho])
  · rename_i op t x ho
    obtain ⟨v, hv, he⟩ := orNone_some he
    exact finF (unK_sound he (R'.opd hv).1) (by simp [execOp, ho])
  · rename_i src dst x ho
    split at he
    · rename_i k n ti hx hti
      split at he
      · rename_i k' hk
        have hi := hte _ _ hti
        have hv : a.eval x = .int k n := (R'.opd hx).1
        split at he
        · rename_i hs
          obtain ⟨d, hd, hs⟩ : ∃ d, P.underlying src = some d ∧ True := by
            cases hts : te src with
            | none => rw [hts] at hs; simp at hs
            | some i => obtain ⟨d, h1, _⟩ := (hte _ _ hts).desc; exact ⟨d, h1, trivial⟩
          refine finF (s := convert src dst (a.eval x)) ⟨_, he, .int k' (k'.wrap n), rfl, fun w' => ?_⟩ (by simp [execOp, ho])
          rw [hv]
          simp only [convert, Sem.run_bind, run_underlying hd, run_underlying (hi.int _ hk), Result.andThen_ok, Conv.intToInt, Sem.run_pure]
        · cases he
      · cases he
    · cases he
  · rename_i t x ho
    split at he
    · rename_i ti hti
      split at he
      · cases he
      · rename_i hni
        have hni' : ti.iface = false := by simpa using hni
        have hx : execOp a.eval o = (do pure (.value (← Instr.makeInterface t (a.eval x)))) := by simp [execOp, ho]
        have fi : ∀ {y : V1}, K (.v y) = some r → RepV1 C γ st.h w y (.iface t (a.eval x)) → ∃ y val, K y = some r ∧ RepV C γ st.h w y val ∧ ∀ w', Ext w w' → (execOp a.eval o).run P w' = .ok (.value val) w' := fun {y} hk hr =>
          ⟨.v y, _, hk, hr, fun w' _ => by rw [hx, Sem.run_bind, mkI_run (hte _ _ hti) hni', Result.andThen_ok, Sem.run_pure]⟩
        split at he
        · rename_i k n hs
          exact fi he (show _ = _ by rw [show a.eval x = .int k n from mkI_slot R' hs])
        · exact fi he ⟨rfl, fun h => (by cases h), fun _ => ⟨_, _, rfl⟩⟩
        · cases he
    · cases he
  · rename_i f first captured ho
    obtain ⟨hf, he1⟩ := if_some he
    obtain ⟨vs, hvs, he2⟩ := orNone_some he1
    obtain ⟨cs, hcs, he3⟩ := orNone_some he2
    have hf' : first = #[] := by simpa using hf
    subst hf'
    refine ⟨.clo f cs, .func (.func f) #[] (captured.map a.eval), he3, ⟨captured.toList.map a.eval, by rw [← Array.toList_map], capCells_sound hcs (opds_sound R' hvs)⟩, fun w' _ => by simp [execOp, ho, Instr.makeFunc]⟩
  · rename_i x ho
    obtain ⟨v, hv, he⟩ := orNone_some he
    obtain ⟨hn, he⟩ := if_some he
    have hr := opdV_sound R' hv
    refine ⟨v, a.eval x, he, hr, fun w' _ => ?_⟩
    rcases nonNil_run hn hr R'.inv with ⟨q, hq⟩ | ⟨f, c, hq⟩
    · simp [execOp, ho, hq]
    · simp [execOp, ho, hq]
  · rename_i x i ho
    split at he
    · rename_i t
      split at he
      · rename_i vs hvs
        obtain ⟨v, hv, he⟩ := orNone_some he
        obtain ⟨us, hu, ha⟩ := R'.slot t _ hvs
        obtain ⟨u, hui, hr⟩ := ha.get hv
        refine finF (s := Instr.extract (a.eval (.tmp t)) i) ⟨v, he, u, hr, fun w' => ?_⟩ (by simp [execOp, ho])
        show (Instr.extract (a.tmps.getD t undef) i).run P w' = _
        rw [hu]
        simp [Instr.extract, hui]
      · cases he
    · cases he
  · rename_i args argTypes ho
    split at he
    · rename_i x t hx ht
      obtain ⟨v, hv, he⟩ := orNone_some he
      obtain ⟨n, he, hrun⟩ := lenK_sound (P := P) (ty := o.type) hte he (R'.opd hv).1
      have e1 : args = #[x] := Array.ext' hx
      have e2 : argTypes = #[t] := Array.ext' ht
      exact finF (s := Builtin.len_ argTypes o.type (args.map a.eval)) ⟨_, he, _, rfl, fun w' => by rw [e1, e2]; simpa using hrun w'⟩ (by simp [execOp, ho, resolve, invoke, builtin])
    · cases he
  · rename_i args argTypes ho
    split at he
    · rename_i k n vs hvs
      obtain ⟨m, hm, he⟩ := orNone_some he
      have ha := opds_sound R' hvs
      rw [← Array.toList_map] at ha
      cases hl : (args.map a.eval).toList with
      | nil => rw [hl] at ha; exact ha.elim
      | cons v l =>
        rw [hl] at ha
        refine finF (s := Builtin.min_ argTypes o.type (args.map a.eval)) ⟨_, he, _, rfl, fun w' => ?_⟩ (by simp [execOp, ho, resolve, invoke, builtin])
        have hv : v = .int k n := ha.1.1
        simp only [Builtin.min_, hl, hv]
        exact foldMin_sound hm ha.2 w'
    · cases he
  · rename_i args argTypes ho
    split at he
    · rename_i k n vs hvs
      obtain ⟨m, hm, he⟩ := orNone_some he
      have ha := opds_sound R' hvs
      rw [← Array.toList_map] at ha
      cases hl : (args.map a.eval).toList with
      | nil => rw [hl] at ha; exact ha.elim
      | cons v l =>
        rw [hl] at ha
        refine finF (s := Builtin.max_ argTypes o.type (args.map a.eval)) ⟨_, he, _, rfl, fun w' => ?_⟩ (by simp [execOp, ho, resolve, invoke, builtin])
        have hv : v = .int k n := ha.1.1
        simp only [Builtin.max_, hl, hv]
        exact foldMax_sound hm ha.2 w'
    · cases he
  · cases he

end
end Rv
