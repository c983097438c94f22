/- Rows made, stores, appends. -/
import Derived.Test.YtlbfhddhojejfaaDoorRvG
import Derived.Laws.CopyRow
import Derived.Laws.AppendOwn
set_option linter.all false
namespace Rv
open Go

section
variable {P : Program} {C : Ctx} {γ : Gam} {h : Heap} {w : World} {R : Type} {r : R}

theorem RowR.mono {w w' : World} {ok ok' : Nat → Prop} {t : Ty} {xs : List t.D} {cur : List Value} (hr : RowR w ok t xs cur) (hs : w.heap.size ≤ w'.heap.size) (hb : ∀ g, ok g → g < w.heap.size → w'.heap[g]? = w.heap[g]? ∧ ok' g) : RowR w' ok' t xs cur :=
  fun i x hx => (hr i x hx).mono hs hb

/-- A new row. -/
theorem row_ok {st : St} {a : Act} (R' : Rel C γ w st a.tmps) {o : Oper} {e : TypeId} {t : Ty} {xs : List t.D} {cur : Array Value} {c : Nat} {rd : List Nat} (hr : RowR w (okb C γ st.h none) t xs cur.toList) (hc : xs.length ≤ c) (hcm : c ≤ maxLen) (hcs : cur.size = c * t.size) (hsz : 0 < t.size)
    (hrun : (execOp a.eval o).run P w = .ok (.value (.slice (some ⟨w.heap.size, 0, none⟩) xs.length c)) (w.alloc (.cells cur e))) :
    OpOk P C w st a o ⟨.v (.c (.own (dk o.dst) (st.h.next (dk o.dst)))), rd, [(dk o.dst, ⟨st.h.next (dk o.dst), 0, .row e t xs⟩)]⟩ := by
  intro next Q hn
  have hE := ext_alloc w (.cells cur e)
  have hv : ∀ g c', some (w.heap.size, c) = some (g, c') → w.heap.size ≤ g := fun g c' e => by have := some_pair e; omega
  have T' := trans_fresh R'.inv hE (dk o.dst) (.row e t xs) (some (w.heap.size, c)) hv
  refine wp_value hrun (hn (setG γ (dk o.dst) (some (w.heap.size, c))) _ _ (R'.app T' (R'.inv.fresh hE (step_alloc w _) (dk o.dst) (.row e t xs) (some (w.heap.size, c)) hv ?_) ?_))
  · exact .inr ⟨w.heap.size, c, cur, setG_same _ _ _, heap_alloc_new w _, hc, hcm, hcs, hsz, hr.mono T'.sz fun g ho hg => T'.okb (d := none) trivial ho hg⟩
  · refine ⟨rfl, now_self (set_same _ _ _) rfl fun n hn' => ?_⟩
    simp only [Box.len, Option.some.injEq] at hn'
    rw [setG_same, ← hn']
    rfl

theorem zeros_row {ok : Nat → Prop} {t : Ty} {z : t.D} {cs : Array Value} (hd : Rd w ok t z cs.toList) (n : Nat) (hsz : 0 < t.size) : RowR w ok t (List.replicate n z) ((Array.range (n * t.size)).map (cs[· % cs.size]!)).toList := by
  intro i x hx
  rw [List.getElem?_replicate] at hx
  split at hx
  · rename_i hi
    simp only [Option.some.injEq] at hx
    subst hx
    have hl := hd.length
    have hl' : cs.size = t.size := by simpa using hl
    have : (((Array.range (n * t.size)).map (cs[· % cs.size]!)).toList.drop (i * t.size)).take t.size = cs.toList := by
      apply List.ext_getElem?
      intro m
      rw [List.getElem?_take]
      split
      · rename_i hm
        have hle : i * t.size + m < n * t.size := by
          calc i * t.size + m < i * t.size + t.size := by omega
            _ = (i + 1) * t.size := by rw [Nat.add_mul, Nat.one_mul]
            _ ≤ n * t.size := Nat.mul_le_mul_right _ hi
        have hmod : (i * t.size + m) % t.size = m := by rw [Nat.add_comm, Nat.mul_comm, Nat.add_mul_mod_self_left, Nat.mod_eq_of_lt hm]
        rw [List.getElem?_drop]
        have hms : m < cs.size := by omega
        simp [hle, hl', hmod, hm]
      · rw [List.getElem?_eq_none (by simp; omega)]
    rw [this]; exact hd
  · cases hx

theorem buildSlice_ok {te : TypeId → Option TI} (hte : ∀ t i, te t = some i → TIok P t i) {st : St} {a : Act} (R' : Rel C γ w st a.tmps) {o : Oper} {sT e : TypeId} {n : Nat} {parts : Array (Nat × Operand)} (ho : o.op = .buildSlice sT n parts)
    (hs : (te sT).bind (·.elem) = some e) {ti : TI} (hti : te e = some ti) {ps : List (Nat × V1)} (hp : partsOf st parts.toList = some ps) {t : Ty} (ht : ti.ty = some t) {z : t.D} (hz : t.ofCells ti.zero = some z) (hn : n * ti.size ≤ 16777216 ∧ 0 < ti.size)
    {xs : List t.D} (hx : rowFill t (List.replicate n z) ps = some xs) {rd : List Nat} :
    OpOk P C w st a o ⟨.v (.c (.own (dk o.dst) (st.h.next (dk o.dst)))), rd, [(dk o.dst, ⟨st.h.next (dk o.dst), 0, .row e t xs⟩)]⟩ := by
  have hi := hte _ _ hti
  have hsl : P.underlying sT = some (.slice e) := by
    cases h0 : te sT with
    | none => rw [h0] at hs; simp at hs
    | some i0 => rw [h0] at hs; exact (hte _ _ h0).elem e hs
  obtain ⟨zv, hzr, hzs, hza⟩ := zero_run (C := C) (γ := γ) (h := st.h) (w := w) hi
  have hts := (hi.ty t ht).1
  have hsz : 0 < t.size := by omega
  have hzd := Rd.ofCells hz hza
  have hzero := zeros_row hzd n hsz
  obtain ⟨vs', h3, h4, h5, h6⟩ := rowFill_sound (C := C) (γ := γ) (h := st.h) (w := w) (fun h1 h2 => Rd.ofCells h1 h2) hx hzero (by simp) (partsOf_sound R' hp)
  have hlen : xs.length = n := by rw [h6]; simp
  have hnl : n ≤ 16777216 := Nat.le_trans (Nat.le_mul_of_pos_right n hn.2) hn.1
  refine row_ok R' h4 (Nat.le_of_eq hlen) (by simp only [maxLen]; omega) (by rw [h5]; simp) hsz ?_
  have hno : ¬ n * ti.size > 2 ^ 24 := by omega
  rw [← Array.toList_map, hts] at h3
  have hr0 : Array.range 0 = #[] := rfl
  have hbs : (Instr.buildSlice sT n (parts.map fun (p : Nat × Operand) => (p.1, a.eval p.2))).run P w = .ok (.slice (some ⟨w.heap.size, 0, none⟩) n n) (w.alloc (.cells vs' e)) := by
    by_cases h0 : n * ti.size = 0
    · rw [h0, hr0] at h3
      simp only [List.map_toArray, List.map_nil] at h3
      simp only [Instr.buildSlice, Sem.run_bind, run_underlying hsl, Result.andThen_ok, hi.sizeOf, if_neg hno, h0, if_true, Sem.run_pure, hr0, List.map_toArray, List.map_nil, h3, newRow, run_newObj]
      simp
    · simp only [Instr.buildSlice, Sem.run_bind, run_underlying hsl, Result.andThen_ok, hi.sizeOf, if_neg hno, if_neg h0, hzr, Sem.run_pure, h3, newRow, run_newObj]
      simp
  rw [hlen]
  simp only [execOp, ho, Sem.run_bind, hbs, Result.andThen_ok, Sem.run_pure]

theorem heap_setRow_ne (w : World) (g g' : Nat) (cs : Array Value) (hne : g' ≠ g) : (w.setRow g cs).heap[g']? = w.heap[g']? := setRow_other w g g' cs (fun e => hne (by simpa using e))

theorem step_setRow (w : World) {g : Nat} (cs : Array Value) (ho : C.own g) : Step C w (w.setRow g cs) :=
  ⟨by simp, fun g' _ hno => heap_setRow_ne w g g' cs (fun e => hno (e ▸ ho)), rfl, rfl, rfl⟩

theorem storeVar_run {t : TypeId} {ti : TI} (hi : TIok P t ti) {g off : Nat} {cur : Array Value} {T : TypeId} (hg : w.heap[g]? = some (.cells cur T (0, 0))) {v : Value} (hv : v.cells.size = ti.size) (hle : off + ti.size ≤ cur.size) (h1 : ∀ u ∈ v.cells.toList, u.oneCell' = true) :
    (Instr.storeAt t (.pointer (some ⟨g, off, none⟩)) v).run P w = .ok () (w.setRow g (cur.toList.take off ++ v.cells.toList ++ cur.toList.drop (off + ti.size)).toArray) := by
  have := run_storeCells_at P g off T v.cells.toList 0 cur w hg (by simp; omega) h1
  simp only [Nat.add_zero, Array.length_toList, hv] at this
  simp only [Instr.storeAt, Instr.sureAddr, Sem.run_bind, Sem.run_pure, Result.andThen_ok, storeVar, hi.sizeOf, hv, ne_eq, not_true_eq_false, if_false, this]

theorem cells_all_one {l : List Cell} {vs : List Value} (ha : All2 (RepC C γ h w) l vs) : ∀ u ∈ vs, u.oneCell' = true := by
  induction vs generalizing l with
  | nil => intro u hu; cases hu
  | cons v vs ih =>
    cases l with
    | nil => exact ha.elim
    | cons c l =>
      intro u hu
      rcases List.mem_cons.1 hu with rfl | hu
      · exact RepC.one ha.1
      · exact ih ha.2 u hu

/-- A store into a box. -/
theorem store_at {st : St} {a : Act} (R' : Rel C γ w st a.tmps) {o : Oper} {t : TypeId} {ti : TI} (hi : TIok P t ti) {xo vo : Operand} (ho : o.op = .store t xo vo) (hd : o.dst = none) {v : V1} (hv : opd st vo = some v) {k ver dver off g : Nat} {l : List Cell}
    (hk : st.h k = some ⟨ver, dver, .cells l⟩) (hγ : γ k = some (g, 0)) (hpv : a.eval xo = .pointer (some ⟨g, off, none⟩)) (hle : off + ti.size ≤ l.length) (hsz : v.cells.length = ti.size) {rd : List Nat} :
    OpOk P C w st a o ⟨.tup [], rd, [(k, ⟨ver, dver, .cells (l.take off ++ v.cells ++ l.drop (off + ti.size))⟩)]⟩ := by
  have I := R'.inv
  have hvr := (R'.opd hv).1
  have hvc := hvr.cells
  have hvl := hvc.length
  have hv1 := cells_all_one hvc
  have hb0 := I.box k _ hk
  obtain ⟨g', vs, U, hγ', hb, ha⟩ := hb0
  rw [hγ] at hγ'
  obtain ⟨rfl, _⟩ := some_pair hγ'
  have hlen := ha.length
  intro next Q hn
  have hrun := storeVar_run hi hb (v := a.eval vo) (off := off) (by simp at hvl; omega) (by simp at hlen; omega) hv1
  have hex : (execOp a.eval o).run P w = .ok .skip (w.setRow g (vs.toList.take off ++ (a.eval vo).cells.toList ++ vs.toList.drop (off + ti.size)).toArray) := by
    simp only [execOp, ho, hpv, Sem.run_bind, hrun, Result.andThen_ok, Sem.run_pure]
  have hset : (Heap.set st.h k ⟨ver, dver, .cells (l.take off ++ v.cells ++ l.drop (off + ti.size))⟩) k = some ⟨ver, dver, .cells (l.take off ++ v.cells ++ l.drop (off + ti.size))⟩ := set_same _ _ _
  have hown := I.own k _ g 0 hk trivial hγ
  have T : Trans C γ st.h w C γ (Heap.set st.h k ⟨ver, dver, .cells (l.take off ++ v.cells ++ l.drop (off + ti.size))⟩) (w.setRow g (vs.toList.take off ++ (a.eval vo).cells.toList ++ vs.toList.drop (off + ti.size)).toArray) := by
    refine ⟨by simp, fun k' e hk' => ?_, fun g' hg' hh => ?_, fun k' e' c' g' hk' hl' hγ'' hg' => ?_, fun _ _ h => h, fun _ h => h⟩
    · by_cases e1 : k' = k
      · subst e1
        rw [hk] at hk'
        simp only [Option.some.injEq] at hk'
        subst hk'
        exact ⟨_, hset, .inr ⟨rfl, rfl, rfl⟩⟩
      · exact ⟨e, by rw [set_ne _ _ e1]; exact hk', .inr ⟨rfl, rfl, Alike.refl e⟩⟩
    · refine heap_setRow_ne w g g' _ fun e => ?_
      subst e
      exact (hh k _ 0 hk trivial hγ).1
    · by_cases e1 : k' = k
      · subst e1; exact ⟨k', _, c', hk, trivial, hγ'', .inl rfl⟩
      · rw [set_ne _ _ e1] at hk'
        exact ⟨k', e', c', hk', hl', hγ'', .inl rfl⟩
  refine wp_skip' hex (hn γ _ undef (R'.app T (I.step (step_setRow w _ hown) T (fun k' e hk' => ?_) (fun k1 k2 e1 e2 g1 c1 c2 h1 hl1 h2 hl2 hg1 hg2 => ?_) (fun k' e' g1 c1 h1 hl1 hg1 => ?_)) ⟨[], rfl, trivial⟩))
  · by_cases e1 : k' = k
    · subst e1
      have hk'' := hk'
      simp only [List.foldl_cons, List.foldl_nil] at hk''
      rw [hset] at hk''
      simp only [Option.some.injEq] at hk''
      subst hk''
      refine ⟨g, _, U, hγ, setRow_heap w g vs _ U _ hb, ?_⟩
      have : All2 (RepC C γ st.h w) (l.take off ++ v.cells ++ l.drop (off + ti.size)) (vs.toList.take off ++ (a.eval vo).cells.toList ++ vs.toList.drop (off + ti.size)) := ((ha.take off).append hvc).append (ha.drop _)
      exact this.mono fun _ _ hh => RepC.step T hh
    · simp only [List.foldl_cons, List.foldl_nil] at hk'
      rw [set_ne _ _ e1] at hk'
      refine BoxR.step T (I.box k' e hk') rfl fun hl g' c' hγ'' => heap_setRow_ne w g g' _ fun eg => ?_
      subst eg
      exact e1 (I.inj k' k e _ g' c' 0 hk' hl hk trivial hγ'' hγ)
  · have back : ∀ {kk ee}, (Heap.set st.h k ⟨ver, dver, .cells (l.take off ++ v.cells ++ l.drop (off + ti.size))⟩) kk = some ee → ee.box.live → ∃ ee', st.h kk = some ee' ∧ ee'.box.live := by
      intro kk ee h1 hl
      by_cases e1 : kk = k
      · subst e1; exact ⟨_, hk, trivial⟩
      · rw [set_ne _ _ e1] at h1; exact ⟨ee, h1, hl⟩
    obtain ⟨e1', h1', hl1'⟩ := back h1 hl1
    obtain ⟨e2', h2', hl2'⟩ := back h2 hl2
    exact I.inj k1 k2 e1' e2' g1 c1 c2 h1' hl1' h2' hl2' hg1 hg2
  · by_cases e1 : k' = k
    · subst e1; exact I.own k' _ g1 c1 hk trivial hg1
    · simp only [List.foldl_cons, List.foldl_nil] at h1
      rw [set_ne _ _ e1] at h1
      exact I.own k' e' g1 c1 h1 hl1 hg1

theorem intsOf_eq {k : IntKind} : ∀ {cs : List Cell} {l : List Int}, intsOf k cs = some l → cs = l.map (Cell.int k)
  | [], l, he => by
    simp only [intsOf, Option.some.injEq] at he
    subst he; rfl
  | c :: cs, l, he => by
    cases c with
    | int j n =>
      simp only [intsOf] at he
      obtain ⟨hj, he⟩ := if_some he
      split at he
      · rename_i l' hl
        simp only [Option.some.injEq] at he
        subst he
        rw [List.map_cons, ← intsOf_eq hl, hj]
      · cases he
    | _ => cases he

theorem setAt_eq {k : IntKind} {l : List Cell} {ns : List Int} {base n i : Nat} {x : Int} (hns : intsOf k ((l.drop base).take n) = some ns) (hle : base + n ≤ l.length) (hi : i < n) :
    l.take base ++ setInts k ns n i x ++ l.drop (base + n) = l.take (base + i) ++ [.int k x] ++ l.drop (base + i + 1) := by
  have hc := intsOf_eq hns
  have hl : ns.length = n := by
    have := congrArg List.length hc
    simp at this
    omega
  have hs : setInts k ns n i x = (((l.drop base).take n).set i (.int k x)) := by
    rw [hc]
    unfold setInts
    apply List.ext_getElem
    · simp [hl]
    · intro j h1 h2
      simp only [List.length_map, List.length_range] at h1
      simp only [List.getElem_map, List.getElem_range, List.getElem_set, List.getElem_map]
      by_cases e : i = j
      · subst e
        simp [List.getD, hl, hi]
      · simp [List.getD, e, show j < ns.length by omega, List.getElem?_set, List.getElem_set]
  rw [hs]
  apply List.ext_getElem?
  intro j
  simp only [List.getElem?_append, List.length_append, List.length_take, List.length_set, List.length_drop, List.length_cons, List.length_nil, List.getElem?_take, List.getElem?_drop, List.getElem?_set]
  by_cases h1 : j < base
  · have h2 : j < min base l.length := by omega
    have h3 : j < min (base + i) l.length := by omega
    have h4 : j < min base l.length + min n (l.length - base) := by omega
    have h5 : j < min (base + i) l.length + (0 + 1) := by omega
    simp [h1, h2, h3, h4, h5, show j < base + i by omega]
  · by_cases h6 : j < base + n
    · have e1 : min base l.length = base := by omega
      have e2 : min n (l.length - base) = n := by omega
      have e3 : min (base + i) l.length = base + i := by omega
      simp only [e1, e2, e3, h6, if_true, show ¬ j < base by omega, if_false]
      by_cases e : i = j - base
      · have : j = base + i := by omega
        subst this
        simp [hi, show base + i < base + i + 1 by omega]
      · by_cases h7 : j < base + i
        · simp [e, h7, show j < base + i + 1 by omega, show base + (j - base) = j by omega, show j - base < n by omega]
        · simp [e, h7, show ¬ j < base + i + 1 by omega, show base + (j - base) = j by omega, show j - base < n by omega, show base + i + 1 + (j - (base + i + 1)) = j by omega]
    · have e1 : min base l.length = base := by omega
      have e2 : min n (l.length - base) = n := by omega
      have e3 : min (base + i) l.length = base + i := by omega
      simp only [e1, e2, e3, h6, if_false]
      simp [show ¬ j < base + i + 1 by omega, show base + n + (j - (base + n)) = j by omega, show base + i + 1 + (j - (base + i + 1)) = j by omega]

theorem store_ok {te : TypeId → Option TI} (hte : ∀ t i, te t = some i → TIok P t i) {st : St} {a : Act} (R' : Rel C γ w st a.tmps) {o : Oper} {t : TypeId} {xo vo : Operand} (ho : o.op = .store t xo vo) (hd : o.dst = none) {x v : V1} (hx : opd st xo = some x) (hv : opd st vo = some v) {K : List (Nat × En) → Option R}
    (he : storeK te st t x v K = some r) {rd : List Nat} : ∃ up, K up = some r ∧ OpOk P C w st a o ⟨.tup [], rd, up⟩ := by
  have I := R'.inv
  have hxr := (R'.opd hx).1
  have hvr := (R'.opd hv).1
  have hvc := hvr.cells
  have hvl := hvc.length
  have hv1 := cells_all_one hvc
  unfold storeK at he
  split at he
  · rename_i k kv off ti hti
    have hi := hte _ _ hti
    split at he
    · rename_i ver dver l hk
      obtain ⟨hve, he⟩ := if_some he
      obtain ⟨⟨hle, hsz⟩, he⟩ := if_some he
      obtain ⟨g, c, hγ, hpv⟩ := hxr.2.get hk hve l rfl
      have hb0 := I.box k _ hk
      obtain ⟨g', vs, U, hγ', hb, ha⟩ := hb0
      have hγ0 := hγ
      rw [hγ] at hγ'
      obtain ⟨rfl, rfl⟩ := some_pair hγ'
      exact ⟨_, he, store_at R' hi ho hd hv hk hγ0 hpv hle hsz⟩
    · cases he
  · rename_i k kv base n i ti hti
    have hi := hte _ _ hti
    split at he
    · rename_i ver dver l k0 y hk
      obtain ⟨hve, he⟩ := if_some he
      obtain ⟨⟨hle, hsz⟩, he⟩ := if_some he
      split at he
      · rename_i ns hns
        obtain ⟨hlt, g, c, hγ, hpv⟩ := hxr.2.get hk hve l rfl
        have hb0 := I.box k _ hk
        obtain ⟨g', vs, U, hγ', hb, ha⟩ := hb0
        have hγ0 := hγ
        rw [hγ] at hγ'
        obtain ⟨rfl, rfl⟩ := some_pair hγ'
        have hok := store_at R' hi ho hd hv hk hγ0 hpv (by omega) (by rw [hsz]; rfl) (rd := rd)
        rw [setAt_eq hns hle hlt, ← hsz] at he
        exact ⟨_, he, hok⟩
      · cases he
    · cases he
  · rename_i k kv i off ti hti
    have hi := hte _ _ hti
    split at he
    · rename_i ver dver e t' xs hk
      obtain ⟨hve, he⟩ := if_some he
      obtain ⟨⟨hle, hsz⟩, he⟩ := if_some he
      obtain ⟨y, hy, he⟩ := orNone_some he
      obtain ⟨hlt, g, c, hγ, hpv⟩ := hxr.2.get hk hve xs.length rfl
      have hb0 := I.box k _ hk
      rcases hb0 with ⟨h0, _⟩ | ⟨g', c', cur, hγ', hb, hxc, hcm, hcs, hszt, hr⟩
      · rw [h0] at hγ; cases hγ
      · rw [hγ] at hγ'
        obtain ⟨rfl, rfl⟩ := some_pair hγ'
        simp only [Box.tsize] at hpv
        have hile : i * t'.size + t'.size ≤ cur.size := by
          rw [hcs]
          calc i * t'.size + t'.size = (i + 1) * t'.size := by rw [Nat.add_mul, Nat.one_mul]
            _ ≤ c * t'.size := Nat.mul_le_mul_right _ (by omega)
        have hold := hr i _ (getD_of t'.dflt hlt)
        have holdc := hold.cells (h := st.h)
        have hnew : All2 (RepC C γ st.h w) ((t'.cells none (xs.getD i t'.dflt)).take off ++ v.cells ++ (t'.cells none (xs.getD i t'.dflt)).drop (off + ti.size))
            (((cur.toList.drop (i * t'.size)).take t'.size).take off ++ (a.eval vo).cells.toList ++ ((cur.toList.drop (i * t'.size)).take t'.size).drop (off + ti.size)) := ((holdc.take off).append hvc).append (holdc.drop _)
        have hyd := Rd.ofCells hy hnew
        refine ⟨_, he, fun next Q hn => ?_⟩
        have hrun := storeVar_run hi hb (v := a.eval vo) (off := i * t'.size + off) (by simp at hvl; omega) (by omega) hv1
        have hex : (execOp a.eval o).run P w = .ok .skip (w.setRow g (cur.toList.take (i * t'.size + off) ++ (a.eval vo).cells.toList ++ cur.toList.drop (i * t'.size + off + ti.size)).toArray) := by
          simp only [execOp, ho, hpv, Sem.run_bind, hrun, Result.andThen_ok, Sem.run_pure]
        have hset : (Heap.set st.h k ⟨ver, dver + 1, .row e t' (xs.set i y)⟩) k = some ⟨ver, dver + 1, .row e t' (xs.set i y)⟩ := set_same _ _ _
        have hown := I.own k _ g c hk trivial hγ
        have T : Trans C γ st.h w C γ (Heap.set st.h k ⟨ver, dver + 1, .row e t' (xs.set i y)⟩) (w.setRow g (cur.toList.take (i * t'.size + off) ++ (a.eval vo).cells.toList ++ cur.toList.drop (i * t'.size + off + ti.size)).toArray) := by
          refine ⟨by simp, fun k' e hk' => ?_, fun g' hg' hh => ?_, fun k' e' c' g' hk' hl' hγ'' hg' => ?_, fun _ _ h => h, fun _ h => h⟩
          · by_cases e1 : k' = k
            · subst e1
              rw [hk] at hk'
              simp only [Option.some.injEq] at hk'
              subst hk'
              exact ⟨_, hset, .inr ⟨rfl, rfl, rfl, ⟨rfl, by simp⟩, by simp⟩⟩
            · exact ⟨e, by rw [set_ne _ _ e1]; exact hk', .inr ⟨rfl, rfl, Alike.refl e⟩⟩
          · refine heap_setRow_ne w g g' _ fun eg => ?_
            subst eg
            obtain ⟨_, e', h1, _, h2⟩ := hh k _ c hk trivial hγ
            rw [hset] at h1
            simp only [Option.some.injEq] at h1
            subst h1
            simp at h2
          · by_cases e1 : k' = k
            · subst e1; exact ⟨k', _, c', hk, trivial, hγ'', .inl rfl⟩
            · rw [set_ne _ _ e1] at hk'
              exact ⟨k', e', c', hk', hl', hγ'', .inl rfl⟩
        refine wp_skip' hex (hn γ _ undef (R'.app T (I.step (step_setRow w _ hown) T (fun k' e' hk' => ?_) (fun k1 k2 e1 e2 g1 c1 c2 h1 hl1 h2 hl2 hg1 hg2 => ?_) (fun k' e' g1 c1 h1 hl1 hg1 => ?_)) ⟨[], rfl, trivial⟩))
        · by_cases e1 : k' = k
          · subst e1
            have hk'' := hk'
            simp only [List.foldl_cons, List.foldl_nil] at hk''
            rw [hset] at hk''
            simp only [Option.some.injEq] at hk''
            subst hk''
            refine .inr ⟨g, c, _, hγ, setRow_heap w g cur _ _ _ hb, by simpa using hxc, hcm, ?_, hszt, ?_⟩
            · simp at hvl ⊢; omega
            · obtain ⟨m, hm⟩ : ∃ m, c = xs.length + m := ⟨c - xs.length, by omega⟩
              have hpart : RowR w (okb C γ st.h none) t' (xs.set i y) (cur.toList.take (i * t'.size + off) ++ (a.eval vo).cells.toList ++ cur.toList.drop (i * t'.size + off + ti.size)) := by
                have hcurl : (cur.toList.take (xs.length * t'.size)).length = xs.length * t'.size := by
                  simp; rw [hcs, hm, Nat.add_mul]; omega
                have hr0 : RowR w (okb C γ st.h none) t' xs (cur.toList.take (xs.length * t'.size)) := fun j x hj => by
                  have hjl : j < xs.length := (List.getElem?_eq_some_iff.1 hj).1
                  have h1 := hr j x hj
                  have : ((cur.toList.take (xs.length * t'.size)).drop (j * t'.size)).take t'.size = (cur.toList.drop (j * t'.size)).take t'.size := by
                    rw [List.drop_take, List.take_take, Nat.min_eq_left]
                    rw [← Nat.sub_mul]
                    calc t'.size = 1 * t'.size := by rw [Nat.one_mul]
                      _ ≤ (xs.length - j) * t'.size := Nat.mul_le_mul_right _ (by omega)
                  rw [this]; exact h1
                have h2 := hr0.set hcurl hlt hyd
                intro j x hj
                have hjl : j < xs.length := by have := (List.getElem?_eq_some_iff.1 hj).1; simpa using this
                have h3 := h2 j x hj
                have hjle : j * t'.size + t'.size ≤ xs.length * t'.size := by
                  calc j * t'.size + t'.size = (j + 1) * t'.size := by rw [Nat.add_mul, Nat.one_mul]
                    _ ≤ xs.length * t'.size := Nat.mul_le_mul_right _ hjl
                have hixs : i * t'.size + t'.size ≤ xs.length * t'.size := by
                  calc i * t'.size + t'.size = (i + 1) * t'.size := by rw [Nat.add_mul, Nat.one_mul]
                    _ ≤ xs.length * t'.size := Nat.mul_le_mul_right _ hlt
                have hxcs : xs.length * t'.size ≤ cur.size := by rw [hcs]; exact Nat.mul_le_mul_right _ hxc
                have : ((cur.toList.take (i * t'.size + off) ++ (a.eval vo).cells.toList ++ cur.toList.drop (i * t'.size + off + ti.size)).drop (j * t'.size)).take t'.size =
                    (((cur.toList.take (xs.length * t'.size)).take (i * t'.size) ++ (((cur.toList.drop (i * t'.size)).take t'.size).take off ++ (a.eval vo).cells.toList ++ ((cur.toList.drop (i * t'.size)).take t'.size).drop (off + ti.size)) ++ (cur.toList.take (xs.length * t'.size)).drop (i * t'.size + t'.size)).drop (j * t'.size)).take t'.size := by
                  have hvlen : (a.eval vo).cells.toList.length = ti.size := by simp at hvl ⊢; omega
                  apply List.ext_getElem?
                  intro q
                  rw [List.getElem?_take, List.getElem?_take]
                  split
                  · rename_i hq
                    rw [List.getElem?_drop, List.getElem?_drop]
                    simp only [List.append_assoc, List.getElem?_append, List.length_append, List.length_take, List.length_drop, List.getElem?_take, List.getElem?_drop, hvlen, Array.length_toList]
                    have e1 : min (i * t'.size + off) cur.size = i * t'.size + off := by omega
                    have e2 : min (xs.length * t'.size) cur.size = xs.length * t'.size := by omega
                    have e3 : min (i * t'.size) (xs.length * t'.size) = i * t'.size := by omega
                    have e4 : min t'.size (cur.size - i * t'.size) = t'.size := by omega
                    have e5 : min off t'.size = off := by omega
                    simp only [e1, e2, e3, e4, e5]
                    repeat' split
                    all_goals first | rfl | (exfalso; omega) | (congr 1; omega)
                  · rfl
                rw [this]; exact h3
              simp only [List.toList_toArray]
              exact hpart.mono T.sz fun g' ho' hg' => T.okb (d := none) trivial ho' hg'
          · simp only [List.foldl_cons, List.foldl_nil] at hk'
            rw [set_ne _ _ e1] at hk'
            refine BoxR.step T (I.box k' e' hk') rfl fun hl g' c' hγ'' => heap_setRow_ne w g g' _ fun eg => ?_
            subst eg
            exact e1 (I.inj k' k e' _ g' c' c hk' hl hk trivial hγ'' hγ)
        · have back : ∀ {kk ee}, (Heap.set st.h k ⟨ver, dver + 1, .row e t' (xs.set i y)⟩) kk = some ee → ee.box.live → ∃ ee', st.h kk = some ee' ∧ ee'.box.live := by
            intro kk ee h1 hl
            by_cases e1 : kk = k
            · subst e1; exact ⟨_, hk, trivial⟩
            · rw [set_ne _ _ e1] at h1; exact ⟨ee, h1, hl⟩
          obtain ⟨e1', h1', hl1'⟩ := back h1 hl1
          obtain ⟨e2', h2', hl2'⟩ := back h2 hl2
          exact I.inj k1 k2 e1' e2' g1 c1 c2 h1' hl1' h2' hl2' hg1 hg2
        · by_cases e1 : k' = k
          · subst e1; exact I.own k' _ g1 c1 hk trivial hg1
          · simp only [List.foldl_cons, List.foldl_nil] at h1
            rw [set_ne _ _ e1] at h1
            exact I.own k' e' g1 c1 h1 hl1 hg1
    · cases he
  · cases he

end
end Rv
