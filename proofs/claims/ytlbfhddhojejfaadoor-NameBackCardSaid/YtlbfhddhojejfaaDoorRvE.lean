/- Operations that yield a value (second part): loads, places, parts, slices. -/
import Derived.Test.YtlbfhddhojejfaaDoorRvD
set_option linter.all false
namespace Rv
open Go

section
variable {P : Program} {C : Ctx} {γ : Gam} {h : Heap} {w : World} {R : Type} {r : R}

def FixedE (P : Program) (s : Sem Value) (C : Ctx) (γ : Gam) (h : Heap) (w : World) (x : V1) : Prop := ∃ val, RepV1 C γ h w x val ∧ ∀ w', Ext w w' → s.run P w' = .ok val w'

theorem Fixed.ext {s : Sem Value} {x : V1} (hf : Fixed P s C γ h w x) : FixedE P s C γ h w x := let ⟨v, h1, h2⟩ := hf; ⟨v, h1, fun w' _ => h2 w'⟩

theorem getD_of {α : Type} {l : List α} {i : Nat} (d : α) (hi : i < l.length) : l[i]? = some (l.getD i d) := by
  simp [List.getD, hi]

theorem load_elem {t : TypeId} {ti : TI} (hi : TIok P t ti) {t' : Ty} {x : t'.D} {ds : List Value} {g p off : Nat} (hrd : Rd w (okb C γ h none) t' x ds) (hcell : ∀ j u, ds[j]? = some u → w.cell? ⟨g, p + j, none⟩ = some u)
    (hle : off + ti.size ≤ t'.size) {y : V1} (hm : mkV ti.agg (((t'.cells none x).drop off).take ti.size) = some y) : FixedE P (Instr.loadAt t (.pointer (some ⟨g, p + off, none⟩))) C γ h w y := by
  have ha := hrd.cells
  have hl := hrd.length
  have hds : ((ds.drop off).take ti.size).length = ti.size := by simp; omega
  have hc : ∀ j u, ((ds.drop off).take ti.size)[j]? = some u → w.cell? ⟨g, (p + off) + j, none⟩ = some u := fun j u e => by
    rw [List.getElem?_take] at e
    split at e
    · rw [List.getElem?_drop] at e; rw [Nat.add_assoc]; exact hcell _ _ e
    · cases e
  obtain ⟨val, h1, h2, h3⟩ := load_gen hi hds hc ((ha.drop off).take ti.size) hm
  exact ⟨val, h2, fun w' hw => by
    simp only [Instr.loadAt, Instr.sureAddr, Sem.run_bind, Sem.run_pure, Result.andThen_ok]
    exact h3 w' fun j u e => hw.cell (hc j u e)⟩

theorem intsOf_sound {k : IntKind} : ∀ {cs : List Cell} {l : List Int} {vs : List Value}, intsOf k cs = some l → All2 (RepC C γ h w) cs vs → vs = l.map (Value.int k)
  | [], l, vs, he, ha => by
    simp only [intsOf, Option.some.injEq] at he
    subst he
    cases vs with
    | nil => rfl
    | cons _ _ => exact ha.elim
  | c :: cs, l, vs, he, ha => by
    cases c with
    | int j n =>
      simp only [intsOf] at he
      obtain ⟨hj, he⟩ := if_some he
      split at he
      · rename_i l' hl
        simp only [Option.some.injEq] at he
        subst he
        cases vs with
        | nil => exact ha.elim
        | cons v vs =>
          rw [List.map_cons, ← intsOf_sound hl ha.2, show v = _ from ha.1, hj]
      · cases he
    | _ => cases he

theorem strsOf_sound : ∀ {cs : List Cell} {l : List Str} {vs : List Value}, strsOf cs = some l → All2 (RepC C γ h w) cs vs → vs = l.map fun s => Value.string (mkS s)
  | [], l, vs, he, ha => by
    simp only [strsOf, Option.some.injEq] at he
    subst he
    cases vs with
    | nil => rfl
    | cons _ _ => exact ha.elim
  | c :: cs, l, vs, he, ha => by
    cases c with
    | str s =>
      simp only [strsOf] at he
      split at he
      · rename_i l' hl
        simp only [Option.some.injEq] at he
        subst he
        cases vs with
        | nil => exact ha.elim
        | cons v vs =>
          rw [List.map_cons, ← strsOf_sound hl ha.2, show v = _ from ha.1]
      · cases he
    | _ => cases he

theorem boolsOf_sound : ∀ {cs : List Cell} {l : List Bool} {vs : List Value}, boolsOf cs = some l → All2 (RepC C γ h w) cs vs → vs = l.map fun s => Value.bool s
  | [], l, vs, he, ha => by
    simp only [boolsOf, Option.some.injEq] at he
    subst he
    cases vs with
    | nil => rfl
    | cons _ _ => exact ha.elim
  | c :: cs, l, vs, he, ha => by
    cases c with
    | bool s =>
      simp only [boolsOf] at he
      split at he
      · rename_i l' hl
        simp only [Option.some.injEq] at he
        subst he
        cases vs with
        | nil => exact ha.elim
        | cons v vs =>
          rw [List.map_cons, ← boolsOf_sound hl ha.2, show v = _ from ha.1]
      · cases he
    | _ => cases he

theorem aggAt_sound {cs : List Cell} {i : Nat} {c : Cell} {vs : List Value} (he : aggAt cs i = some c) (ha : All2 (RepC C γ h w) cs vs) (hi : i < cs.length) : ∃ v, vs[i]? = some v ∧ RepC C γ h w c v := by
  have hl := ha.length
  unfold aggAt at he
  split at he
  · split at he
    · rename_i l hl'
      simp only [Option.some.injEq] at he
      subst he
      have := intsOf_sound hl' ha
      subst this
      have hil : i < l.length := by rw [List.length_map] at hl; omega
      exact ⟨_, by rw [List.getElem?_map, List.getElem?_eq_getElem hil]; rfl, by simp [RepC, List.getD, hil]⟩
    · cases he
  · split at he
    · rename_i l hl'
      simp only [Option.some.injEq] at he
      subst he
      have := strsOf_sound hl' ha
      subst this
      have hil : i < l.length := by rw [List.length_map] at hl; omega
      exact ⟨_, by rw [List.getElem?_map, List.getElem?_eq_getElem hil]; rfl, by simp [RepC, List.getD, hil]⟩
    · cases he
  · split at he
    · rename_i l hl'
      simp only [Option.some.injEq] at he
      subst he
      have := boolsOf_sound hl' ha
      subst this
      have hil : i < l.length := by rw [List.length_map] at hl; omega
      exact ⟨_, by rw [List.getElem?_map, List.getElem?_eq_getElem hil]; rfl, by simp [RepC, List.getD, hil]⟩
    · cases he
  · cases he

theorem arrLen_sound {te : TypeId → Option TI} (hte : ∀ t i, te t = some i → TIok P t i) {t : TypeId} {n : Nat} (he : arrLen te t = some n) : ∃ e, P.underlying t = some (.array n e) ∧ (∀ w, (Go.sizeOf e).run P w = .ok 1 w) ∧ ∀ w, (Go.isAgg e).run P w = .ok false w := by
  unfold arrLen at he
  split at he
  · rename_i ti hti
    exact (hte _ _ hti).arr n he
  · cases he

theorem loadK_sound {te : TypeId → Option TI} (hte : ∀ t i, te t = some i → TIok P t i) {st : St} (I : Inv C γ st.h w) {t : TypeId} {x : V1} {K : V1 → Option R} (he : loadK te st t x K = some r) {v : Value} (hv : RepV1 C γ st.h w x v) :
    ∃ y, K y = some r ∧ FixedE P (Instr.loadAt t v) C γ st.h w y := by
  unfold loadK at he
  split at he
  · rename_i k kv off ti hti
    have hi := hte _ _ hti
    split at he
    · rename_i l hat
      obtain ⟨e, hk, hve, hbox⟩ := at_some hat
      obtain ⟨g, c, hγ, rfl⟩ := hv.2.get hk hve l hbox
      obtain ⟨hle, he⟩ := if_some he
      obtain ⟨y, hm, he⟩ := orNone_some he
      have hb0 := I.box k _ hk
      rw [hbox] at hb0
      obtain ⟨g', vs, U, hγ', hb, ha⟩ := hb0
      rw [hγ] at hγ'
      simp only [Option.some.injEq, Prod.mk.injEq] at hγ'
      obtain ⟨rfl, rfl⟩ := hγ'
      have hlen := ha.length
      have hds : ((vs.toList.drop off).take ti.size).length = ti.size := by simp at hlen ⊢; omega
      have hc : ∀ j u, ((vs.toList.drop off).take ti.size)[j]? = some u → w.cell? ⟨g, off + j, none⟩ = some u := fun j u e => by
        rw [cell_of_row w g _ vs U (0, 0) hb]
        rw [List.getElem?_take] at e
        split at e
        · rw [List.getElem?_drop] at e; simpa using e
        · cases e
      obtain ⟨val, h1, h2, h3⟩ := load_gen hi hds hc ((ha.drop off).take ti.size) hm
      exact ⟨y, he, val, h2, fun w' hw => by
        simp only [Instr.loadAt, Instr.sureAddr, Sem.run_bind, Sem.run_pure, Result.andThen_ok]
        exact h3 w' fun j u e => hw.cell (hc j u e)⟩
    · cases he
  · rename_i k kv i off ti hti
    have hi := hte _ _ hti
    split at he
    · rename_i a t' xs hat
      obtain ⟨e, hk, hve, hbox⟩ := at_some hat
      obtain ⟨hlt, g, c, hγ, rfl⟩ := hv.2.get hk hve xs.length (by rw [hbox]; rfl)
      obtain ⟨hle, he⟩ := if_some he
      obtain ⟨y, hm, he⟩ := orNone_some he
      have hb0 := I.box k _ hk
      rw [hbox] at hb0
      rcases hb0 with ⟨h0, _⟩ | ⟨g', c', cur, hγ', hb, hxc, hcm, hcs, hsz, hr⟩
      · rw [h0] at hγ; cases hγ
      · rw [hγ] at hγ'
        simp only [Option.some.injEq, Prod.mk.injEq] at hγ'
        obtain ⟨rfl, rfl⟩ := hγ'
        rw [hbox]
        refine ⟨y, he, load_elem hi (hr i _ (getD_of t'.dflt hlt)) (fun j u e => ?_) hle hm⟩
        rw [cell_of_row w g _ cur _ (0, 0) hb]
        rw [List.getElem?_take] at e
        split at e
        · rw [List.getElem?_drop] at e; simpa [Box.tsize] using e
        · cases e
    · rename_i t' xs hat
      obtain ⟨e, hk, hve, hbox⟩ := at_some hat
      obtain ⟨hlt, g, c, hγ, rfl⟩ := hv.2.get hk hve xs.length (by rw [hbox]; rfl)
      obtain ⟨hle, he⟩ := if_some he
      obtain ⟨y, hm, he⟩ := orNone_some he
      have hb0 := I.box k _ hk
      rw [hbox] at hb0
      obtain ⟨u, h1, A, cc, hA, _, hx⟩ := hb0
      rw [hγ] at h1
      rw [show u = _ from h1] at hA
      simp only [List.cons.injEq, Value.slice.injEq, and_true, true_and] at hA
      obtain ⟨rfl, rfl⟩ := hA
      obtain ⟨g', o, ds, hA', ho, hgs, hd, hcell⟩ := hx i _ (getD_of t'.dflt hlt)
      simp only [Option.some.injEq, Addr.mk.injEq, and_true] at hA'
      obtain ⟨rfl, rfl⟩ := hA'
      rw [hbox]
      exact ⟨y, he, load_elem hi hd (fun j u e => by have := hcell j u e; simpa [Box.tsize] using this) hle hm⟩
    · cases he
  · rename_i k kv base n i ti hti
    have hi := hte _ _ hti
    split at he
    · rename_i l hat
      obtain ⟨e, hk, hve, hbox⟩ := at_some hat
      obtain ⟨hlt, g, c, hγ, rfl⟩ := hv.2.get hk hve l hbox
      obtain ⟨⟨hle, hs1, hag⟩, he⟩ := if_some he
      obtain ⟨cl, hm, he⟩ := orNone_some he
      have hb0 := I.box k _ hk
      rw [hbox] at hb0
      obtain ⟨g', vs, U, hγ', hb, ha⟩ := hb0
      rw [hγ] at hγ'
      simp only [Option.some.injEq, Prod.mk.injEq] at hγ'
      obtain ⟨rfl, rfl⟩ := hγ'
      obtain ⟨u, hu, hr⟩ := aggAt_sound hm ((ha.drop base).take n) (by simp; omega)
      have hu' : vs.toList[base + i]? = some u := by
        rw [List.getElem?_take, if_pos hlt, List.getElem?_drop] at hu
        exact hu
      have hc : w.cell? ⟨g, base + i, none⟩ = some u := by
        rw [cell_of_row w g _ vs U (0, 0) hb]; simpa using hu'
      have hcs : ∀ j u', [u][j]? = some u' → w.cell? ⟨g, base + i + j, none⟩ = some u' := fun j u' ej => by
        cases j with
        | zero => simp at ej; subst ej; exact hc
        | succ j => simp at ej
      obtain ⟨val, h1, h2, h3⟩ := load_gen hi (ds := [u]) (by rw [hs1]; rfl) hcs (cs := [cl]) ⟨hr, trivial⟩ (x := .c cl) (by rw [hag]; rfl)
      exact ⟨_, he, val, h2, fun w' hw => by
        simp only [Instr.loadAt, Instr.sureAddr, Sem.run_bind, Sem.run_pure, Result.andThen_ok]
        exact h3 w' fun j u e => hw.cell (hcs j u e)⟩
    · cases he
  · rename_i d t' xs i off ti hti
    have hi := hte _ _ hti
    obtain ⟨hd, he⟩ := if_some he
    obtain ⟨g, p, x, ds, rfl, hx, ho, hg, hrd, hcell⟩ := hv.2.get hd
    obtain ⟨hle, he⟩ := if_some he
    obtain ⟨y, hm, he⟩ := orNone_some he
    have hlt : i < xs.length := (List.getElem?_eq_some_iff.1 hx).1
    have hxx : x = xs.getD i t'.dflt := by have := getD_of t'.dflt hlt; rw [hx] at this; simpa using this
    subst hxx
    exact ⟨y, he, load_elem hi hrd hcell hle hm⟩
  · cases he

theorem fields_get {t : TypeId} {i : TI} (hi : TIok P t i) {f : Nat} {fd : Nat × Nat × Bool} (he : i.fields[f]? = some fd) : ∃ (fs : Array Field) (q : Field), P.underlying t = some (.struct fs) ∧ fs[f]? = some q ∧ q.offset = fd.1 ∧ 0 < fd.2.1 ∧
    (∃ inf, P.info? q.type = some inf ∧ inf.size = fd.2.1) ∧ ∃ d, P.underlying q.type = some d ∧ isAggD d = fd.2.2 := by
  rcases hi.fields with h0 | ⟨fs, h1, h2⟩
  · rw [h0] at he; simp at he
  · obtain ⟨q, hq, h3, h4, h5, h6⟩ := h2.get he
    exact ⟨fs, q, h1, by simpa using hq, h3, h4, h5, h6⟩

theorem fieldAt_run {t : TypeId} {i : TI} (hi : TIok P t i) {f : Nat} {fd : Nat × Nat × Bool} (he : i.fields[f]? = some fd) (g o : Nat) (w' : World) : (Instr.fieldAt t (.pointer (some ⟨g, o, none⟩)) f).run P w' = .ok (.pointer (some ⟨g, o + fd.1, none⟩)) w' := by
  obtain ⟨fs, q, h1, h2, h3, h4, ⟨inf, h5, h6⟩, _⟩ := fields_get hi he
  have hs : (Go.sizeOf q.type).run P w' = .ok fd.2.1 w' := by simp [Go.sizeOf, typeInfo, h5, h6]
  have hne : ¬ fd.2.1 = 0 := by omega
  simp only [Instr.fieldAt, Sem.run_bind, run_underlying h1, Result.andThen_ok, h2, Instr.sureAddr, Sem.run_pure, fieldPlace, hs, if_neg hne, h3, add_eq]

theorem field_run {t : TypeId} {i : TI} (hi : TIok P t i) {f : Nat} {fd : Nat × Nat × Bool} (he : i.fields[f]? = some fd) {cs : List Cell} {v : Value} (hv : RepV1 C γ h w (.agg cs) v) (hle : fd.1 + fd.2.1 ≤ cs.length) {x : V1}
    (hm : mkV fd.2.2 ((cs.drop fd.1).take fd.2.1) = some x) : Fixed P (Instr.field t v f) C γ h w x := by
  obtain ⟨fs, q, h1, h2, h3, h4, h5, h6⟩ := fields_get hi he
  obtain ⟨vs, rfl, ha⟩ := hv
  obtain ⟨val, _, hr, hall⟩ := part_gen h5 h6 ha hle hm w
  exact ⟨val, hr, fun w' => by simp only [Instr.field, Sem.run_bind, run_underlying h1, Result.andThen_ok, h2, asAgg, Sem.run_pure, h3]; exact hall w'⟩

theorem indexAt_run {t e : TypeId} {n : Nat} (hu : P.underlying t = some (.slice e)) (hs : ∀ w', (Go.sizeOf e).run P w' = .ok n w') (g o len cap : Nat) (k : IntKind) (i : Int) (h0 : 0 ≤ i) (h1 : i < len) (w' : World) :
    (Instr.indexAt t (.slice (some ⟨g, o, none⟩) len cap) (.int k i)).run P w' = .ok (.pointer (some ⟨g, o + i.toNat * n, none⟩)) w' := by
  simp [Instr.indexAt, asIntOf, run_underlying hu, h0, h1, hs, add_eq]

theorem rowLen_some {k v n : Nat} {t : Ty} (hr : rowLen h k v = some (t, n)) : ∃ e, h k = some e ∧ e.ver = v ∧ e.box.len = some n ∧ e.box.tsize = t.size := by
  unfold rowLen at hr
  split at hr
  · rename_i a t' xs hat
    obtain ⟨e, hk, hve, hbox⟩ := at_some hat
    simp only [Option.some.injEq, Prod.mk.injEq] at hr
    obtain ⟨rfl, rfl⟩ := hr
    exact ⟨e, hk, hve, by rw [hbox]; rfl, by rw [hbox]; rfl⟩
  · rename_i t' xs hat
    obtain ⟨e, hk, hve, hbox⟩ := at_some hat
    simp only [Option.some.injEq, Prod.mk.injEq] at hr
    obtain ⟨rfl, rfl⟩ := hr
    exact ⟨e, hk, hve, by rw [hbox]; rfl, by rw [hbox]; rfl⟩
  · cases hr

theorem now_self {k v : Nat} {e : En} (hk : h k = some e) (hv : e.ver = v) {p : En → Prop} (hp : p e) : Now h k v p := ⟨e, hk, by omega, fun _ => hp⟩

theorem indexAddrK_sound {te : TypeId → Option TI} (hte : ∀ t i, te t = some i → TIok P t i) {st : St} {t : TypeId} {x i : V1} {K : V1 → Option R} (he : indexAddrK st (elemSize te t) (arrLen te t) x i K = some r) {v vi : Value} (hv : RepV1 C γ st.h w x v) (hvi : RepV1 C γ st.h w i vi) :
    ∃ y, K y = some r ∧ Fixed P (Instr.indexAt t v vi) C γ st.h w y := by
  unfold indexAddrK at he
  split at he
  · rename_i d t' xs k i
    obtain ⟨hd, he⟩ := if_some he
    obtain ⟨hes, he⟩ := if_some he
    obtain ⟨hc, he⟩ := if_some he
    obtain ⟨e, ti, h1, h2, h3⟩ := elemSize_sound hte hes
    rw [show vi = _ from hvi]
    obtain ⟨A, c, hA, hle, hx⟩ := hv.2.get hd
    have hlt : i.toNat < xs.length := by omega
    obtain ⟨g, o, ds, rfl, ho, hg, hrd, hcell⟩ := hx _ _ (getD_of t'.dflt hlt)
    rw [hA]
    refine ⟨_, he, .pointer (some ⟨g, o + i.toNat * t'.size, none⟩), ⟨rfl, DepNow.mk hd ⟨g, o + i.toNat * t'.size, _, ds, rfl, getD_of t'.dflt hlt, ho, hg, hrd, hcell⟩⟩, fun w' => ?_⟩
    exact indexAt_run h3 (fun w' => by rw [← h2]; exact (hte _ _ h1).sizeOf w') g o _ c k i hc.1 (by omega) w'
  · rename_i kk kv k i
    split at he
    · rename_i t' n hrl
      obtain ⟨en, hk, hve, hlen, hts⟩ := rowLen_some hrl
      obtain ⟨hes, he⟩ := if_some he
      obtain ⟨hc, he⟩ := if_some he
      obtain ⟨e, ti, h1, h2, h3⟩ := elemSize_sound hte hes
      rw [show vi = _ from hvi]
      have hown := hv.2.get hk hve n hlen
      cases hγ : γ kk with
      | none => rw [hγ] at hown; have := hown.1; omega
      | some p =>
        obtain ⟨g, c⟩ := p
        rw [hγ] at hown
        rw [show v = _ from hown]
        refine ⟨_, he, .pointer (some ⟨g, 0 + i.toNat * t'.size, none⟩), ⟨rfl, now_self hk hve fun n' hn' => ?_⟩, fun w' => ?_⟩
        · rw [hlen] at hn'
          simp only [Option.some.injEq] at hn'
          subst hn'
          exact ⟨by omega, g, c, hγ, by rw [hts]; simp⟩
        · exact indexAt_run h3 (fun w' => by rw [← h2]; exact (hte _ _ h1).sizeOf w') g 0 _ c k i hc.1 (by omega) w'
    · cases he
  · rename_i kk kv m k i
    split at he
    · rename_i t' n hrl
      obtain ⟨en, hk, hve, hlen, hts⟩ := rowLen_some hrl
      obtain ⟨hes, he⟩ := if_some he
      obtain ⟨hc, he⟩ := if_some he
      obtain ⟨e, ti, h1, h2, h3⟩ := elemSize_sound hte hes
      rw [show vi = _ from hvi]
      obtain ⟨hmn, hown⟩ := hv.2.get hk hve n hlen
      cases hγ : γ kk with
      | none => rw [hγ] at hown; have := hown.1; omega
      | some p =>
        obtain ⟨g, c⟩ := p
        rw [hγ] at hown
        rw [show v = _ from hown]
        refine ⟨_, he, .pointer (some ⟨g, 0 + i.toNat * t'.size, none⟩), ⟨rfl, now_self hk hve fun n' hn' => ?_⟩, fun w' => ?_⟩
        · rw [hlen] at hn'
          simp only [Option.some.injEq] at hn'
          subst hn'
          exact ⟨by omega, g, c, hγ, by rw [hts]; simp⟩
        · exact indexAt_run h3 (fun w' => by rw [← h2]; exact (hte _ _ h1).sizeOf w') g 0 _ c k i hc.1 (by omega) w'
    · cases he
  · rename_i kk kv off k i
    split at he
    · rename_i n l har hat
      obtain ⟨hc, he⟩ := if_some he
      obtain ⟨e, hu, hsz, _⟩ := arrLen_sound hte har
      obtain ⟨en, hk, hve, hbox⟩ := at_some hat
      obtain ⟨g, c, hγ, hvv⟩ := hv.2.get hk hve l hbox
      rw [show vi = _ from hvi]
      refine ⟨_, he, .pointer (some ⟨g, off + i.toNat, none⟩), ⟨rfl, now_self hk hve fun l' hl' => ⟨by omega, g, c, hγ, rfl⟩⟩, fun w' => ?_⟩
      rw [hvv]
      simp [Instr.indexAt, asIntOf, run_underlying hu, Instr.sureAddr, hc.1, hc.2, hsz, add_eq]
    · cases he
  · cases he

theorem indexK_sound {te : TypeId → Option TI} (hte : ∀ t i, te t = some i → TIok P t i) {t : TypeId} {x i : V1} {K : V1 → Option R} (he : indexK (isStr te t) (arrLen te t) x i K = some r) {v vi : Value} (hv : RepV1 C γ h w x v) (hvi : RepV1 C γ h w i vi) :
    ∃ y, K y = some r ∧ Fixed P (Instr.index t v vi) C γ h w y := by
  unfold indexK at he
  split at he
  · rename_i s k i
    obtain ⟨hs, he⟩ := if_some he
    obtain ⟨hc, he⟩ := if_some he
    rw [show v = _ from hv, show vi = _ from hvi]
    refine ⟨_, he, _, rfl, fun w' => ?_⟩
    rw [run_index_string (P := P) w' t (mkS s) k i (isStr_sound hte hs), dif_pos (by simpa [mkS_size] using hc)]
    have : ((mkS s)[i.toNat]'(by simp [mkS_size]; omega)) = s.getD i.toNat 0 := by
      have hlt : i.toNat < s.length := by omega
      simp [List.getD, hlt]
      rfl
    rw [this]
    rfl
  · rename_i cs k i
    split at he
    · rename_i n har
      obtain ⟨hl, he⟩ := if_some he
      obtain ⟨hc, he⟩ := if_some he
      obtain ⟨c, hm, he⟩ := orNone_some he
      obtain ⟨e, hu, hsz, hag⟩ := arrLen_sound hte har
      obtain ⟨us, rfl, ha⟩ := hv
      obtain ⟨u, hu', hr⟩ := aggAt_sound hm ha (by omega)
      rw [show vi = _ from hvi]
      refine ⟨_, he, u, hr, fun w' => ?_⟩
      simp [Instr.index, asIntOf, run_underlying hu, hc, hsz, part, hag, hu']
    · cases he
  · cases he

theorem lenK_sound {te : TypeId → Option TI} (hte : ∀ t i, te t = some i → TIok P t i) {st : St} {t ty : TypeId} {x : V1} {K : Nat → Option R} (he : lenK st (isStr te t) (elemSize te t) x K = some r) {v : Value} (hv : RepV1 C γ st.h w x v) :
    ∃ n, K n = some r ∧ ∀ w', (Builtin.len_ #[t] ty #[v]).run P w' = .ok (.int .i64 n) w' := by
  have sl : ∀ (a : Option Addr) (n c : Nat), (elemSize te t).isSome = true → ∀ w', (Builtin.len_ #[t] ty #[.slice a n c]).run P w' = .ok (.int .i64 n) w' := by
    intro a n c hs w'
    obtain ⟨m, hm⟩ := Option.isSome_iff_exists.1 hs
    obtain ⟨e, ti, h1, h2, h3⟩ := elemSize_sound hte hm
    simp [Builtin.len_, run_underlying h3, goInt]
  unfold lenK at he
  split at he
  · rename_i s
    obtain ⟨hs, he⟩ := if_some he
    rw [show v = _ from hv]
    exact ⟨_, he, fun w' => by simp [Builtin.len_, run_underlying (isStr_sound hte hs), goInt, mkS_size]⟩
  · obtain ⟨hd, he⟩ := if_some he
    obtain ⟨hs, he⟩ := if_some he
    obtain ⟨A, c, hA, _⟩ := hv.2.get hd
    rw [hA]
    exact ⟨_, he, sl _ _ _ hs⟩
  · obtain ⟨hs, he⟩ := if_some he
    rw [show v = _ from hv]
    exact ⟨_, he, sl _ _ _ hs⟩
  · rename_i k kv
    split at he
    · rename_i t' n hrl
      obtain ⟨en, hk, hve, hlen, hts⟩ := rowLen_some hrl
      obtain ⟨hs, he⟩ := if_some he
      have hown := hv.2.get hk hve n hlen
      cases hγ : γ k with
      | none => rw [hγ] at hown; rw [hown.2]; rw [hown.1] at he; exact ⟨_, he, sl _ _ _ hs⟩
      | some p => rw [hγ] at hown; rw [show v = _ from hown]; exact ⟨_, he, sl _ _ _ hs⟩
    · cases he
  · rename_i k kv n
    split at he
    · rename_i x hrl
      obtain ⟨t', m⟩ := x
      obtain ⟨en, hk, hve, hlen, hts⟩ := rowLen_some hrl
      obtain ⟨hs, he⟩ := if_some he
      have hown := (hv.2.get hk hve m hlen).2
      cases hγ : γ k with
      | none => rw [hγ] at hown; rw [hown.2]; rw [hown.1] at he; exact ⟨_, he, sl _ _ _ hs⟩
      | some p => rw [hγ] at hown; rw [show v = _ from hown]; exact ⟨_, he, sl _ _ _ hs⟩
    · cases he
  · cases he

/-- A part of what is read. -/
theorem RdS.sub {d : Dep} {t : Ty} {xs : List t.D} {A : Option Addr} {n c : Nat} (hr : RdS C γ h w d t xs (.slice A n c)) {l hh m : Nat} (hl : l ≤ hh) (hn : hh ≤ xs.length) (hm : hh ≤ m) :
    RdS C γ h w d t ((xs.take hh).drop l) (sliced A l hh m t.size) := by
  obtain ⟨A', c', hA, hle, hx⟩ := hr
  simp only [Value.slice.injEq] at hA
  obtain ⟨rfl, rfl, rfl⟩ := hA
  have hlen : ((xs.take hh).drop l).length = hh - l := by simp; omega
  refine ⟨if m = l then A else A.map (·.add (l * t.size)), m - l, by rw [hlen]; rfl, by rw [hlen]; omega, fun i x hi => ?_⟩
  rw [List.getElem?_drop, List.getElem?_take] at hi
  split at hi
  · obtain ⟨g, o, ds, rfl, ho, hg, hd, hc⟩ := hx _ _ hi
    refine ⟨g, o + l * t.size, ds, ?_, ho, hg, hd, fun j v e => ?_⟩
    · rw [if_neg (by omega)]; simp [add_eq]
    · have := hc j v e
      rw [Nat.add_mul] at this
      rw [show o + l * t.size + i * t.size + j = o + (l * t.size + i * t.size) + j by omega]
      exact this
  · cases hi

theorem slice_run {te : TypeId → Option TI} (hte : ∀ t i, te t = some i → TIok P t i) {t : TypeId} {es : Nat} (hes : elemSize te t = some es) {lo hi mx : Option Value} {A : Option Addr} {n c l hh m : Nat} (hb : ∀ w', (Instr.sliceBounds true n c lo hi mx).run P w' = .ok (l, hh, m) w') (w' : World) :
    (Instr.sliceAt t (.slice A n c) lo hi mx).run P w' = .ok (sliced A l hh m es) w' := by
  obtain ⟨e, ti, h1, h2, h3⟩ := elemSize_sound hte hes
  rw [run_sliceAt_slice w' t _ lo hi mx (elem_eq h3), run_slice_any w' t A n c (elem_eq h3), hb w']
  simp only [Result.andThen_ok, elem_of h3, (hte _ _ h1).sizeOf w', h2]

theorem own_prefix {k : Nat} {A : Option Addr} {n c m hh es : Nat} (ho : OwnV (γ k) n (.slice A n c)) (hle : hh ≤ n) (hm : m = c) : OwnV (γ k) hh (sliced A 0 hh m es) := by
  subst hm
  cases hγ : γ k with
  | none =>
    rw [hγ] at ho
    obtain ⟨h0, hv⟩ := ho
    simp only [Value.slice.injEq] at hv
    obtain ⟨rfl, _, rfl⟩ := hv
    have : hh = 0 := by omega
    subst this
    exact ⟨rfl, by simp [sliced]⟩
  | some p =>
    obtain ⟨g, c'⟩ := p
    rw [hγ] at ho
    simp only [OwnV, Value.slice.injEq] at ho
    obtain ⟨rfl, _, rfl⟩ := ho
    simp [OwnV, sliced, add_eq]

theorem own_shape {k n : Nat} {v : Value} (ho : OwnV (γ k) n v) : ∃ A c, v = .slice A n c := by
  cases hγ : γ k with
  | none => rw [hγ] at ho; obtain ⟨rfl, rfl⟩ := ho; exact ⟨none, 0, rfl⟩
  | some p => obtain ⟨g, c⟩ := p; rw [hγ] at ho; exact ⟨_, c, ho⟩

theorem depOf_ok {c : Cell} {rr : (t : Ty) × List t.D} (hr : rowOf h c = some rr) : h.depOk (depOf h c) = true := by
  cases c with
  | sl d t xs => simp only [rowOf] at hr; split at hr; · assumption
                 · cases hr
  | own k v =>
    have hat : ∃ b, h.at k v = some b := by simp only [rowOf] at hr; split at hr <;> first | exact ⟨_, ‹_›⟩ | cases hr
    obtain ⟨b, hb⟩ := hat
    obtain ⟨e, he, hv, _⟩ := at_some hb
    simp [depOf, he, Heap.depOk, hv]
  | ownP k v n =>
    have hat : ∃ b, h.at k v = some b := by simp only [rowOf] at hr; split at hr <;> first | exact ⟨_, ‹_›⟩ | cases hr
    obtain ⟨b, hb⟩ := hat
    obtain ⟨e, he, hv, _⟩ := at_some hb
    simp [depOf, he, Heap.depOk, hv]
  | _ => simp [rowOf] at hr

theorem rowLen_of {k v n : Nat} {t : Ty} {rr : (t : Ty) × List t.D} (hl : rowLen h k v = some (t, n)) (hr : rowOf h (.own k v) = some rr) : rr.1 = t ∧ rr.2.length = n := by
  unfold rowLen at hl
  simp only [rowOf] at hr
  split at hl
  · rename_i a t' xs hat
    rw [hat] at hr
    simp only [Option.some.injEq, Prod.mk.injEq] at hl hr
    subst hr
    exact ⟨hl.1, hl.2⟩
  · rename_i t' xs hat
    rw [hat] at hr
    simp only [Option.some.injEq, Prod.mk.injEq] at hl hr
    subst hr
    exact ⟨hl.1, hl.2⟩
  · cases hl

theorem rowLen_ofP {k v n m : Nat} {t : Ty} {rr : (t : Ty) × List t.D} (hl : rowLen h k v = some (t, n)) (hr : rowOf h (.ownP k v m) = some rr) (hle : m ≤ n) : rr.1 = t ∧ rr.2.length = m := by
  unfold rowLen at hl
  simp only [rowOf] at hr
  split at hl
  · rename_i a t' xs hat
    rw [hat] at hr
    simp only [Option.some.injEq, Prod.mk.injEq] at hl hr
    subst hr
    obtain ⟨rfl, rfl⟩ := hl
    exact ⟨rfl, by simp; omega⟩
  · rename_i t' xs hat
    rw [hat] at hr
    simp only [Option.some.injEq, Prod.mk.injEq] at hl hr
    subst hr
    obtain ⟨rfl, rfl⟩ := hl
    exact ⟨rfl, by simp; omega⟩
  · cases hl

theorem sliceK_sound {te : TypeId → Option TI} (hte : ∀ t i, te t = some i → TIok P t i) {st : St} (I : Inv C γ st.h w) {t : TypeId} {x : V1} {lo hi mx : Option V1} {K : V1 → Option R} (he : sliceK st (isStr te t) (elemSize te t) x lo hi mx K = some r) {v : Value} {vl vh vm : Option Value}
    (hv : RepV1 C γ st.h w x v) (hl : OptRep C γ st.h w lo vl) (hh : OptRep C γ st.h w hi vh) (hm : OptRep C γ st.h w mx vm) :
    ∃ y, K y = some r ∧ Fixed P (Instr.sliceAt t v vl vh vm) C γ st.h w y := by
  unfold sliceK at he
  split at he
  · rename_i s
    split at he
    · cases vm with
      | some _ => exact hm.elim
      | none =>
        obtain ⟨hs, he⟩ := if_some he
        rw [show v = _ from hv]
        have hu := isStr_sound hte hs
        obtain ⟨l, e, m, he, hle, hn, _, _, _, _, hb⟩ := boundsK_sound (P := P) (isSlice := false) (Nat.le_refl s.length) hl hh (mx := none) (vm := none) trivial he
        refine ⟨_, he, _, rfl, fun w' => ?_⟩
        have hb := hb w'
        rw [run_sliceAt_string w' t _ vl vh none hu]
        simp only [Instr.slice, Sem.run_bind, run_underlying hu, Result.andThen_ok, mkS_size, hb, Option.isSome_none, Bool.false_eq_true, if_false, Sem.run_pure, mkS_extract]
    · cases he
  · obtain ⟨hes, he⟩ := if_some he
    obtain ⟨es, hes⟩ := Option.isSome_iff_exists.1 hes
    rw [show v = _ from hv]
    obtain ⟨l, e, m, he, h1, h2, h3, h4, _, _, hb⟩ := boundsK_sound (P := P) (isSlice := true) (Nat.le_refl 0) hl hh hm he
    have e1 : e = 0 := by omega
    have e2 : l = 0 := by omega
    have e3 : m = 0 := by omega
    subst e1; subst e2; subst e3
    exact ⟨_, he, _, rfl, fun w' => slice_run hte hes hb w'⟩
  · rename_i k kv
    split at he
    · rename_i t' n hrl
      obtain ⟨en, hk, hve, hlen, hts⟩ := rowLen_some hrl
      obtain ⟨hes, he⟩ := if_some he
      have hown := hv.2.get hk hve n hlen
      obtain ⟨A, c, rfl⟩ := own_shape hown
      have hat : ∃ rr, rowOf st.h (.own k kv) = some rr := by
        unfold rowLen at hrl
        simp only [rowOf]
        split at hrl
        · rename_i h1; rw [h1]; exact ⟨_, rfl⟩
        · rename_i h1; rw [h1]; exact ⟨_, rfl⟩
        · cases hrl
      obtain ⟨rr, hrr⟩ := hat
      have hrow := rowOf_rd I hrr hv
      obtain ⟨hrt, hrlen⟩ := rowLen_of hrl hrr
      obtain ⟨A', c', hA', hle, hx'⟩ := hrow
      have hrow : RdS C γ st.h w (depOf st.h (.own k kv)) rr.1 rr.2 (.slice A n c) := ⟨A', c', hA', hle, hx'⟩
      simp only [Value.slice.injEq] at hA'
      obtain ⟨rfl, _, rfl⟩ := hA'
      rw [hrlen] at hle
      split at he
      · cases vl with
        | some _ => exact hl.elim
        | none => cases vm with
          | some _ => exact hm.elim
          | none =>
            obtain ⟨l, e, m, he, h1, h2, h3, h4, h5, h6, hb⟩ := boundsK_sound (P := P) (isSlice := true) hle (lo := none) (vl := none) trivial hh (mx := none) (vm := none) trivial he
            have h6 := h6 rfl
            subst h6
            refine ⟨_, he, sliced A 0 e m t'.size, ⟨rfl, now_self hk hve fun n' hn' => ?_⟩, fun w' => slice_run hte hes hb w'⟩
            rw [hlen] at hn'
            simp only [Option.some.injEq] at hn'
            subst hn'
            exact ⟨h2, own_prefix hown h2 (h5 rfl)⟩
      · obtain ⟨rr', hrr', he⟩ := orNone_some he
        rw [hrr] at hrr'
        simp only [Option.some.injEq] at hrr'
        subst hrr'
        obtain ⟨l, e, m, he, h1, h2, h3, h4, h5, h6, hb⟩ := boundsK_sound (P := P) (isSlice := true) hle hl hh hm he
        have hsub := hrow.sub (l := l) (hh := e) (m := m) h1 (by omega) h3
        refine ⟨_, he, sliced A l e m t'.size, ⟨rfl, DepNow.mk (depOf_ok hrr) ?_⟩, fun w' => slice_run hte hes hb w'⟩
        rw [← hrt]; exact hsub
    · cases he
  · rename_i k kv q
    split at he
    · rename_i t' n hrl
      obtain ⟨en, hk, hve, hlen, hts⟩ := rowLen_some hrl
      obtain ⟨hes, he⟩ := if_some he
      obtain ⟨hqn, hown⟩ := hv.2.get hk hve n hlen
      obtain ⟨A, c, rfl⟩ := own_shape hown
      have hat : ∃ rr, rowOf st.h (.ownP k kv q) = some rr := by
        unfold rowLen at hrl
        simp only [rowOf]
        split at hrl
        · rename_i h1; rw [h1]; exact ⟨_, rfl⟩
        · rename_i h1; rw [h1]; exact ⟨_, rfl⟩
        · cases hrl
      obtain ⟨rr, hrr⟩ := hat
      have hrow := rowOf_rd I hrr hv
      obtain ⟨hrt, hrlen⟩ := rowLen_ofP hrl hrr hqn
      obtain ⟨A', c', hA', hle, hx'⟩ := hrow
      have hrow : RdS C γ st.h w (depOf st.h (.ownP k kv q)) rr.1 rr.2 (.slice A q c) := ⟨A', c', hA', hle, hx'⟩
      simp only [Value.slice.injEq] at hA'
      obtain ⟨rfl, _, rfl⟩ := hA'
      rw [hrlen] at hle
      split at he
      · cases vl with
        | some _ => exact hl.elim
        | none => cases vm with
          | some _ => exact hm.elim
          | none =>
            obtain ⟨l, e, m, he, h1, h2, h3, h4, h5, h6, hb⟩ := boundsK_sound (P := P) (isSlice := true) hle (lo := none) (vl := none) trivial hh (mx := none) (vm := none) trivial he
            have h6 := h6 rfl
            subst h6
            refine ⟨_, he, sliced A 0 e m t'.size, ⟨rfl, now_self hk hve fun n' hn' => ?_⟩, fun w' => slice_run hte hes hb w'⟩
            rw [hlen] at hn'
            simp only [Option.some.injEq] at hn'
            subst hn'
            exact ⟨by omega, own_prefix hown h2 (h5 rfl)⟩
      · obtain ⟨rr', hrr', he⟩ := orNone_some he
        rw [hrr] at hrr'
        simp only [Option.some.injEq] at hrr'
        subst hrr'
        obtain ⟨l, e, m, he, h1, h2, h3, h4, h5, h6, hb⟩ := boundsK_sound (P := P) (isSlice := true) hle hl hh hm he
        have hsub := hrow.sub (l := l) (hh := e) (m := m) h1 (by omega) h3
        refine ⟨_, he, sliced A l e m t'.size, ⟨rfl, DepNow.mk (depOf_ok hrr) ?_⟩, fun w' => slice_run hte hes hb w'⟩
        rw [← hrt]; exact hsub
    · cases he
  · rename_i d t' xs
    obtain ⟨hd, he⟩ := if_some he
    obtain ⟨hes, he⟩ := if_some he
    have hv' := hv.2.get hd
    obtain ⟨A, c, hA, hle, hx⟩ := hv'
    have hv' : RdS C γ st.h w d t' xs v := ⟨A, c, hA, hle, hx⟩
    subst hA
    obtain ⟨l, e, m, he, h1, h2, h3, h4, _, _, hb⟩ := boundsK_sound (P := P) (isSlice := true) hle hl hh hm he
    exact ⟨_, he, sliced A l e m t'.size, ⟨rfl, DepNow.mk hd (hv'.sub h1 h2 h3)⟩, fun w' => slice_run hte hes hb w'⟩
  · cases he

end
end Rv
