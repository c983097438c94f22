/- Calls of told functions: the caller's state behind the call. -/
import Derived.Test.YtlbfhddhojejfaaDoorRvL
set_option linter.all false
namespace Rv
open Go

section
variable {P : Program} {C C' : Ctx} {γ γ' : Gam} {h h' : Heap} {w w' : World} {R : Type} {r : R}

/-- The context of a callee: it may write what it is lent, and what is new. -/
def callee (C : Ctx) (γ : Gam) (h : Heap) (w : World) (keys deps : List Nat) : Ctx where
  w0 := w
  own := fun g => w.heap.size ≤ g ∨ ∃ k e c, k ∈ keys ∧ h k = some e ∧ e.box.live ∧ γ k = some (g, c)
  rd := fun g => w.heap.size ≤ g ∨ (∃ k e c, k ∈ keys ∧ h k = some e ∧ e.box.live ∧ γ k = some (g, c)) ∨ ∃ d, okb C γ h d g ∧ ∀ x, d = some x → x.1 ∈ deps
  L := C.L

theorem callee_w (I : Inv C γ h w) (keys deps : List Nat) : InvW (callee C γ h w keys deps) w where
  frame := fun _ _ _ => rfl
  size := Nat.le_refl _
  os := rfl
  tape := rfl
  output := rfl
  new := fun _ hg => .inl hg
  rd := fun _ hg => hg.elim .inl (fun h => .inr (.inl h))
  laid := I.laid
  stable := fun a b ha hab => I.stable a b ha fun g hno => hab g fun ho => hno (by
    rcases ho with ho | ⟨k, e, c, _, hk, hl, hg⟩
    · exact I.new g (Nat.le_trans I.size ho)
    · exact I.own k e g c hk hl hg)

theorem opds_len {st : St} : ∀ {l : List Operand} {vs : List V1}, opds st l = some vs → vs.length = l.length
  | [], vs, he => by simp only [opds, Option.some.injEq] at he; subst he; rfl
  | x :: l, vs, he => by
    simp only [opds] at he
    split at he
    · split at he
      · rename_i l' hl
        simp only [Option.some.injEq] at he
        subst he
        simp [opds_len hl]
      · cases he
    · cases he

theorem args_rel {st : St} {a : Act} (R' : Rel C γ w st a.tmps) {args : Array Operand} {vs : List V1} (hv : opds st args.toList = some vs) : Rel C γ w ⟨vs.map .v, st.h⟩ (args.map a.eval) := by
  have ha := opds_sound R' hv
  have hl := opds_len hv
  refine ⟨by simp [hl], fun i v hi => ?_, R'.inv⟩
  simp only [List.getElem?_map, Option.map_eq_some_iff] at hi
  obtain ⟨x, hx, rfl⟩ := hi
  obtain ⟨u, hu, hr, _⟩ := ha.get hx
  have : (args.map a.eval).getD i undef = u := by
    rw [Array.getD_eq_getD_getElem?, ← Array.getElem?_toList, Array.toList_map, hu]
    rfl
  rw [this]; exact hr

theorem resV_rep {l : List V} {rs : Array Value} (hl : rs.size = l.length) (hs : ∀ i v, l[i]? = some v → RepV C γ h w v (rs.getD i undef)) (hv : ∀ v, v ∈ l → ∃ x, v = .v x) : RepV C γ h w (resV l) (if h : rs.size = 1 then rs[0] else .tuple rs) := by
  have tup : rs.size ≠ 1 → RepV C γ h w (.tup (l.map V.toV1)) (.tuple rs) := fun hne => by
    refine ⟨rs.toList, by simp, ?_⟩
    have : ∀ (l : List V) (m : List Value), l.length = m.length → (∀ (i : Nat) v, l[i]? = some v → ∃ u, m[i]? = some u ∧ RepV C γ h w v u) → (∀ v, v ∈ l → ∃ x, v = .v x) → All2 (RepV1 C γ h w) (l.map V.toV1) m := by
      intro l
      induction l with
      | nil => intro m hm _ _; cases m with
        | nil => trivial
        | cons _ _ => simp at hm
      | cons v l ih =>
        intro m hm hh hx
        cases m with
        | nil => simp at hm
        | cons u m =>
          obtain ⟨x, rfl⟩ := hx v (by simp)
          obtain ⟨u', hu', hr⟩ := hh 0 _ rfl
          simp only [List.getElem?_cons_zero, Option.some.injEq] at hu'
          subst hu'
          exact ⟨hr, ih m (by simpa using hm) (fun i v hi => by have := hh (i + 1) v (by simpa using hi); simpa using this) fun v hv => hx v (by simp [hv])⟩
    refine this l rs.toList (by simp [hl]) (fun i v hi => ?_) hv
    have hlt : i < rs.size := by rw [hl]; exact (List.getElem?_eq_some_iff.1 hi).1
    exact ⟨rs[i], by simp [hlt], by have := hs i v hi; simpa [Array.getD, hlt] using this⟩
  match l, hl, hs, hv, tup with
  | [], hl, _, _, tup =>
    have h0 : rs.size = 0 := hl
    rw [dif_neg (by omega)]; exact tup (by omega)
  | [v], hl, hs, _, _ =>
    have h1 : rs.size = 1 := hl
    rw [dif_pos h1]
    show RepV C γ h w v _
    have := hs 0 v rfl
    simpa [Array.getD, h1] using this
  | a :: b :: r, hl, _, _, tup =>
    have h2 : rs.size = r.length + 1 + 1 := hl
    rw [dif_neg (by omega)]; exact tup (by omega)

theorem putSlots_len : ∀ {sl : List (Nat × SD)} {l : List V} {cs : List Cell}, (putSlots l sl cs).1.length = l.length
  | [], _, _ => rfl
  | (i, .c _) :: sl, l, cs => by simp only [putSlots]; rw [putSlots_len]; simp
  | (i, .agg _) :: sl, l, cs => by simp only [putSlots]; rw [putSlots_len]; simp

theorem putSlots_not : ∀ {sl : List (Nat × SD)} {l : List V} {cs : List Cell} {i : Nat}, i ∉ sl.map (·.1) → (putSlots l sl cs).1[i]? = l[i]?
  | [], _, _, _, _ => rfl
  | (j, .c _) :: sl, l, cs, i, hi => by
    simp only [List.map_cons, List.mem_cons, not_or] at hi
    simp only [putSlots]
    rw [putSlots_not hi.2, List.getElem?_set, if_neg (fun e => hi.1 e.symm)]
  | (j, .agg _) :: sl, l, cs, i, hi => by
    simp only [List.map_cons, List.mem_cons, not_or] at hi
    simp only [putSlots]
    rw [putSlots_not hi.2, List.getElem?_set, if_neg (fun e => hi.1 e.symm)]

theorem putSlots_full : ∀ {sl : List (Nat × SD)} {l : List V} {cs : List Cell} {i : Nat}, i ∈ sl.map (·.1) → i < l.length → ∃ x, (putSlots l sl cs).1[i]? = some (.v x)
  | (j, .c _) :: sl, l, cs, i, hi, hl => by
    simp only [putSlots]
    by_cases hm : i ∈ sl.map (·.1)
    · exact putSlots_full hm (by simpa using hl)
    · simp only [List.map_cons, List.mem_cons] at hi
      have := hi.resolve_right hm
      subst this
      rw [putSlots_not hm, List.getElem?_set, if_pos rfl, if_pos hl]
      exact ⟨_, rfl⟩
  | (j, .agg _) :: sl, l, cs, i, hi, hl => by
    simp only [putSlots]
    by_cases hm : i ∈ sl.map (·.1)
    · exact putSlots_full hm (by simpa using hl)
    · simp only [List.map_cons, List.mem_cons] at hi
      have := hi.resolve_right hm
      subst this
      rw [putSlots_not hm, List.getElem?_set, if_pos rfl, if_pos hl]
      exact ⟨_, rfl⟩

/-- From slots back to the flat row of cells. -/
theorem putSlots_back {vals : Array Value} : ∀ {sl : List (Nat × SD)} {l : List V} {cs : List Cell}, (sl.map (·.1)).Nodup → (∀ i, i ∈ sl.map (·.1) → i < l.length) → cs.length = (sl.flatMap fun p => p.2.cds).length →
    (∀ i v, (putSlots l sl cs).1[i]? = some v → RepV C γ h w v (vals.getD i undef)) → All2 (RepC C γ h w) cs (flatV vals sl) ∧ SlotsOk vals sl
  | [], _, cs, _, _, hc, _ => by
    cases cs with
    | nil => exact ⟨trivial, fun i ds hm => by simp at hm⟩
    | cons _ _ => simp at hc
  | (i, .c d) :: sl, l, cs, hn, hb, hc, hs => by
    simp only [List.map_cons, List.nodup_cons] at hn
    cases cs with
    | nil => simp [SD.cds] at hc
    | cons c cs =>
      simp only [putSlots, List.headD_cons, List.tail_cons] at hs
      obtain ⟨h1, h2⟩ := putSlots_back (sl := sl) (l := l.set i (.v (.c c))) (cs := cs) hn.2 (fun j hj => by rw [List.length_set]; exact hb j (by simp [hj])) (by
        have e : (SD.c d).cds.length = 1 := rfl
        simp only [List.flatMap_cons, List.length_append, List.length_cons] at hc
        omega) hs
      refine ⟨⟨?_, h1⟩, fun j ds hm => ?_⟩
      · exact hs i _ (by rw [putSlots_not hn.1, List.getElem?_set, if_pos rfl, if_pos (hb i (by simp))])
      · rcases List.mem_cons.1 hm with hm | hm
        · simp at hm
        · exact h2 j ds hm
  | (i, .agg d) :: sl, l, cs, hn, hb, hc, hs => by
    simp only [List.map_cons, List.nodup_cons] at hn
    have e : (SD.agg d).cds.length = d.length := rfl
    simp only [List.flatMap_cons, List.length_append] at hc
    simp only [putSlots] at hs
    obtain ⟨h1, h2⟩ := putSlots_back (sl := sl) (l := l.set i (.v (.agg (cs.take d.length)))) (cs := cs.drop d.length) hn.2 (fun j hj => by rw [List.length_set]; exact hb j (by simp [hj])) (by rw [List.length_drop]; omega) hs
    obtain ⟨us, hu, ha⟩ := hs i _ (by rw [putSlots_not hn.1, List.getElem?_set, if_pos rfl, if_pos (hb i (by simp))])
    have hul := ha.length
    rw [List.length_take] at hul
    refine ⟨?_, fun j ds hm => ?_⟩
    · simp only [flatV, hu, Value.cells]
      have := ha.append h1
      rwa [List.take_append_drop] at this
    · rcases List.mem_cons.1 hm with hm | hm
      · simp only [Prod.mk.injEq, SD.agg.injEq] at hm
        obtain ⟨rfl, rfl⟩ := hm
        exact ⟨us, hu, by omega⟩
      · exact h2 j ds hm

theorem pubsOf_mem {deps : List Nat} {p : Nat × En} (hp : p ∈ pubsOf h deps) : p.1 ∈ deps ∧ ∃ e a t xs, h p.1 = some e ∧ e.box = .row a t xs ∧ p.2 = ⟨e.ver, e.dver, .pub t xs⟩ := by
  unfold pubsOf at hp
  obtain ⟨k, hk, hm⟩ := List.mem_filterMap.1 hp
  split at hm
  · rename_i v dv a t xs he
    simp only [Option.some.injEq] at hm
    subst hm
    exact ⟨hk, _, a, t, xs, he, rfl, rfl⟩
  · cases hm

theorem pubsOf_has {deps : List Nat} {k : Nat} {e : En} {a : TypeId} {t : Ty} {xs : List t.D} (hk : k ∈ deps) (he : h k = some e) (hb : e.box = .row a t xs) : k ∈ (pubsOf h deps).map (·.1) := by
  refine List.mem_map.2 ⟨(k, ⟨e.ver, e.dver, .pub t xs⟩), List.mem_filterMap.2 ⟨k, hk, ?_⟩, rfl⟩
  obtain ⟨v, dv, b⟩ := e
  simp only at hb
  subst hb
  simp only [he]

/-- The caller's state behind a call of a function that is lent nothing. -/
theorem install_rel {st : St} {a : Act} (R' : Rel C γ w st a.tmps) {sp : Spec} {ab : Abs sp.a.T} {d : Nat} {dst : Option Nat} {y : sp.r.T} (hpl : sp.r.plainRes = true) (hnk : ab.keys = [])
    {γr : Gam} {rs : Array Value} (Rr : Rel (callee C γ st.h w ab.keys ab.m.deps) γr w' (sp.r.mk' nmJ sp.r.slots.length y) rs) :
    ∃ γ', Rel C γ' w' (st.app dst (install st d sp ab y)) (a.put dst (if h : rs.size = 1 then rs[0] else .tuple rs)).tmps := by
  have I := R'.inv
  have Ir := Rr.inv
  rw [hnk] at Rr Ir
  unfold Shape.plainRes at hpl
  simp only [Bool.and_eq_true, decide_eq_true_eq, List.isEmpty_iff, Bool.not_eq_true'] at hpl
  obtain ⟨⟨hnb, hidx⟩, hnp⟩ := hpl
  let nr := (sp.r.all.filter CD.isRow).length
  let M1 := sp.r.mkAll nmJ sp.r.slots.length y
  let M2 := sp.r.mkAll (nmP st.h d) sp.r.slots.length y
  let pubs := if sp.r.all.any CD.shares then pubsOf st.h ab.m.deps else []
  let h2 : Heap := (pubs ++ M2.rs).foldl (fun h p => Heap.set h p.1 p.2) st.h
  have hnb' : sp.r.boxes.length = 0 := by rw [hnb]; rfl
  have kr1 : M1.rs.map (·.1) = (List.range nr).map (fun j => (nmJ j).1) := by
    have := (mkL_count nmJ sp.r.all y sp.r.boxes.length).2.1
    rw [show M1.rs = (mkL nmJ sp.r.all y sp.r.boxes.length).2.1 from rfl, this, hnb']
    simp [nr]
  have kr2 : M2.rs.map (·.1) = (List.range nr).map (fun j => 16 * d + j) := by
    have := (mkL_count (nmP st.h d) sp.r.all y sp.r.boxes.length).2.1
    rw [show M2.rs = (mkL (nmP st.h d) sp.r.all y sp.r.boxes.length).2.1 from rfl, this, hnb']
    simp [nmP, nr]
  have hb1 : M1.bs = [] := by show putBoxes nmJ 0 sp.r.boxes _ = []; rw [hnb]; rfl
  have hr1 : (sp.r.mk' nmJ sp.r.slots.length y).h = Heap.ofList M1.rs := by show Heap.ofList (M1.bs ++ M1.rs) = _; rw [hb1]; rfl
  have nd1 : (M1.rs.map (·.1)).Nodup := by
    rw [kr1]; exact List.Pairwise.map _ (fun i j e e' => e (by simp only [nmJ] at e'; omega)) List.nodup_range
  have nd2 : (M2.rs.map (·.1)).Nodup := by
    rw [kr2]; exact List.Pairwise.map _ (fun i j e e' => e (by simp at e'; omega)) List.nodup_range
  have ext : Ext w w' := ⟨Ir.size, fun g hg => Ir.frame g hg (by simp only [callee, not_or, not_exists]; exact ⟨by omega, fun k e c hh => by simp at hh⟩)⟩
  -- the new heap
  have hnew : ∀ p, p ∈ M2.rs → h2 p.1 = some p.2 := fun p hp => by
    show (pubs ++ M2.rs).foldl _ st.h p.1 = _
    rw [List.foldl_append]
    exact foldl_set_mem nd2 hp
  have hold : ∀ k, k ∉ M2.rs.map (·.1) → h2 k = pubs.foldl (fun h p => Heap.set h p.1 p.2) st.h k := fun k hk => by
    show (pubs ++ M2.rs).foldl _ st.h k = _
    rw [List.foldl_append]
    exact foldl_set_not hk
  have pubm : ∀ p, p ∈ pubs → sp.r.all.any CD.shares = true ∧ p.1 ∈ ab.m.deps ∧ ∃ e a t xs, st.h p.1 = some e ∧ e.box = .row a t xs ∧ p.2 = ⟨e.ver, e.dver, .pub t xs⟩ := fun p hp => by
    by_cases hs : sp.r.all.any CD.shares = true
    · simp only [pubs, hs, if_true] at hp
      exact ⟨hs, pubsOf_mem hp⟩
    · simp only [pubs, hs] at hp
      simp at hp
  have hcase : ∀ k, k ∉ M2.rs.map (·.1) → h2 k = st.h k ∨ ∃ e a t xs, sp.r.all.any CD.shares = true ∧ k ∈ ab.m.deps ∧ st.h k = some e ∧ e.box = .row a t xs ∧ h2 k = some ⟨e.ver, e.dver, .pub t xs⟩ := fun k hk => by
    rw [hold k hk]
    by_cases hp : k ∈ pubs.map (·.1)
    · obtain ⟨p, h3, rfl, h5⟩ := foldl_set_some (h := st.h) hp
      obtain ⟨hs, h6, e, a, t, xs, h7, h8, h9⟩ := pubm p h3
      exact .inr ⟨e, a, t, xs, hs, h6, h7, h8, by rw [h5, h9]⟩
    · exact .inl (foldl_set_not hp)
  -- names
  obtain ⟨γn, hγ1, _⟩ := exists_fun (fun j => 16 * d + j) (fun i j e => by simp at e; omega) (fun j => γr (nmJ j).1) none nr
  let γ' : Gam := fun k => if k ∈ M2.rs.map (·.1) then γn k else γ k
  have hγnew : ∀ j, j < nr → γ' (16 * d + j) = γr (nmJ j).1 := fun j hj => by
    have : 16 * d + j ∈ M2.rs.map (·.1) := by rw [kr2]; exact List.mem_map.2 ⟨j, by simpa using hj, rfl⟩
    simp only [γ', if_pos this]
    exact hγ1 j hj
  have hγold : ∀ k, k ∉ M2.rs.map (·.1) → γ' k = γ k := fun k hk => by simp only [γ', if_neg hk]
  have newk : ∀ k, k ∈ M2.rs.map (·.1) → ∃ j, j < nr ∧ k = 16 * d + j := fun k hk => by
    rw [kr2] at hk
    obtain ⟨j, hj, rfl⟩ := List.mem_map.1 hk
    exact ⟨j, by simpa using hj, rfl⟩
  -- rows: entries of both
  have shapeRow : ∀ (nm nm' : Nm) (l : List CD) (x : TL l) (m m' : Nat) (j : Nat) (p : Nat × En), (mkL nm l x m).2.1[j]? = some p → ∃ p', (mkL nm' l x m').2.1[j]? = some p' ∧ p'.2.box = p.2.box ∧ p.2.box.live := by
    intro nm nm' l
    induction l with
    | nil => intro x m m' j p hp; simp [mkL] at hp
    | cons c l ih =>
      intro x m m' j p hp
      simp only [mkL] at hp ⊢
      cases c with
      | row e t =>
        cases j with
        | zero =>
          simp only [CD.mk, List.cons_append, List.nil_append, List.getElem?_cons_zero, Option.some.injEq] at hp ⊢
          subst hp
          exact ⟨_, rfl, rfl, trivial⟩
        | succ j =>
          simp only [CD.mk, List.cons_append, List.nil_append, List.getElem?_cons_succ] at hp ⊢
          exact ih x.2 _ _ j p hp
      | _ => simp only [CD.mk, List.nil_append] at hp ⊢; exact ih x.2 _ _ j p hp
  have liveR : ∀ j, j < nr → ∃ e, (sp.r.mk' nmJ sp.r.slots.length y).h (nmJ j).1 = some e ∧ e.box.live := fun j hj => by
    have hlen : M1.rs.length = nr := by have := congrArg List.length kr1; simpa using this
    have h3 : M1.rs[j]? = some M1.rs[j] := by simp
    have h4 := congrArg (fun l => l[j]?) kr1
    simp only [List.getElem?_map, h3, Option.map_some, List.getElem?_range hj] at h4
    simp only [Option.some.injEq] at h4
    obtain ⟨p', _, _, h5⟩ := shapeRow nmJ nmJ sp.r.all y sp.r.boxes.length sp.r.boxes.length j _ h3
    exact ⟨_, by rw [hr1, ← h4]; exact ofList_mem nd1 (List.mem_of_getElem? h3), h5⟩
  have newblk : ∀ j g c, j < nr → γr (nmJ j).1 = some (g, c) → w.heap.size ≤ g := fun j g c hj hγ => by
    obtain ⟨e, h3, h4⟩ := liveR j hj
    rcases Ir.own _ e g c h3 h4 hγ with h5 | ⟨k, _, _, hk, _⟩
    · exact h5
    · simp at hk
  -- the step of the caller's cells
  have T : Trans C γ st.h w C γ' h2 w' := by
    refine ⟨ext.1, fun k e hk => ?_, fun g hg _ => ext.2 g hg, fun k e' c g hk hl hγ hg => ?_, fun _ _ h => h⟩
    · by_cases hm : k ∈ M2.rs.map (·.1)
      · obtain ⟨p, hp, rfl⟩ := List.mem_map.1 hm
        refine ⟨p.2, hnew p hp, .inl ?_⟩
        obtain ⟨j, hj, hkj⟩ := newk _ hm
        have : p.2.ver = st.h.next p.1 := by
          have gen : ∀ (l : List CD) (x : TL l) (m : Nat) (p : Nat × En), p ∈ (mkL (nmP st.h d) l x m).2.1 → p.2.ver = st.h.next p.1 := by
            intro l
            induction l with
            | nil => intro x m p hp; simp [mkL] at hp
            | cons c l ih =>
              intro x m p hp
              simp only [mkL, List.mem_append] at hp
              rcases hp with hp | hp
              · cases c <;> simp [CD.mk] at hp
                subst hp; rfl
              · exact ih _ _ p hp
          exact gen _ _ _ p hp
        rw [this]
        exact next_gt hk
      · rcases hcase k hm with h3 | ⟨e0, a0, t, xs, hs, hdp, h4, h5, h6⟩
        · exact ⟨e, by rw [h3]; exact hk, .inr ⟨rfl, hγold k hm, Alike.refl e⟩⟩
        · rw [hk] at h4
          simp only [Option.some.injEq] at h4
          subst h4
          exact ⟨_, h6, .inr ⟨rfl, hγold k hm, by unfold Alike; rw [h5]; exact ⟨⟨rfl, rfl⟩, rfl⟩⟩⟩
    · by_cases hm : k ∈ M2.rs.map (·.1)
      · obtain ⟨j, hj, rfl⟩ := newk k hm
        rw [hγnew j hj] at hγ
        have := newblk j g c hj hγ
        omega
      · rw [hγold k hm] at hγ
        rcases hcase k hm with h3 | ⟨e0, a0, t, xs, hs, hdp, h4, h5, h6⟩
        · exact ⟨k, e', c, by rw [← h3]; exact hk, hl, hγ, .inl rfl⟩
        · rw [hk] at h6
          simp only [Option.some.injEq] at h6
          subst h6
          exact hl.elim
  -- what is read plainly behind the call, is so for the caller
  have tr : sp.r.all.any CD.shares = true → ∀ g, okb (callee C γ st.h w [] ab.m.deps) γr (sp.r.mk' nmJ sp.r.slots.length y).h none g → g < w'.heap.size → okb C γ' h2 none g := by
    intro hs g ho _
    have hrd : C.rd g := by
      rcases ho.1 with h3 | ⟨k, _, _, hk, _⟩ | ⟨dd, h3, _⟩
      · exact I.rd g (I.new g (Nat.le_trans I.size h3))
      · simp at hk
      · exact h3.1
    refine ⟨hrd, fun k e' c hk hl hγ => ?_⟩
    by_cases hm : k ∈ M2.rs.map (·.1)
    · obtain ⟨j, hj, rfl⟩ := newk k hm
      rw [hγnew j hj] at hγ
      obtain ⟨e, h3, h4⟩ := liveR j hj
      have := (ho.2 _ e c h3 h4 hγ).1
      simp at this
    · rw [hγold k hm] at hγ
      rcases hcase k hm with h3 | ⟨e0, a0, t, xs, _, hdp, h4, h5, h6⟩
      · rw [h3] at hk
        have hlt := key_lt I hk hl hγ
        rcases ho.1 with h4 | ⟨k', _, _, hk', _⟩ | ⟨dd, h4, h5⟩
        · omega
        · simp at hk'
        · obtain ⟨h6, h7⟩ := h4.2 k e' c hk hl hγ
          have hkd := h5 _ h6
          simp only at hkd
          cases hb : e'.box with
          | row a0 t xs =>
            have hpub := pubsOf_has (h := st.h) hkd hk hb
            have : k ∈ pubs.map (·.1) := by simp only [pubs, hs, if_true]; exact hpub
            obtain ⟨p, h8, rfl, h9⟩ := foldl_set_some (h := st.h) this
            rw [← hold _ hm, h3] at h9
            rw [hk] at h9
            simp only [Option.some.injEq] at h9
            obtain ⟨_, _, e1, a1, t1, xs1, _, _, h10⟩ := pubm p h8
            rw [h9, h10] at hl
            exact hl.elim
          | _ => rw [hb] at h7; exact h7.elim
      · rw [hk] at h6
        simp only [Option.some.injEq] at h6
        subst h6
        exact hl.elim
  have hlenA : (mkL nmJ sp.r.all y sp.r.boxes.length).1.length = (sp.r.slots.flatMap fun p => p.2.cds).length := by
    rw [(mkL_count nmJ sp.r.all y sp.r.boxes.length).2.2]
    unfold Shape.all
    rw [hnb]; simp
  have hnds : (sp.r.slots.map (·.1)).Nodup := by rw [hidx]; exact List.nodup_range
  have hlt : ∀ i, i ∈ sp.r.slots.map (·.1) → i < (List.replicate sp.r.slots.length V.dead).length := fun i hi => by
    rw [hidx] at hi; simpa using hi
  obtain ⟨hcR, hok⟩ := putSlots_back hnds hlt hlenA Rr.slot
  obtain ⟨hcN, hbN⟩ := mkL_ren (nm' := nmP st.h d) (γ' := γ') (h' := h2) (C' := C) (m' := sp.r.boxes.length) hcR tr (fun p hp => by rw [hr1]; exact ofList_mem nd1 hp) hnew (fun j hj => by
      rw [hnb', Nat.zero_add]; exact hγnew j hj)
    (fun i off hm => by have := List.any_eq_false.1 hnp _ hm; simp [CD.isPtr] at this)
    (fun p hp => Ir.box p.1 p.2 (by rw [hr1]; exact ofList_mem nd1 hp))
  obtain ⟨hs1, hs2, _⟩ := putSlots_sound (C := C) (γ := γ') (h := h2) (w := w') (vals := rs) (sl := sp.r.slots) (l := List.replicate sp.r.slots.length V.dead) (rest := []) hok (fun i v hi => by
      rw [List.getElem?_replicate] at hi
      split at hi
      · simp only [Option.some.injEq] at hi; subst hi; trivial
      · cases hi) (by rw [List.append_nil]; exact hcN)
  have hrs : rs.size = M2.s.length := by
    rw [Rr.size]
    show (putSlots _ _ _).1.length = (putSlots _ _ _).1.length
    rw [putSlots_len, putSlots_len]
  have hres : RepV C γ' h2 w' (resV M2.s) (if h : rs.size = 1 then rs[0] else .tuple rs) := by
    refine resV_rep hrs hs2 fun v hv => ?_
    obtain ⟨i, hi, rfl⟩ := List.getElem_of_mem hv
    have hil : i < sp.r.slots.length := by have : M2.s.length = _ := hs1; rw [List.length_replicate] at this; omega
    obtain ⟨x, hx⟩ := putSlots_full (sl := sp.r.slots) (l := List.replicate sp.r.slots.length V.dead) (cs := (mkL (nmP st.h d) sp.r.all y sp.r.boxes.length).1) (i := i) (by rw [hidx]; simpa using hil) (by simpa using hil)
    have : M2.s[i]? = some (.v x) := hx
    rw [List.getElem?_eq_getElem hi] at this
    simp only [Option.some.injEq] at this
    exact ⟨x, this⟩
  have S : Step C w w' := ⟨Ir.size, fun g hg _ => ext.2 g hg, Ir.os, Ir.tape, Ir.output⟩
  have liveOld : ∀ k e g c, k ∉ M2.rs.map (·.1) → h2 k = some e → e.box.live → γ' k = some (g, c) → st.h k = some e ∧ γ k = some (g, c) := fun k e g c hm hk hl hγ => by
    rw [hγold k hm] at hγ
    rcases hcase k hm with h3 | ⟨e0, a0, t, xs, hs, hdp, h4, h5, h6⟩
    · exact ⟨by rw [← h3]; exact hk, hγ⟩
    · rw [hk] at h6
      simp only [Option.some.injEq] at h6
      subst h6
      exact hl.elim
  have I' : Inv C γ' h2 w' := by
    refine I.step S (fun k e hk => ?_) (fun k k' e e' g c c' hk hl hk' hl' h1 h1' => ?_) (fun k e g c hk hl h1 => ?_)
    · by_cases hm : k ∈ M2.rs.map (·.1)
      · obtain ⟨p, hp, rfl⟩ := List.mem_map.1 hm
        have := hnew p hp
        rw [hk] at this
        simp only [Option.some.injEq] at this
        subst this
        exact hbN p hp
      · rcases hcase k hm with h3 | ⟨e0, a0, t, xs, hs, hdp, h4, h5, h6⟩
        · rw [h3] at hk
          exact BoxR.step T (I.box k e hk) (hγold k hm) fun hl g c hγ => ext.2 g (key_lt I hk hl hγ)
        · rw [hk] at h6
          simp only [Option.some.injEq] at h6
          subst h6
          have hrow : ∀ v, OwnV (γ k) xs.length v → Rd w' (okb C γ' h2 none) (.sl t) xs [v] := fun v hv => by
            obtain ⟨A, c, hv', hle, hx⟩ := I.row h4 h5 (Nat.le_refl _) hv
            rw [List.take_length] at hv' hle hx
            refine RdS.iff.1 ⟨A, c, hv', hle, fun i x hi => ?_⟩
            obtain ⟨g, o, ds, hA, ho, hg, hrd, hcell⟩ := hx i x hi
            refine ⟨g, o, ds, hA, ⟨ho.1, fun k' e' c' hk' hl' hγ' => ?_⟩, Nat.lt_of_lt_of_le hg ext.1, hrd.mono T.sz fun g ho hg => T.okb (d := none) trivial ho hg, fun j u hj => (World.cell?_of_block (ext.2 g hg)).trans (hcell j u hj)⟩
            by_cases hm' : k' ∈ M2.rs.map (·.1)
            · obtain ⟨j, hj, rfl⟩ := newk k' hm'
              rw [hγnew j hj] at hγ'
              have := newblk j g c' hj hγ'
              omega
            · obtain ⟨h7, h8⟩ := liveOld k' e' g c' hm' hk' hl' hγ'
              obtain ⟨h9, _⟩ := ho.2 k' e' c' h7 hl' h8
              simp only [Option.some.injEq, Prod.mk.injEq] at h9
              obtain ⟨rfl, _, _⟩ := h9
              rw [hk] at hk'
              simp only [Option.some.injEq] at hk'
              subst hk'
              exact hl'.elim
          show ∃ v, _
          rw [hγold k hm]
          have hbx := I.box k e0 h4
          rw [h5] at hbx
          rcases hbx with ⟨h0, hx⟩ | ⟨g, c, cur, hγ, _⟩
          · have hv : OwnV (γ k) xs.length (.slice none 0 0) := by rw [h0]; exact ⟨by rw [hx]; rfl, rfl⟩
            exact ⟨_, hv, hrow _ hv⟩
          · have hv : OwnV (γ k) xs.length (.slice (some ⟨g, 0, none⟩) xs.length c) := by rw [hγ]; rfl
            exact ⟨_, hv, hrow _ hv⟩
    · by_cases hm : k ∈ M2.rs.map (·.1) <;> by_cases hm' : k' ∈ M2.rs.map (·.1)
      · obtain ⟨j, hj, rfl⟩ := newk k hm
        obtain ⟨j', hj', rfl⟩ := newk k' hm'
        rw [hγnew j hj] at h1
        rw [hγnew j' hj'] at h1'
        obtain ⟨e1, h3, h4⟩ := liveR j hj
        obtain ⟨e2, h5, h6⟩ := liveR j' hj'
        have := Ir.inj _ _ e1 e2 g c c' h3 h4 h5 h6 h1 h1'
        simp only [nmJ] at this
        omega
      · obtain ⟨j, hj, rfl⟩ := newk k hm
        rw [hγnew j hj] at h1
        have h3 := newblk j g c hj h1
        obtain ⟨h4, h5⟩ := liveOld k' e' g c' hm' hk' hl' h1'
        have := key_lt I h4 hl' h5
        omega
      · obtain ⟨j, hj, rfl⟩ := newk k' hm'
        rw [hγnew j hj] at h1'
        have h3 := newblk j g c' hj h1'
        obtain ⟨h4, h5⟩ := liveOld k e g c hm hk hl h1
        have := key_lt I h4 hl h5
        omega
      · obtain ⟨h4, h5⟩ := liveOld k e g c hm hk hl h1
        obtain ⟨h6, h7⟩ := liveOld k' e' g c' hm' hk' hl' h1'
        exact I.inj k k' e e' g c c' h4 hl h6 hl' h5 h7
    · by_cases hm : k ∈ M2.rs.map (·.1)
      · obtain ⟨j, hj, rfl⟩ := newk k hm
        rw [hγnew j hj] at h1
        exact I.new g (Nat.le_trans I.size (newblk j g c hj h1))
      · obtain ⟨h4, h5⟩ := liveOld k e g c hm hk hl h1
        exact I.own k e g c h4 hl h5
  exact ⟨γ', Rel.app R' T I' hres⟩

end
end Rv
