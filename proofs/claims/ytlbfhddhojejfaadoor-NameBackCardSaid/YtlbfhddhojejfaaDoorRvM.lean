/- Calls of told functions: the caller's state behind the call. -/
import Derived.Test.YtlbfhddhojejfaaDoorRvL
set_option linter.all false
namespace Rv
open Go

section
variable {P : Program} {C C' : Ctx} {γ γ' : Gam} {h h' : Heap} {w w' : World} {R : Type} {r : R}

/-- The context of a callee: it may write what it is lent, and what is new. -/
def callee (C : Ctx) (γ : Gam) (h : Heap) (w : World) (bm keys deps : List Nat) : Ctx where
  w0 := w
  own := fun g => w.heap.size ≤ g ∨ ∃ k e c, k ∈ keys ∧ h k = some e ∧ e.box.live ∧ γ k = some (g, c)
  rd := fun g => w.heap.size ≤ g ∨ (∃ k e c, k ∈ keys ∧ h k = some e ∧ e.box.live ∧ γ k = some (g, c)) ∨ ∃ d, okb C γ h d g ∧ ∀ x, d = some x → x.1 ∈ deps
  L := C.L
  nl := bm.length
  lent := fun i => (bm[i]?).bind γ

theorem callee_w (I : Inv C γ h w) (bm keys deps : List Nat) : InvW (callee C γ h w bm keys deps) w where
  frame := fun _ _ _ => rfl
  size := Nat.le_refl _
  os := rfl
  tape := rfl
  output := rfl
  new := fun _ hg => .inl hg
  rd := fun _ hg => hg.elim .inl (fun h => .inr (.inl h))
  laid := I.laid
  stable := fun a b ha hab => I.stable a b ha fun g hno => hab g fun ho => hno (by
    rcases ho with ho | ⟨k, e, c, _, hk, hl, hg⟩
    · exact I.new g (Nat.le_trans I.size ho)
    · exact I.own k e g c hk hl hg)

theorem opdsV_sound {st : St} {a : Act} (R' : Rel C γ w st a.tmps) : ∀ {l : List Operand} {vs : List V}, opdsV st l = some vs → All2 (RepV C γ st.h w) vs (l.map a.eval)
  | [], vs, he => by simp only [opdsV, Option.some.injEq] at he; subst he; trivial
  | x :: l, vs, he => by
    simp only [opdsV] at he
    split at he
    · rename_i v hv
      split at he
      · rename_i l' hl
        simp only [Option.some.injEq] at he
        subst he
        exact ⟨opdV_sound R' hv, opdsV_sound R' hl⟩
      · cases he
    · cases he

theorem rel_of_all {st : St} {tmps : Array Value} (R' : Rel C γ w st tmps) {vs : List V} {us : List Value} (ha : All2 (RepV C γ st.h w) vs us) : Rel C γ w ⟨vs, st.h⟩ us.toArray := by
  refine ⟨by simp [ha.length], fun i v hi => ?_, R'.inv⟩
  obtain ⟨u, hu, hr⟩ := ha.get hi
  have : us.toArray.getD i undef = u := by
    rw [Array.getD_eq_getD_getElem?, ← Array.getElem?_toList, hu]
    rfl
  rw [this]; exact hr

theorem resV_rep {l : List V} {rs : Array Value} (hl : rs.size = l.length) (hs : ∀ i v, l[i]? = some v → RepV C γ h w v (rs.getD i undef)) (hv : ∀ v, v ∈ l → ∃ x, v = .v x) : RepV C γ h w (resV l) (if h : rs.size = 1 then rs[0] else .tuple rs) := by
  have tup : rs.size ≠ 1 → RepV C γ h w (.tup (l.map V.toV1)) (.tuple rs) := fun hne => by
    refine ⟨rs.toList, by simp, ?_⟩
    have : ∀ (l : List V) (m : List Value), l.length = m.length → (∀ (i : Nat) v, l[i]? = some v → ∃ u, m[i]? = some u ∧ RepV C γ h w v u) → (∀ v, v ∈ l → ∃ x, v = .v x) → All2 (RepV1 C γ h w) (l.map V.toV1) m := by
      intro l
      induction l with
      | nil => intro m hm _ _; cases m with
        | nil => trivial
        | cons _ _ => simp at hm
      | cons v l ih =>
        intro m hm hh hx
        cases m with
        | nil => simp at hm
        | cons u m =>
          obtain ⟨x, rfl⟩ := hx v (by simp)
          obtain ⟨u', hu', hr⟩ := hh 0 _ rfl
          simp only [List.getElem?_cons_zero, Option.some.injEq] at hu'
          subst hu'
          exact ⟨hr, ih m (by simpa using hm) (fun i v hi => by have := hh (i + 1) v (by simpa using hi); simpa using this) fun v hv => hx v (by simp [hv])⟩
    refine this l rs.toList (by simp [hl]) (fun i v hi => ?_) hv
    have hlt : i < rs.size := by rw [hl]; exact (List.getElem?_eq_some_iff.1 hi).1
    exact ⟨rs[i], by simp [hlt], by have := hs i v hi; simpa [Array.getD, hlt] using this⟩
  match l, hl, hs, hv, tup with
  | [], hl, _, _, tup =>
    have h0 : rs.size = 0 := hl
    rw [dif_neg (by omega)]; exact tup (by omega)
  | [v], hl, hs, _, _ =>
    have h1 : rs.size = 1 := hl
    rw [dif_pos h1]
    show RepV C γ h w v _
    have := hs 0 v rfl
    simpa [Array.getD, h1] using this
  | a :: b :: r, hl, _, _, tup =>
    have h2 : rs.size = r.length + 1 + 1 := hl
    rw [dif_neg (by omega)]; exact tup (by omega)

theorem putSlots_len : ∀ {sl : List (Nat × SD)} {l : List V} {cs : List Cell}, (putSlots l sl cs).1.length = l.length
  | [], _, _ => rfl
  | (i, .c _) :: sl, l, cs => by simp only [putSlots]; rw [putSlots_len]; simp
  | (i, .agg _) :: sl, l, cs => by simp only [putSlots]; rw [putSlots_len]; simp
  | (i, .clo _ _) :: sl, l, cs => by simp only [putSlots]; rw [putSlots_len]; simp

theorem putSlots_not : ∀ {sl : List (Nat × SD)} {l : List V} {cs : List Cell} {i : Nat}, i ∉ sl.map (·.1) → (putSlots l sl cs).1[i]? = l[i]?
  | [], _, _, _, _ => rfl
  | (j, .c _) :: sl, l, cs, i, hi => by
    simp only [List.map_cons, List.mem_cons, not_or] at hi
    simp only [putSlots]
    rw [putSlots_not hi.2, List.getElem?_set, if_neg (fun e => hi.1 e.symm)]
  | (j, .agg _) :: sl, l, cs, i, hi => by
    simp only [List.map_cons, List.mem_cons, not_or] at hi
    simp only [putSlots]
    rw [putSlots_not hi.2, List.getElem?_set, if_neg (fun e => hi.1 e.symm)]
  | (j, .clo _ _) :: sl, l, cs, i, hi => by
    simp only [List.map_cons, List.mem_cons, not_or] at hi
    simp only [putSlots]
    rw [putSlots_not hi.2, List.getElem?_set, if_neg (fun e => hi.1 e.symm)]

theorem putSlots_v : ∀ {sl : List (Nat × SD)} {l : List V} {cs : List Cell} {i : Nat}, (∀ p, p ∈ sl → p.2.isV = true) → i ∈ sl.map (·.1) → i < l.length → ∃ x, (putSlots l sl cs).1[i]? = some (.v x)
  | (j, .c _) :: sl, l, cs, i, hv, hi, hl => by
    simp only [putSlots]
    by_cases hm : i ∈ sl.map (·.1)
    · exact putSlots_v (fun p hp => hv p (by simp [hp])) hm (by simpa using hl)
    · simp only [List.map_cons, List.mem_cons] at hi
      have := hi.resolve_right hm
      subst this
      rw [putSlots_not hm, List.getElem?_set, if_pos rfl, if_pos hl]
      exact ⟨_, rfl⟩
  | (j, .agg _) :: sl, l, cs, i, hv, hi, hl => by
    simp only [putSlots]
    by_cases hm : i ∈ sl.map (·.1)
    · exact putSlots_v (fun p hp => hv p (by simp [hp])) hm (by simpa using hl)
    · simp only [List.map_cons, List.mem_cons] at hi
      have := hi.resolve_right hm
      subst this
      rw [putSlots_not hm, List.getElem?_set, if_pos rfl, if_pos hl]
      exact ⟨_, rfl⟩
  | (j, .clo f ds) :: sl, l, cs, i, hv, hi, hl => by
    have := hv (j, .clo f ds) (by simp)
    cases this

/-- From slots back to the flat row of cells. -/
theorem putSlots_back' {vals : Array Value} : ∀ {sl : List (Nat × SD)} {l : List V} {cs : List Cell}, (sl.map (·.1)).Nodup → (∀ i, i ∈ sl.map (·.1) → i < l.length) → (sl.flatMap fun p => p.2.cds).length ≤ cs.length →
    (∀ i v, (putSlots l sl cs).1[i]? = some v → RepV C γ h w v (vals.getD i undef)) →
    All2 (RepC C γ h w) (cs.take (sl.flatMap fun p => p.2.cds).length) (flatV vals sl) ∧ SlotsOk vals sl ∧ (putSlots l sl cs).2 = cs.drop (sl.flatMap fun p => p.2.cds).length
  | [], _, cs, _, _, hc, _ => ⟨by simp only [List.flatMap_nil, List.length_nil, List.take_zero]; trivial, fun i ds hm => by simp at hm, by simp [putSlots]⟩
  | (i, .c d) :: sl, l, cs, hn, hb, hc, hs => by
    simp only [List.map_cons, List.nodup_cons] at hn
    have e : (SD.c d).cds.length = 1 := rfl
    simp only [List.flatMap_cons, List.length_append, e] at hc ⊢
    cases cs with
    | nil => simp only [List.length_nil] at hc; omega
    | cons c cs =>
      simp only [putSlots, List.headD_cons, List.tail_cons] at hs ⊢
      obtain ⟨h1, h2, h3⟩ := putSlots_back' (sl := sl) (l := l.set i (.v (.c c))) (cs := cs) hn.2 (fun j hj => by rw [List.length_set]; exact hb j (by simp [hj])) (by simp only [List.length_cons] at hc; omega) hs
      have h0 := hs i (.v (.c c)) (by rw [putSlots_not hn.1, List.getElem?_set, if_pos rfl, if_pos (hb i (by simp))])
      refine ⟨?_, h2.cons trivial, ?_⟩
      · rw [Nat.add_comm, List.take_succ_cons]
        exact ⟨h0, h1⟩
      · rw [h3, Nat.add_comm, List.drop_succ_cons]
  | (i, .agg d) :: sl, l, cs, hn, hb, hc, hs => by
    simp only [List.map_cons, List.nodup_cons] at hn
    have e : (SD.agg d).cds.length = d.length := rfl
    simp only [List.flatMap_cons, List.length_append, e] at hc ⊢
    simp only [putSlots] at hs ⊢
    obtain ⟨h1, h2, h3⟩ := putSlots_back' (sl := sl) (l := l.set i (.v (.agg (cs.take d.length)))) (cs := cs.drop d.length) hn.2 (fun j hj => by rw [List.length_set]; exact hb j (by simp [hj])) (by rw [List.length_drop]; omega) hs
    obtain ⟨us, hu, ha⟩ := hs i _ (by rw [putSlots_not hn.1, List.getElem?_set, if_pos rfl, if_pos (hb i (by simp))])
    have hul := ha.length
    rw [List.length_take] at hul
    refine ⟨?_, h2.cons ⟨us, hu, by omega⟩, by rw [h3, List.drop_drop]⟩
    simp only [flatV, hu, Value.cells]
    have := ha.append h1
    rwa [← List.take_add] at this
  | (i, .clo f d) :: sl, l, cs, hn, hb, hc, hs => by
    simp only [List.map_cons, List.nodup_cons] at hn
    have e : (SD.clo f d).cds.length = d.length := rfl
    simp only [List.flatMap_cons, List.length_append, e] at hc ⊢
    simp only [putSlots] at hs ⊢
    obtain ⟨h1, h2, h3⟩ := putSlots_back' (sl := sl) (l := l.set i (.clo f (cs.take d.length))) (cs := cs.drop d.length) hn.2 (fun j hj => by rw [List.length_set]; exact hb j (by simp [hj])) (by rw [List.length_drop]; omega) hs
    obtain ⟨us, hu, ha⟩ := hs i _ (by rw [putSlots_not hn.1, List.getElem?_set, if_pos rfl, if_pos (hb i (by simp))])
    have hul := ha.length
    rw [List.length_take] at hul
    refine ⟨?_, h2.cons ⟨us, hu, by omega⟩, by rw [h3, List.drop_drop]⟩
    simp only [flatV, hu, capsOf]
    have := ha.append h1
    rwa [← List.take_add] at this

theorem putSlots_back {vals : Array Value} {sl : List (Nat × SD)} {l : List V} {cs : List Cell} (hn : (sl.map (·.1)).Nodup) (hb : ∀ i, i ∈ sl.map (·.1) → i < l.length) (hc : cs.length = (sl.flatMap fun p => p.2.cds).length)
    (hs : ∀ i v, (putSlots l sl cs).1[i]? = some v → RepV C γ h w v (vals.getD i undef)) : All2 (RepC C γ h w) cs (flatV vals sl) ∧ SlotsOk vals sl := by
  obtain ⟨h1, h2, _⟩ := putSlots_back' hn hb (by omega) hs
  rw [← hc, List.take_length] at h1
  exact ⟨h1, h2⟩

theorem putBoxes_mem (nm : Nm) : ∀ (i0 : Nat) (bl : List (Option Nat × List CD)) (cs : List Cell) (j : Nat), j < bl.length → ∃ l, ((nm (i0 + j)).1, (⟨(nm (i0 + j)).2, 0, .cells l⟩ : En)) ∈ putBoxes nm i0 bl cs := by
  intro i0 bl
  induction bl generalizing i0 with
  | nil => intro cs j hj; simp at hj
  | cons b bl ih =>
    intro cs j hj
    obtain ⟨p, ds⟩ := b
    cases j with
    | zero => exact ⟨_, by simp only [putBoxes, Nat.add_zero]; exact List.mem_cons_self⟩
    | succ j =>
      obtain ⟨l, hl⟩ := ih (i0 + 1) (cs.drop ds.length) j (by simpa using hj)
      exact ⟨l, by simp only [putBoxes]; rw [show i0 + (j + 1) = i0 + 1 + j by omega]; exact List.mem_cons_of_mem _ hl⟩

/-- From boxes back to the flat row of cells. -/
theorem putBoxes_back (I : Inv C γ h w) {nm : Nm} : ∀ {bl : List (Option Nat × List CD)} {i : Nat} {cs : List Cell}, cs.length = (bl.flatMap (·.2)).length → (∀ p, p ∈ putBoxes nm i bl cs → h p.1 = some p.2) →
    ∃ more, BoxesOk γ h w bl ((List.range bl.length).map fun j => (nm (i + j)).1) more ∧ All2 (RepC C γ h w) cs more.flatten
  | [], i, cs, hc, _ => by
    simp only [List.flatMap_nil, List.length_nil, List.length_eq_zero_iff] at hc
    subst hc
    exact ⟨[], trivial, trivial⟩
  | (q, ds) :: bl, i, cs, hc, he => by
    simp only [List.flatMap_cons, List.length_append] at hc
    simp only [putBoxes] at he
    have h0 := he _ List.mem_cons_self
    have hb := I.box _ _ h0
    obtain ⟨g, us, T, hγ, hbl, ha⟩ := hb
    obtain ⟨more, h1, h2⟩ := putBoxes_back I (nm := nm) (bl := bl) (i := i + 1) (cs := cs.drop ds.length) (by rw [List.length_drop]; omega) (fun p hp => he p (List.mem_cons_of_mem _ hp))
    have hul := ha.length
    rw [List.length_take] at hul
    refine ⟨us.toList :: more, ?_, ?_⟩
    · rw [List.length_cons, List.range_succ_eq_map, List.map_cons, List.map_map]
      refine ⟨⟨_, _, g, T, h0, rfl, hγ, by simpa using hbl, by omega⟩, ?_⟩
      have : (List.range bl.length).map ((fun j => (nm (i + j)).1) ∘ Nat.succ) = (List.range bl.length).map fun j => (nm (i + 1 + j)).1 := by
        apply List.map_congr_left
        intro j _
        show (nm (i + (j + 1))).1 = _
        rw [show i + (j + 1) = i + 1 + j by omega]
      rw [this]; exact h1
    · simp only [List.flatten_cons]
      have := ha.append h2
      rwa [List.take_append_drop] at this

theorem pubsOf_mem {deps : List Nat} {p : Nat × En} (hp : p ∈ pubsOf h deps) : p.1 ∈ deps ∧ ∃ e a t xs, h p.1 = some e ∧ e.box = .row a t xs ∧ p.2 = ⟨e.ver, e.dver, .pub t xs⟩ := by
  unfold pubsOf at hp
  obtain ⟨k, hk, hm⟩ := List.mem_filterMap.1 hp
  split at hm
  · rename_i v dv a t xs he
    simp only [Option.some.injEq] at hm
    subst hm
    exact ⟨hk, _, a, t, xs, he, rfl, rfl⟩
  · cases hm

theorem pubsOf_has {deps : List Nat} {k : Nat} {e : En} {a : TypeId} {t : Ty} {xs : List t.D} (hk : k ∈ deps) (he : h k = some e) (hb : e.box = .row a t xs) : k ∈ (pubsOf h deps).map (·.1) := by
  refine List.mem_map.2 ⟨(k, ⟨e.ver, e.dver, .pub t xs⟩), List.mem_filterMap.2 ⟨k, hk, ?_⟩, rfl⟩
  obtain ⟨v, dv, b⟩ := e
  simp only at hb
  subst hb
  simp only [he]


/-- The caller's state behind a call. -/
theorem install_rel {st : St} {a : Act} (R' : Rel C γ w st a.tmps) {sp : Spec} {ab : Abs sp.a.T} {d : Nat} {dst : Option Nat} {y : sp.r.T} (hpl : sp.r.okRes ab.bm.length = true) (hb0 : ab.bm.all (isBox0 st.h) = true) (hnk : ((newKeys d sp.r).all fun k => !ab.keys.contains k) = true)
    (hkn : ab.keys.Nodup) (hdk : ∀ k, k ∈ ab.m.deps → k ∉ ab.keys) (hbm : ∀ k, k ∈ ab.bm → ∃ e l, st.h k = some e ∧ e.box = .cells l)
    {γr : Gam} {rs : Array Value} (Rr : Rel (callee C γ st.h w ab.bm ab.keys ab.m.deps) γr w' (sp.r.mk' nmJ sp.r.slots.length y) rs) :
    ∃ γ', Rel C γ' w' (st.app dst (install st d sp ab y)) (a.put dst (if h : rs.size = 1 then rs[0] else .tuple rs)).tmps := by
  have I := R'.inv
  have Ir := Rr.inv
  unfold Shape.okRes at hpl
  simp only [Bool.and_eq_true, decide_eq_true_eq] at hpl
  obtain ⟨⟨⟨⟨hnb, hpin⟩, hidx⟩, hptr⟩, hisv⟩ := hpl
  let nb := sp.r.boxes.length
  let nr := (sp.r.all.filter CD.isRow).length
  let nm2 := nmI st.h d ab.bm
  let M1 := sp.r.mkAll nmJ sp.r.slots.length y
  let M2 := sp.r.mkAll nm2 sp.r.slots.length y
  let rk := ab.m.rows.filterMap id
  let pubs := if sp.r.all.any CD.shares then pubsOf st.h ab.m.deps else []
  let kp := if ab.keys.isEmpty then [] else keepOf st.h ab.m.deps
  let h2 : Heap := (kp ++ (pubs ++ (goneOf st.h rk ++ (M2.bs ++ M2.rs)))).foldl (fun h p => Heap.set h p.1 p.2) st.h
  have hnb' : ab.bm.length = nb := hnb.symm
  have nmB : ∀ i k, ab.bm[i]? = some k → nm2 i = (k, match st.h k with | some e => e.ver | none => 0) := fun i k hi => by
    show nmI st.h d ab.bm i = _
    simp only [nmI, hi]
    rfl
  have nmR : ∀ j, nm2 (nb + j) = (16 * d + (nb + j), st.h.next (16 * d + (nb + j))) := fun j => by
    show nmI st.h d ab.bm (nb + j) = _
    unfold nmI
    rw [List.getElem?_eq_none (by omega)]
    rfl
  have kr1 : M1.rs.map (·.1) = (List.range nr).map (fun j => (nmJ (nb + j)).1) := (mkL_count nmJ sp.r.all y sp.r.boxes.length).2.1
  have kr2 : M2.rs.map (·.1) = newKeys d sp.r := by
    have := (mkL_count nm2 sp.r.all y sp.r.boxes.length).2.1
    rw [show M2.rs = (mkL nm2 sp.r.all y sp.r.boxes.length).2.1 from rfl, this]
    unfold newKeys
    apply List.map_congr_left
    intro j _
    rw [nmR j]
  have kb1 : M1.bs.map (·.1) = (List.range nb).map (fun j => (nmJ j).1) := by
    have := putBoxes_keys nmJ 0 sp.r.boxes (putSlots (List.replicate sp.r.slots.length V.dead) sp.r.slots (mkL nmJ sp.r.all y sp.r.boxes.length).1).2
    simp only [Nat.zero_add] at this
    exact this
  have kb2 : M2.bs.map (·.1) = ab.bm := by
    have := putBoxes_keys nm2 0 sp.r.boxes (putSlots (List.replicate sp.r.slots.length V.dead) sp.r.slots (mkL nm2 sp.r.all y sp.r.boxes.length).1).2
    simp only [Nat.zero_add] at this
    refine Eq.trans this ?_
    apply List.ext_getElem?
    intro i
    by_cases hi : i < ab.bm.length
    · have h1 : ab.bm[i]? = some ab.bm[i] := by simp [hi]
      rw [List.getElem?_map, List.getElem?_range (by omega), Option.map_some, nmB i _ h1, h1]
    · rw [List.getElem?_eq_none (by simpa using by omega), List.getElem?_eq_none (by omega)]
  have hr1 : (sp.r.mk' nmJ sp.r.slots.length y).h = Heap.ofList (M1.bs ++ M1.rs) := rfl
  have nd1 : ((M1.bs ++ M1.rs).map (·.1)).Nodup := by
    rw [List.map_append, kb1, kr1]
    have : (List.range (nb + nr)).map (fun j => (nmJ j).1) = (List.range nb).map (fun j => (nmJ j).1) ++ (List.range nr).map (fun j => (nmJ (nb + j)).1) := by
      rw [List.range_add, List.map_append, List.map_map]; rfl
    rw [← this]
    exact List.Pairwise.map _ (fun i j e e' => e (by simp only [nmJ] at e'; omega)) List.nodup_range
  have hnk' : ∀ k, k ∈ newKeys d sp.r → k ∉ ab.keys := fun k hk => by
    have := List.all_eq_true.1 hnk k hk
    simpa using this
  have ndk : (newKeys d sp.r).Nodup := by
    unfold newKeys
    exact List.Pairwise.map _ (fun i j e e' => e (by omega)) List.nodup_range
  have bmk : ∀ k, k ∈ ab.bm → k ∈ ab.keys := fun k hk => List.mem_append_left _ hk
  have rkk : ∀ k, k ∈ rk → k ∈ ab.keys := fun k hk => List.mem_append_right _ hk
  have hbrk : ∀ k, k ∈ ab.bm → k ∉ rk := fun k h1 h2 => by
    have := (List.nodup_append.1 hkn).2.2 k h1 k h2
    exact this rfl
  have nd2 : ((M2.bs ++ M2.rs).map (·.1)).Nodup := by
    rw [List.map_append, kb2, kr2, List.nodup_append]
    refine ⟨(List.nodup_append.1 hkn).1, ndk, fun k h1 k' h2 e => ?_⟩
    subst e
    exact hnk' k h2 (bmk k h1)
  -- the new heap
  have hnew : ∀ p, p ∈ M2.bs ++ M2.rs → h2 p.1 = some p.2 := fun p hp => by
    show (kp ++ (pubs ++ (goneOf st.h rk ++ (M2.bs ++ M2.rs)))).foldl _ st.h p.1 = _
    rw [List.foldl_append, List.foldl_append, List.foldl_append]
    exact foldl_set_mem nd2 hp
  have pubm : ∀ p, p ∈ pubs → sp.r.all.any CD.shares = true ∧ p.1 ∈ ab.m.deps ∧ ∃ e a t xs, st.h p.1 = some e ∧ e.box = .row a t xs ∧ p.2 = ⟨e.ver, e.dver, .pub t xs⟩ := fun p hp => by
    by_cases hs : sp.r.all.any CD.shares = true
    · simp only [pubs, hs, if_true] at hp
      exact ⟨hs, pubsOf_mem hp⟩
    · simp only [pubs, hs] at hp
      simp at hp
  have kpm : ∀ p, p ∈ kp → st.h p.1 = some p.2 := fun p hp => by
    by_cases hs : ab.keys.isEmpty = true
    · simp only [kp, hs, if_true] at hp
      simp at hp
    · simp only [kp, hs] at hp
      have hp : p ∈ keepOf st.h ab.m.deps := by simpa using hp
      obtain ⟨k, _, hk⟩ := List.mem_filterMap.1 hp
      obtain ⟨e, he, hpe⟩ := Option.map_eq_some_iff.1 hk
      subst hpe
      exact he
  have hkp : ∀ k, kp.foldl (fun h p => Heap.set h p.1 p.2) st.h k = st.h k := fun k => by
    by_cases hm : k ∈ kp.map (·.1)
    · obtain ⟨p, h3, rfl, h5⟩ := foldl_set_some (h := st.h) hm
      rw [h5, kpm p h3]
    · exact foldl_set_not hm
  have hcase : ∀ k, k ∉ ab.bm → k ∉ newKeys d sp.r → (h2 k = st.h k ∧ k ∉ ab.keys) ∨ (k ∈ rk ∧ h2 k = some ⟨st.h.next k, 0, .gone⟩) ∨
      ∃ e a t xs, sp.r.all.any CD.shares = true ∧ k ∈ ab.m.deps ∧ st.h k = some e ∧ e.box = .row a t xs ∧ h2 k = some ⟨e.ver, e.dver, .pub t xs⟩ := fun k hkb hkn' => by
    have h0 : h2 k = (goneOf st.h rk).foldl (fun h p => Heap.set h p.1 p.2) (pubs.foldl (fun h p => Heap.set h p.1 p.2) (kp.foldl (fun h p => Heap.set h p.1 p.2) st.h)) k := by
      show (kp ++ (pubs ++ (goneOf st.h rk ++ (M2.bs ++ M2.rs)))).foldl _ st.h k = _
      rw [List.foldl_append, List.foldl_append, List.foldl_append]
      exact foldl_set_not (by rw [List.map_append, kb2, kr2, List.mem_append]; exact fun h => h.elim hkb hkn')
    by_cases hr : k ∈ rk
    · right; left
      refine ⟨hr, ?_⟩
      have hm : k ∈ (goneOf st.h rk).map (·.1) := List.mem_map.2 ⟨(k, ⟨st.h.next k, 0, .gone⟩), List.mem_map.2 ⟨k, hr, rfl⟩, rfl⟩
      obtain ⟨p, h3, rfl, h5⟩ := foldl_set_some (h := pubs.foldl (fun h p => Heap.set h p.1 p.2) (kp.foldl (fun h p => Heap.set h p.1 p.2) st.h)) hm
      rw [h0, h5]
      obtain ⟨k', _, hp⟩ := List.mem_map.1 h3
      subst hp
      rfl
    · have hm : k ∉ (goneOf st.h rk).map (·.1) := fun hm => by
        obtain ⟨p, h3, rfl⟩ := List.mem_map.1 hm
        obtain ⟨k', hk', hp⟩ := List.mem_map.1 h3
        subst hp
        exact hr hk'
      rw [h0, foldl_set_not hm]
      by_cases hp : k ∈ pubs.map (·.1)
      · obtain ⟨p, h3, rfl, h5⟩ := foldl_set_some (h := kp.foldl (fun h p => Heap.set h p.1 p.2) st.h) hp
        obtain ⟨hs, h6, e, a, t, xs, h7, h8, h9⟩ := pubm p h3
        exact .inr (.inr ⟨e, a, t, xs, hs, h6, h7, h8, by rw [h5, h9]⟩)
      · refine .inl ⟨by rw [foldl_set_not hp, hkp], fun hk => ?_⟩
        rcases List.mem_append.1 hk with hk | hk
        · exact hkb hk
        · exact hr hk
  have hboxc : ∀ i k, ab.bm[i]? = some k → i < nb ∧ ∃ e l0 l, st.h k = some e ∧ e.dver = 0 ∧ e.box = .cells l0 ∧ h2 k = some ⟨e.ver, 0, .cells l⟩ := fun i k hi => by
    have hlt : i < nb := by have := (List.getElem?_eq_some_iff.1 hi).1; omega
    obtain ⟨l, hl⟩ := putBoxes_mem nm2 0 sp.r.boxes (putSlots (List.replicate sp.r.slots.length V.dead) sp.r.slots (mkL nm2 sp.r.all y sp.r.boxes.length).1).2 i hlt
    have h3 := hnew _ (List.mem_append_left _ hl)
    rw [Nat.zero_add, nmB i k hi] at h3
    simp only at h3
    obtain ⟨e, l0, h4, h5⟩ := hbm k (List.mem_of_getElem? hi)
    rw [h4] at h3
    have h6 := List.all_eq_true.1 hb0 k (List.mem_of_getElem? hi)
    unfold isBox0 at h6
    rw [h4] at h6
    exact ⟨hlt, e, l0, l, h4, by simpa using h6, h5, h3⟩
  -- names
  obtain ⟨γn, hγ1, _⟩ := exists_fun (fun j => 16 * d + (nb + j)) (fun i j e => by simp at e; omega) (fun j => γr (nmJ (nb + j)).1) none nr
  let γ' : Gam := fun k => if k ∈ newKeys d sp.r then γn k else γ k
  have newk : ∀ k, k ∈ newKeys d sp.r → ∃ j, j < nr ∧ k = 16 * d + (nb + j) := fun k hk => by
    obtain ⟨j, hj, rfl⟩ := List.mem_map.1 hk
    exact ⟨j, by simpa using hj, rfl⟩
  have knew : ∀ j, j < nr → 16 * d + (nb + j) ∈ newKeys d sp.r := fun j hj => List.mem_map.2 ⟨j, by simpa using hj, rfl⟩
  have hγnew : ∀ j, j < nr → γ' (16 * d + (nb + j)) = γr (nmJ (nb + j)).1 := fun j hj => by
    simp only [γ', if_pos (knew j hj)]
    exact hγ1 j hj
  have hγold : ∀ k, k ∉ newKeys d sp.r → γ' k = γ k := fun k hk => by simp only [γ', if_neg hk]
  have hbn : ∀ k, k ∈ ab.bm → k ∉ newKeys d sp.r := fun k h1 h2 => hnk' k h2 (bmk k h1)
  -- the lent boxes, in the callee's names
  have entB : ∀ i, i < nb → ∃ l, (sp.r.mk' nmJ sp.r.slots.length y).h (nmJ i).1 = some ⟨0, 0, .cells l⟩ := fun i hi => by
    obtain ⟨l, hl⟩ := putBoxes_mem nmJ 0 sp.r.boxes (putSlots (List.replicate sp.r.slots.length V.dead) sp.r.slots (mkL nmJ sp.r.all y sp.r.boxes.length).1).2 i hi
    rw [Nat.zero_add] at hl
    exact ⟨l, by rw [hr1]; exact ofList_mem nd1 (List.mem_append_left _ hl)⟩
  have hγlent : ∀ i k, ab.bm[i]? = some k → γr (nmJ i).1 = γ k := fun i k hi => by
    have hlt : i < nb := (hboxc i k hi).1
    obtain ⟨e, he, hv⟩ := Ir.lent i (by show i < ab.bm.length; omega)
    obtain ⟨l, hl⟩ := entB i hlt
    rw [hl] at he
    simp only [Option.some.injEq] at he
    subst he
    rw [hv rfl]
    show (ab.bm[i]?).bind γ = _
    rw [hi]; rfl
  -- rows: entries of both
  have shapeRow : ∀ (nm nm' : Nm) (l : List CD) (x : TL l) (m m' : Nat) (j : Nat) (p : Nat × En), (mkL nm l x m).2.1[j]? = some p → ∃ p', (mkL nm' l x m').2.1[j]? = some p' ∧ p'.2.box = p.2.box ∧ p.2.box.live := by
    intro nm nm' l
    induction l with
    | nil => intro x m m' j p hp; simp [mkL] at hp
    | cons c l ih =>
      intro x m m' j p hp
      simp only [mkL] at hp ⊢
      cases c with
      | row e t =>
        cases j with
        | zero =>
          simp only [CD.mk, List.cons_append, List.nil_append, List.getElem?_cons_zero, Option.some.injEq] at hp ⊢
          subst hp
          exact ⟨_, rfl, rfl, trivial⟩
        | succ j =>
          simp only [CD.mk, List.cons_append, List.nil_append, List.getElem?_cons_succ] at hp ⊢
          exact ih x.2 _ _ j p hp
      | _ => simp only [CD.mk, List.nil_append] at hp ⊢; exact ih x.2 _ _ j p hp
  have liveR : ∀ j, j < nr → ∃ e, (sp.r.mk' nmJ sp.r.slots.length y).h (nmJ (nb + j)).1 = some e ∧ e.box.live := fun j hj => by
    have hlen : M1.rs.length = nr := by have := congrArg List.length kr1; simpa using this
    have h3 : M1.rs[j]? = some M1.rs[j] := by simp
    have h4 := congrArg (fun l => l[j]?) kr1
    simp only [List.getElem?_map, h3, Option.map_some, List.getElem?_range hj] at h4
    simp only [Option.some.injEq] at h4
    obtain ⟨p', _, _, h5⟩ := shapeRow nmJ nmJ sp.r.all y sp.r.boxes.length sp.r.boxes.length j _ h3
    exact ⟨_, by rw [hr1, ← h4]; exact ofList_mem nd1 (List.mem_append_right _ (List.mem_of_getElem? h3)), h5⟩
  have newblk : ∀ j g c, j < nr → γr (nmJ (nb + j)).1 = some (g, c) → w.heap.size ≤ g ∨ ∃ k e c', k ∈ rk ∧ st.h k = some e ∧ e.box.live ∧ γ k = some (g, c') := fun j g c hj hγ => by
    obtain ⟨e, h3, h4⟩ := liveR j hj
    rcases Ir.own _ e g c h3 h4 hγ with h5 | ⟨k, e', c', hk, h6, h7, h8⟩
    · exact .inl h5
    · rcases List.mem_append.1 hk with hk | hk
      · obtain ⟨i, hi⟩ := List.mem_iff_getElem?.1 hk
        have h9 := hγlent i k hi
        obtain ⟨l, hl⟩ := entB i (hboxc i k hi).1
        have := Ir.inj _ _ _ _ g c' c hl trivial h3 h4 (h9.trans h8) hγ
        have hlt := (hboxc i k hi).1
        simp only [nmJ] at this
        omega
      · exact .inr ⟨k, e', c', hk, h6, h7, h8⟩
  have verR : ∀ p, p ∈ M2.rs → p.2.ver = st.h.next p.1 := fun p hp => by
    have gen : ∀ (l : List CD) (x : TL l) (m : Nat) (p : Nat × En), nb ≤ m → p ∈ (mkL nm2 l x m).2.1 → p.2.ver = st.h.next p.1 := by
      intro l
      induction l with
      | nil => intro x m p _ hp; simp [mkL] at hp
      | cons c l ih =>
        intro x m p hm hp
        simp only [mkL, List.mem_append] at hp
        have hm' : nb ≤ (c.mk nm2 x.1 m).2.2 := by cases c <;> simp [CD.mk] <;> omega
        rcases hp with hp | hp
        · cases c <;> simp [CD.mk] at hp
          subst hp
          have := nmR (m - nb)
          rw [show nb + (m - nb) = m by omega] at this
          rw [this]
        · exact ih _ _ p hm' hp
    exact gen _ _ _ p (Nat.le_refl _) hp
  have ownFrame : ∀ g, g < w.heap.size → (∀ k e c, k ∈ ab.keys → st.h k = some e → e.box.live → γ k ≠ some (g, c)) → w'.heap[g]? = w.heap[g]? := fun g hg hno =>
    Ir.frame g hg (by
      simp only [callee, not_or, not_exists]
      exact ⟨by omega, fun k e c ⟨hk, h3, h4, h5⟩ => hno k e c hk h3 h4 h5⟩)
  have liveOld : ∀ k e g c, k ∉ newKeys d sp.r → h2 k = some e → e.box.live → γ' k = some (g, c) → ∃ e0, st.h k = some e0 ∧ e0.box.live ∧ γ k = some (g, c) ∧ (k ∈ ab.bm ∨ (k ∉ ab.keys ∧ e = e0)) := fun k e g c hm hk hl hγ => by
    rw [hγold k hm] at hγ
    by_cases hb : k ∈ ab.bm
    · obtain ⟨i, hi⟩ := List.mem_iff_getElem?.1 hb
      obtain ⟨_, e0, l0, l, h4, _, h6, _⟩ := hboxc i k hi
      exact ⟨e0, h4, by rw [h6]; trivial, hγ, .inl hb⟩
    · rcases hcase k hb hm with ⟨h3, h4⟩ | ⟨_, h4⟩ | ⟨e0, a0, t, xs, hs, hdp, h4, h5, h6⟩
      · exact ⟨e, by rw [← h3]; exact hk, hl, hγ, .inr ⟨h4, rfl⟩⟩
      · rw [hk] at h4
        simp only [Option.some.injEq] at h4
        subst h4
        exact hl.elim
      · rw [hk] at h6
        simp only [Option.some.injEq] at h6
        subst h6
        exact hl.elim
  -- the step of the caller's cells
  have T : Trans C γ st.h w C γ' h2 w' := by
    refine ⟨Ir.size, fun k e hk => ?_, fun g hg H => ?_, fun k e' c g hk hl hγ hg => ?_, fun _ _ h => h, fun _ h => h⟩
    · by_cases hm : k ∈ newKeys d sp.r
      · have hm' := hm
        rw [← kr2] at hm'
        obtain ⟨p, hp, rfl⟩ := List.mem_map.1 hm'
        refine ⟨p.2, hnew p (List.mem_append_right _ hp), .inl ?_⟩
        rw [verR p hp]
        exact next_gt hk
      · by_cases hb : k ∈ ab.bm
        · obtain ⟨i, hi⟩ := List.mem_iff_getElem?.1 hb
          obtain ⟨_, e0, l0, l, h4, h5, h6, h7⟩ := hboxc i k hi
          rw [hk] at h4
          simp only [Option.some.injEq] at h4
          subst h4
          exact ⟨_, h7, .inr ⟨rfl, hγold k hm, by unfold Alike; rw [h6]; exact h5.symm⟩⟩
        · rcases hcase k hb hm with ⟨h3, _⟩ | ⟨_, h4⟩ | ⟨e0, a0, t, xs, hs, hdp, h4, h5, h6⟩
          · exact ⟨e, by rw [h3]; exact hk, .inr ⟨rfl, hγold k hm, Alike.refl e⟩⟩
          · exact ⟨_, h4, .inl (next_gt hk)⟩
          · rw [hk] at h4
            simp only [Option.some.injEq] at h4
            subst h4
            exact ⟨_, h6, .inr ⟨rfl, hγold k hm, by unfold Alike; rw [h5]; exact ⟨⟨rfl, rfl⟩, rfl⟩⟩⟩
    · refine ownFrame g hg fun k e c hk h3 h4 h5 => ?_
      obtain ⟨h6, e', h7, h8, _⟩ := H k e c h3 h4 h5
      have hm : k ∉ newKeys d sp.r := fun hm => hnk' k hm hk
      by_cases hb : k ∈ ab.bm
      · obtain ⟨i, hi⟩ := List.mem_iff_getElem?.1 hb
        obtain ⟨_, e0, l0, l, h9, _, h10, _⟩ := hboxc i k hi
        rw [h3] at h9
        simp only [Option.some.injEq] at h9
        subst h9
        rw [h10] at h6
        exact h6
      · rcases hcase k hb hm with ⟨_, h9⟩ | ⟨_, h9⟩ | ⟨e0, a0, t, xs, hs, hdp, h9, _⟩
        · exact h9 hk
        · rw [h7] at h9
          simp only [Option.some.injEq] at h9
          subst h9
          have := next_gt h3
          simp only at h8
          omega
        · exact hdk k hdp hk
    · by_cases hm : k ∈ newKeys d sp.r
      · obtain ⟨j, hj, rfl⟩ := newk k hm
        rw [hγnew j hj] at hγ
        rcases newblk j g c hj hγ with h3 | ⟨k0, e0, c0, h3, h4, h5, h6⟩
        · omega
        · refine ⟨k0, e0, c0, h4, h5, h6, .inr ?_⟩
          have hm0 : k0 ∉ newKeys d sp.r := fun hm0 => hnk' k0 hm0 (rkk k0 h3)
          have hb0' : k0 ∉ ab.bm := fun hb => hbrk k0 hb h3
          rcases hcase k0 hb0' hm0 with ⟨_, h9⟩ | ⟨_, h9⟩ | ⟨_, _, _, _, _, hdp, _⟩
          · exact absurd (rkk k0 h3) h9
          · exact ⟨_, h9, next_gt h4⟩
          · exact absurd (rkk k0 h3) (hdk k0 hdp)
      · obtain ⟨e0, h3, h4, h5, _⟩ := liveOld k e' g c hm hk hl hγ
        exact ⟨k, e0, c, h3, h4, h5, .inl rfl⟩
  -- what is read plainly behind the call, is so for the caller
  have tr : sp.r.all.any CD.shares = true → ∀ g, okb (callee C γ st.h w ab.bm ab.keys ab.m.deps) γr (sp.r.mk' nmJ sp.r.slots.length y).h none g → g < w'.heap.size → okb C γ' h2 none g := by
    intro hs g ho _
    have hrd : C.rd g := by
      rcases ho.1 with h3 | ⟨k, e, c, hk, h3, h4, h5⟩ | ⟨dd, h3, _⟩
      · exact I.rd g (I.new g (Nat.le_trans I.size h3))
      · exact I.rd g (I.own k e g c h3 h4 h5)
      · exact h3.1
    refine ⟨hrd, fun k e' c hk hl hγ => ?_⟩
    by_cases hm : k ∈ newKeys d sp.r
    · obtain ⟨j, hj, rfl⟩ := newk k hm
      rw [hγnew j hj] at hγ
      obtain ⟨e, h3, h4⟩ := liveR j hj
      have := (ho.2 _ e c h3 h4 hγ).1
      simp at this
    · obtain ⟨e0, h3, h4, h5, h6⟩ := liveOld k e' g c hm hk hl hγ
      rcases h6 with hb | ⟨hnk0, rfl⟩
      · obtain ⟨i, hi⟩ := List.mem_iff_getElem?.1 hb
        obtain ⟨l, hl'⟩ := entB i (hboxc i k hi).1
        have := (ho.2 _ _ c hl' trivial ((hγlent i k hi).trans h5)).1
        simp at this
      · have hlt := key_lt I h3 hl h5
        rcases ho.1 with h7 | ⟨k', e1, c', hk', h7, h8, h9⟩ | ⟨dd, h7, h8⟩
        · omega
        · have := I.inj k k' e' e1 g c c' h3 h4 h7 h8 h5 h9
          subst this
          exact absurd hk' hnk0
        · obtain ⟨h9, h10⟩ := h7.2 k e' c h3 hl h5
          have hkd := h8 _ h9
          simp only at hkd
          cases hb : e'.box with
          | row a0 t xs =>
            exfalso
            have hpub := pubsOf_has (h := st.h) hkd h3 hb
            have hbk : k ∉ ab.bm := fun h => hnk0 (bmk k h)
            rcases hcase k hbk hm with ⟨h11, _⟩ | ⟨h11, _⟩ | ⟨_, _, _, _, _, _, _, _, h14⟩
            · have hpm : k ∈ pubs.map (·.1) := by simp only [pubs, hs, if_true]; exact hpub
              -- the last that was set is the public row
              have h0 : h2 k = pubs.foldl (fun h p => Heap.set h p.1 p.2) (kp.foldl (fun h p => Heap.set h p.1 p.2) st.h) k := by
                show (kp ++ (pubs ++ (goneOf st.h rk ++ (M2.bs ++ M2.rs)))).foldl _ st.h k = _
                rw [List.foldl_append, List.foldl_append, List.foldl_append]
                rw [foldl_set_not (by rw [List.map_append, kb2, kr2, List.mem_append]; exact fun h => h.elim hbk hm)]
                refine foldl_set_not fun hm' => ?_
                obtain ⟨p, h12, rfl⟩ := List.mem_map.1 hm'
                obtain ⟨k'', hk'', hp⟩ := List.mem_map.1 h12
                subst hp
                exact hnk0 (rkk _ hk'')
              obtain ⟨p, h12, rfl, h13⟩ := foldl_set_some (h := kp.foldl (fun h p => Heap.set h p.1 p.2) st.h) hpm
              obtain ⟨_, _, e2, a2, t2, xs2, _, _, h15⟩ := pubm p h12
              rw [h13, hk] at h0
              simp only [Option.some.injEq] at h0
              rw [h0, h15] at hl
              exact hl.elim
            · exact hnk0 (rkk k h11)
            · rw [hk] at h14
              simp only [Option.some.injEq] at h14
              rw [h14] at hl
              exact hl.elim
          | _ => rw [hb] at h10; exact h10.elim
  -- the flat rows of cells
  let S := (sp.r.slots.flatMap fun p => p.2.cds).length
  have hlenA : (mkL nmJ sp.r.all y sp.r.boxes.length).1.length = S + (sp.r.boxes.flatMap (·.2)).length := by
    rw [(mkL_count nmJ sp.r.all y sp.r.boxes.length).2.2]
    unfold Shape.all
    rw [List.length_append]
  have hnds : (sp.r.slots.map (·.1)).Nodup := by rw [hidx]; exact List.nodup_range
  have hlt : ∀ i, i ∈ sp.r.slots.map (·.1) → i < (List.replicate sp.r.slots.length V.dead).length := fun i hi => by
    rw [hidx] at hi; simpa using hi
  obtain ⟨hcS, hok, hrest⟩ := putSlots_back' (cs := (mkL nmJ sp.r.all y sp.r.boxes.length).1) hnds hlt (by omega) Rr.slot
  have hbs1 : M1.bs = putBoxes nmJ 0 sp.r.boxes ((mkL nmJ sp.r.all y sp.r.boxes.length).1.drop S) := by
    show putBoxes nmJ 0 sp.r.boxes (putSlots _ _ _).2 = _
    rw [hrest]
  obtain ⟨more, hmore, hcB⟩ := putBoxes_back Ir (nm := nmJ) (bl := sp.r.boxes) (i := 0) (cs := (mkL nmJ sp.r.all y sp.r.boxes.length).1.drop S) (by rw [List.length_drop]; omega) (fun p hp => by
    rw [hr1]; exact ofList_mem nd1 (List.mem_append_left _ (by rw [hbs1]; exact hp)))
  have hcR : All2 (RepC (callee C γ st.h w ab.bm ab.keys ab.m.deps) γr (sp.r.mk' nmJ sp.r.slots.length y).h w') (mkL nmJ sp.r.all y sp.r.boxes.length).1 (flatV rs sp.r.slots ++ more.flatten) := by
    have := hcS.append hcB
    rwa [List.take_append_drop] at this
  obtain ⟨hcN, hbN⟩ := mkL_ren (nm' := nm2) (γ' := γ') (h' := h2) (C' := C) (m' := sp.r.boxes.length) hcR tr (fun p hp => by rw [hr1]; exact ofList_mem nd1 (List.mem_append_right _ hp)) (fun p hp => hnew p (List.mem_append_right _ hp))
    (fun j hj => by
      rw [nmR j]
      exact hγnew j hj)
    (fun i off hm => by
      have := List.all_eq_true.1 hptr _ hm
      simp only [CD.ptrB, decide_eq_true_eq] at this
      have hi : ab.bm[i]? = some ab.bm[i] := by simp [this]
      obtain ⟨h3, e, l0, l, h4, _, _, h7⟩ := hboxc i _ hi
      obtain ⟨l', hl'⟩ := entB i h3
      refine ⟨⟨_, l', hl', rfl, rfl⟩, ⟨⟨e.ver, 0, .cells l⟩, l, ?_, ?_, rfl⟩, ?_⟩
      · rw [nmB i _ hi]; exact h7
      · rw [nmB i _ hi]; simp only [h4]
      · rw [nmB i _ hi, hγold _ (hbn _ (List.mem_of_getElem? hi))]; exact (hγlent i _ hi).symm)
    (fun p hp => Ir.box p.1 p.2 (by rw [hr1]; exact ofList_mem nd1 (List.mem_append_right _ hp)))
  obtain ⟨hs1, hs2, hs3⟩ := putSlots_sound (C := C) (γ := γ') (h := h2) (w := w') (vals := rs) (sl := sp.r.slots) (l := List.replicate sp.r.slots.length V.dead) (rest := more.flatten) hok (fun i v hi => by
      rw [List.getElem?_replicate] at hi
      split at hi
      · simp only [Option.some.injEq] at hi; subst hi; trivial
      · cases hi) hcN
  have hboxN : ∀ p, p ∈ M2.bs → BoxR C γ' h2 w' p.1 p.2.box := putBoxes_box (C' := C) (γ' := γ') (h' := h2) (nm := nm2) (i := 0) (rest := []) hmore (fun j k hj => by
      simp only [List.getElem?_map, Option.map_eq_some_iff] at hj
      obtain ⟨j', hj', rfl⟩ := hj
      have hjl : j < nb := by have := (List.getElem?_eq_some_iff.1 hj').1; simpa using this
      rw [List.getElem?_range hjl] at hj'
      simp only [Option.some.injEq] at hj'
      subst hj'
      have hi : ab.bm[j]? = some ab.bm[j] := by simp [show j < ab.bm.length by omega]
      rw [Nat.zero_add, nmB j _ hi, hγold _ (hbn _ (List.mem_of_getElem? hi))]
      exact (hγlent j _ hi).symm) (by rw [List.append_nil]; exact hs3)
  have hrs : rs.size = M2.s.length := by
    rw [Rr.size]
    show (putSlots _ _ _).1.length = (putSlots _ _ _).1.length
    rw [putSlots_len, putSlots_len]
  have hres : RepV C γ' h2 w' (resV M2.s) (if h : rs.size = 1 then rs[0] else .tuple rs) := by
    refine resV_rep hrs hs2 fun v hv => ?_
    obtain ⟨i, hi, rfl⟩ := List.getElem_of_mem hv
    have hil : i < sp.r.slots.length := by have : M2.s.length = _ := hs1; rw [List.length_replicate] at this; omega
    obtain ⟨x, hx⟩ := putSlots_v (sl := sp.r.slots) (l := List.replicate sp.r.slots.length V.dead) (cs := (mkL nm2 sp.r.all y sp.r.boxes.length).1) (i := i) (fun p hp => List.all_eq_true.1 hisv p hp) (by rw [hidx]; simpa using hil) (by simpa using hil)
    have : M2.s[i]? = some (.v x) := hx
    rw [List.getElem?_eq_getElem hi] at this
    simp only [Option.some.injEq] at this
    exact ⟨x, this⟩
  have S' : Step C w w' := ⟨Ir.size, fun g hg hno => ownFrame g hg fun k e c _ h3 h4 h5 => hno (I.own k e g c h3 h4 h5), Ir.os, Ir.tape, Ir.output⟩
  -- a block of a key that was not lent is as it was
  have keepBlk : ∀ k e g c, k ∉ ab.keys → st.h k = some e → e.box.live → γ k = some (g, c) → w'.heap[g]? = w.heap[g]? := fun k e g c hk h3 h4 h5 =>
    ownFrame g (key_lt I h3 h4 h5) fun k' e' c' hk' h6 h7 h8 => by
      have := I.inj k k' e e' g c c' h3 h4 h6 h7 h5 h8
      subst this
      exact hk hk'
  have I' : Inv C γ' h2 w' := by
    refine I.step S' T (fun k e hk => ?_) (fun k k' e e' g c c' hk hl hk' hl' h1 h1' => ?_) (fun k e g c hk hl h1 => ?_)
    · by_cases hm : k ∈ newKeys d sp.r
      · have hm' := hm
        rw [← kr2] at hm'
        obtain ⟨p, hp, rfl⟩ := List.mem_map.1 hm'
        have := hnew p (List.mem_append_right _ hp)
        rw [hk] at this
        simp only [Option.some.injEq] at this
        subst this
        exact hbN p hp
      · by_cases hb : k ∈ ab.bm
        · have hb' := hb
          rw [← kb2] at hb'
          obtain ⟨p, hp, rfl⟩ := List.mem_map.1 hb'
          have := hnew p (List.mem_append_left _ hp)
          rw [hk] at this
          simp only [Option.some.injEq] at this
          subst this
          exact hboxN p hp
        · rcases hcase k hb hm with ⟨h3, hnk0⟩ | ⟨_, h4⟩ | ⟨e0, a0, t, xs, hs, hdp, h4, h5, h6⟩
          · rw [h3] at hk
            exact BoxR.step T (I.box k e hk) (hγold k hm) fun hl g c hγ => keepBlk k e g c hnk0 hk hl hγ
          · rw [hk] at h4
            simp only [Option.some.injEq] at h4
            subst h4
            trivial
          · rw [hk] at h6
            simp only [Option.some.injEq] at h6
            subst h6
            have hrow : ∀ v, OwnV (γ k) xs.length v → Rd w' (okb C γ' h2 none) (.sl t) xs [v] := fun v hv => by
              obtain ⟨A, c, hv', hle, hx⟩ := I.row h4 h5 (Nat.le_refl _) hv
              rw [List.take_length] at hv' hle hx
              refine RdS.iff.1 ⟨A, c, hv', hle, fun i x hi => ?_⟩
              obtain ⟨g, o, ds, hA, ho, hg, hrd, hcell⟩ := hx i x hi
              have hfr : w'.heap[g]? = w.heap[g]? := ownFrame g hg fun k' e' c' hk' h6 h7 h8 => by
                obtain ⟨h9, _⟩ := ho.2 k' e' c' h6 h7 h8
                simp only [Option.some.injEq, Prod.mk.injEq] at h9
                obtain ⟨rfl, _, _⟩ := h9
                exact hdk _ hdp hk'
              refine ⟨g, o, ds, hA, ⟨ho.1, fun k' e' c' hk' hl' hγ' => ?_⟩, Nat.lt_of_lt_of_le hg Ir.size, hrd.mono T.sz fun g ho hg => T.okb (d := none) trivial ho hg, fun j u hj => (World.cell?_of_block hfr).trans (hcell j u hj)⟩
              by_cases hm' : k' ∈ newKeys d sp.r
              · obtain ⟨j, hj, rfl⟩ := newk k' hm'
                rw [hγnew j hj] at hγ'
                rcases newblk j g c' hj hγ' with h7 | ⟨k0, e1, c1, h7, h8, h9, h10⟩
                · omega
                · obtain ⟨h11, _⟩ := ho.2 k0 e1 c1 h8 h9 h10
                  simp only [Option.some.injEq, Prod.mk.injEq] at h11
                  obtain ⟨rfl, _, _⟩ := h11
                  exact absurd (rkk _ h7) (hdk _ hdp)
              · obtain ⟨e1, h7, h8, h9, _⟩ := liveOld k' e' g c' hm' hk' hl' hγ'
                obtain ⟨h11, _⟩ := ho.2 k' e1 c' h7 h8 h9
                simp only [Option.some.injEq, Prod.mk.injEq] at h11
                obtain ⟨rfl, _, _⟩ := h11
                rw [hk] at hk'
                simp only [Option.some.injEq] at hk'
                subst hk'
                exact hl'.elim
            show ∃ v, _
            rw [hγold k hm]
            have hbx := I.box k e0 h4
            rw [h5] at hbx
            rcases hbx with ⟨h0, hx⟩ | ⟨g, c, cur, hγ, _⟩
            · have hv : OwnV (γ k) xs.length (.slice none 0 0) := by rw [h0]; exact ⟨by rw [hx]; rfl, rfl⟩
              exact ⟨_, hv, hrow _ hv⟩
            · have hv : OwnV (γ k) xs.length (.slice (some ⟨g, 0, none⟩) xs.length c) := by rw [hγ]; rfl
              exact ⟨_, hv, hrow _ hv⟩
    · -- a new row's block is no old key's
      have cross : ∀ j g c k e c', j < nr → γr (nmJ (nb + j)).1 = some (g, c) → k ∉ newKeys d sp.r → h2 k = some e → e.box.live → γ' k = some (g, c') → False := fun j g c k e c' hj hγj hm hk hl hγk => by
        obtain ⟨e0, h3, h4, h5, h6⟩ := liveOld k e g c' hm hk hl hγk
        rcases h6 with hb | ⟨hnk0, rfl⟩
        · obtain ⟨i, hi⟩ := List.mem_iff_getElem?.1 hb
          obtain ⟨l, hl'⟩ := entB i (hboxc i k hi).1
          obtain ⟨e1, h7, h8⟩ := liveR j hj
          have := Ir.inj _ _ _ _ g c' c hl' trivial h7 h8 ((hγlent i k hi).trans h5) hγj
          have hlt := (hboxc i k hi).1
          simp only [nmJ] at this
          omega
        · rcases newblk j g c hj hγj with h7 | ⟨k0, e1, c1, h7, h8, h9, h10⟩
          · have := key_lt I h3 h4 h5
            omega
          · have := I.inj k k0 _ e1 g c' c1 h3 h4 h8 h9 h5 h10
            subst this
            exact hnk0 (rkk k h7)
      by_cases hm : k ∈ newKeys d sp.r <;> by_cases hm' : k' ∈ newKeys d sp.r
      · obtain ⟨j, hj, rfl⟩ := newk k hm
        obtain ⟨j', hj', rfl⟩ := newk k' hm'
        rw [hγnew j hj] at h1
        rw [hγnew j' hj'] at h1'
        obtain ⟨e1, h3, h4⟩ := liveR j hj
        obtain ⟨e2, h5, h6⟩ := liveR j' hj'
        have := Ir.inj _ _ e1 e2 g c c' h3 h4 h5 h6 h1 h1'
        simp only [nmJ] at this
        omega
      · obtain ⟨j, hj, rfl⟩ := newk k hm
        rw [hγnew j hj] at h1
        exact (cross j g c k' e' c' hj h1 hm' hk' hl' h1').elim
      · obtain ⟨j, hj, rfl⟩ := newk k' hm'
        rw [hγnew j hj] at h1'
        exact (cross j g c' k e c hj h1' hm hk hl h1).elim
      · obtain ⟨e1, h3, h4, h5, _⟩ := liveOld k e g c hm hk hl h1
        obtain ⟨e2, h6, h7, h8, _⟩ := liveOld k' e' g c' hm' hk' hl' h1'
        exact I.inj k k' e1 e2 g c c' h3 h4 h6 h7 h5 h8
    · by_cases hm : k ∈ newKeys d sp.r
      · obtain ⟨j, hj, rfl⟩ := newk k hm
        rw [hγnew j hj] at h1
        rcases newblk j g c hj h1 with h3 | ⟨k0, e0, c0, h3, h4, h5, h6⟩
        · exact I.new g (Nat.le_trans I.size h3)
        · exact I.own k0 e0 g c0 h4 h5 h6
      · obtain ⟨e0, h3, h4, h5, _⟩ := liveOld k e g c hm hk hl h1
        exact I.own k e0 g c h3 h4 h5
  exact ⟨γ', Rel.app R' T I' hres⟩

end
end Rv
