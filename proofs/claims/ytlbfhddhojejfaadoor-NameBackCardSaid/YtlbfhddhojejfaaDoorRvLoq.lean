/- What an operation does hangs on what it looks at alone: the whole operation. -/
import Derived.Test.YtlbfhddhojejfaaDoorRvPar
set_option linter.all false
namespace Rv
open Go

section
variable {R : Type} {r : R} {st st' : St} {te : TypeId → Option TI} {h h' : Heap}

theorem depOk_some {k v dv : Nat} (hd : h.depOk (some (k, v, dv)) = true) : ∃ e, h k = some e := by
  simp only [Heap.depOk] at hd
  split at hd
  · exact ⟨_, by assumption⟩
  · cases hd

theorem at_entry {k v : Nat} {b : Box} (ha : h.at k v = some b) : ∃ e, h k = some e := by
  obtain ⟨e, he, _⟩ := at_some ha
  exact ⟨e, he⟩

theorem cd_deps {bm : List Nat} {cd : CD} {c : Cell} {y : cd.T} {m : Met} (ha : cd.abs h bm c = some (y, m)) : ∀ k, k ∈ m.deps → k ∈ c.keys ∧ ∃ e, h k = some e := by
  intro k hk
  cases cd with
  | sl t =>
    cases c with
    | nilS => simp only [CD.abs, Option.some.injEq, Prod.mk.injEq] at ha; rw [← ha.2] at hk; simp at hk
    | sl d t' xs =>
      simp only [CD.abs] at ha
      obtain ⟨hd, ha⟩ := if_some ha
      split at ha
      · simp only [Option.some.injEq, Prod.mk.injEq] at ha
        rw [← ha.2] at hk
        cases d with
        | none => simp at hk
        | some x =>
          obtain ⟨a, b, c⟩ := x
          have hk : k = a := by simpa using hk
          subst hk
          exact ⟨by simp [Cell.keys], depOk_some hd⟩
      · cases ha
    | own k' v =>
      simp only [CD.abs] at ha
      split at ha
      · rename_i hat
        split at ha
        · simp only [Option.some.injEq, Prod.mk.injEq] at ha
          rw [← ha.2] at hk
          have hk : k = k' := by simpa using hk
          subst hk
          exact ⟨by simp [Cell.keys], at_entry hat⟩
        · cases ha
      · cases ha
    | ownP k' v n =>
      simp only [CD.abs] at ha
      split at ha
      · rename_i hat
        split at ha
        · simp only [Option.some.injEq, Prod.mk.injEq] at ha
          rw [← ha.2] at hk
          have hk : k = k' := by simpa using hk
          subst hk
          exact ⟨by simp [Cell.keys], at_entry hat⟩
        · cases ha
      · cases ha
    | _ => cases ha
  | row e t =>
    cases c with
    | nilS => simp only [CD.abs, Option.some.injEq, Prod.mk.injEq] at ha; rw [← ha.2] at hk; simp at hk
    | own k' v =>
      simp only [CD.abs] at ha
      split at ha
      · obtain ⟨_, ha⟩ := if_some ha
        split at ha
        · simp only [Option.some.injEq, Prod.mk.injEq] at ha
          rw [← ha.2] at hk
          simp at hk
        · cases ha
      · cases ha
    | ownP k' v n =>
      simp only [CD.abs] at ha
      split at ha
      · obtain ⟨_, ha⟩ := if_some ha
        split at ha
        · simp only [Option.some.injEq, Prod.mk.injEq] at ha
          rw [← ha.2] at hk
          simp at hk
        · cases ha
      · cases ha
    | _ => cases ha
  | ptr i off =>
    cases c with
    | ptr k' v o =>
      simp only [CD.abs] at ha
      obtain ⟨_, ha⟩ := if_some ha
      obtain ⟨_, ha⟩ := if_some ha
      split at ha
      · have := (Prod.mk.inj (Option.some.inj ha)).2
        rw [← this] at hk; simp at hk
      · cases ha
    | _ => cases ha
  | any =>
    have : some ((), (⟨[], []⟩ : Met)) = some (y, m) := by cases c <;> exact ha
    have := (Prod.mk.inj (Option.some.inj this)).2
    rw [← this] at hk; simp at hk
  | _ =>
    exfalso
    cases c <;> first
      | (cases ha; done)
      | (simp only [CD.abs] at ha
         obtain ⟨_, ha⟩ := if_some ha
         have := (Prod.mk.inj (Option.some.inj ha)).2
         rw [← this] at hk; simp at hk; done)
      | (have := (Prod.mk.inj (Option.some.inj ha)).2
         rw [← this] at hk; simp at hk; done)

theorem absL_deps {bm : List Nat} : ∀ {l : List CD} {cs : List Cell} {x : TL l} {m : Met}, absL h bm l cs = some (x, m) → ∀ k, k ∈ m.deps → (∃ c, c ∈ cs ∧ k ∈ c.keys) ∧ ∃ e, h k = some e
  | [], [], x, m, ha, k, hk => by
    have := (Prod.mk.inj (Option.some.inj ha)).2
    rw [← this] at hk; simp at hk
  | [], _ :: _, _, _, ha, _, _ => by cases ha
  | _ :: _, [], _, _, ha, _, _ => by cases ha
  | cd :: l, c :: cs, x, m, ha, k, hk => by
    simp only [absL] at ha
    split at ha
    · rename_i y m1 h1
      split at ha
      · rename_i ys m2 h2
        simp only [Option.some.injEq, Prod.mk.injEq] at ha
        rw [← ha.2] at hk
        simp only [List.mem_append] at hk
        rcases hk with hk | hk
        · obtain ⟨g1, g2⟩ := cd_deps h1 k hk
          exact ⟨⟨c, by simp, g1⟩, g2⟩
        · obtain ⟨⟨c', hc, hk'⟩, g2⟩ := absL_deps h2 k hk
          exact ⟨⟨c', by simp [hc], hk'⟩, g2⟩
      · cases ha
    · cases ha

theorem shape_deps {sh : Shape} {l : List V} {a : Abs sh.T} (ha : sh.abs ⟨l, h⟩ = some a) : ∀ k, k ∈ a.m.deps → (∃ e, h k = some e) ∧ (a.bm = [] → ∃ v, v ∈ l ∧ k ∈ v.keys) := by
  intro k hk
  unfold Shape.abs at ha
  split at ha
  · rename_i cs hg
    split at ha
    · rename_i all bm hgb
      split at ha
      · rename_i x m hm
        obtain ⟨_, ha⟩ := if_some ha
        simp only [Option.some.injEq] at ha
        subst ha
        obtain ⟨⟨c, hc, hkc⟩, he⟩ := absL_deps hm k hk
        refine ⟨he, fun hb => ?_⟩
        have hl := (gatherB_sub hgb).2
        simp only at hb
        rw [hb] at hl
        have hbx : sh.boxes = [] := by
          simp only [List.length_nil, Nat.zero_add] at hl
          exact List.length_eq_zero_iff.1 hl.symm
        rw [hbx] at hgb
        simp only [gatherB, Option.some.injEq, Prod.mk.injEq] at hgb
        rw [← hgb.1] at hc
        obtain ⟨v, hv, hkv⟩ := gatherS_mem hg c hc
        exact ⟨v, hv, hkv k hkc⟩
      · cases ha
    · cases ha
  · cases ha

theorem opdsV_mem : ∀ {l : List Operand} {vs : List V}, opdsV st l = some vs → ∀ v, v ∈ vs → ∃ x, x ∈ l ∧ opdV st x = some v
  | [], vs, he, v, hv => by
    simp only [opdsV, Option.some.injEq] at he
    subst he; simp at hv
  | x :: l, vs, he, v, hv => by
    simp only [opdsV] at he
    split at he
    · rename_i u hu
      split at he
      · rename_i l' hl
        simp only [Option.some.injEq] at he
        subst he
        rcases List.mem_cons.1 hv with rfl | hv
        · exact ⟨x, by simp, hu⟩
        · obtain ⟨y, hy, hv'⟩ := opdsV_mem hl v hv
          exact ⟨y, by simp [hy], hv'⟩
      · cases he
    · cases he

theorem mkL_nm {nm nm' : Nm} : ∀ {l : List CD} {y : TL l} {m : Nat}, (∀ i off, CD.ptr i off ∈ l → nm' i = nm i) → (∀ i, m ≤ i → i < (mkL nm l y m).2.2 → nm' i = nm i) → mkL nm' l y m = mkL nm l y m
  | [], _, _, _, _ => rfl
  | c :: l, y, m, hp, hi => by
    have hm : ∀ (nm : Nm), m ≤ (c.mk nm y.1 m).2.2 := fun nm => by cases c <;> simp [CD.mk]
    have hmm : ∀ (l : List CD) (y : TL l) (m : Nat), m ≤ (mkL nm l y m).2.2 := fun l y m => by rw [(mkL_count nm l y m).1]; omega
    have hc : c.mk nm' y.1 m = c.mk nm y.1 m := by
      cases c with
      | row e t =>
        have := hi m (Nat.le_refl _) (by have := hmm l y.2 (m + 1); simp only [mkL, CD.mk]; omega)
        simp only [CD.mk, this]
      | ptr i off => simp only [CD.mk, hp i off (by simp)]
      | _ => rfl
    simp only [mkL, hc]
    rw [mkL_nm (l := l) (y := y.2) (fun i off hm => hp i off (by simp [hm])) fun i h1 h2 => hi i (by have := hm nm; omega) h2]

theorem putBoxes_nm {nm nm' : Nm} : ∀ {bl : List (Option Nat × List CD)} {i : Nat} {cs : List Cell}, (∀ j, i ≤ j → j < i + bl.length → nm' j = nm j) → putBoxes nm' i bl cs = putBoxes nm i bl cs
  | [], _, _, _ => rfl
  | (p, ds) :: bl, i, cs, H => by
    simp only [putBoxes]
    rw [H i (Nat.le_refl _) (by simp), putBoxes_nm fun j h1 h2 => H j (by omega) (by simp; omega)]

theorem pubsOf_eq : ∀ {ks : List Nat}, Agree h h' ks → pubsOf h' ks = pubsOf h ks
  | [], _ => rfl
  | k :: ks, H => by
    unfold pubsOf
    simp only [List.filterMap_cons, H k (by simp)]
    have := pubsOf_eq (ks := ks) (H.sub fun k hk => by simp [hk])
    unfold pubsOf at this
    rw [this]

theorem keepOf_eq : ∀ {ks : List Nat}, Agree h h' ks → keepOf h' ks = keepOf h ks
  | [], _ => rfl
  | k :: ks, H => by
    unfold keepOf
    simp only [List.filterMap_cons, H k (by simp)]
    have := keepOf_eq (ks := ks) (H.sub fun k hk => by simp [hk])
    unfold keepOf at this
    rw [this]

theorem goneOf_eq : ∀ {ks : List Nat}, Agree h h' ks → goneOf h' ks = goneOf h ks
  | [], _ => rfl
  | k :: ks, H => by
    unfold goneOf
    simp only [List.map_cons, next_eq (H k (by simp))]
    have := goneOf_eq (ks := ks) (H.sub fun k hk => by simp [hk])
    unfold goneOf at this
    rw [this]

/-- A call's updates reach all that it was lent. -/
theorem install_ups {d : Nat} {sp : Spec} {a : Abs sp.a.T} {y : sp.r.T} (hnb : sp.r.boxes.length = a.bm.length) : (∀ k, k ∈ a.keys → k ∈ (install st d sp a y).up.map (·.1)) ∧ (∀ k, k ∈ newKeys d sp.r → k ∈ (install st d sp a y).up.map (·.1)) ∧
    (a.keys ≠ [] → ∀ k, k ∈ a.m.deps → (∃ e, st.h k = some e) → k ∈ (install st d sp a y).up.map (·.1)) := by
  unfold install
  simp only [List.map_append, List.mem_append]
  refine ⟨fun k hk => ?_, fun k hk => ?_, fun hne k hk he => ?_⟩
  · rcases List.mem_append.1 hk with hk | hk
    · right; right; right; left
      show k ∈ (putBoxes (nmI st.h d a.bm) 0 sp.r.boxes _).map (·.1)
      rw [putBoxes_keys]
      obtain ⟨i, hi⟩ := List.mem_iff_getElem?.1 hk
      have hlt := (List.getElem?_eq_some_iff.1 hi).1
      refine List.mem_map.2 ⟨i, by simp; omega, ?_⟩
      simp only [Nat.zero_add, nmI, hi]
    · right; right; left
      exact List.mem_map.2 ⟨_, List.mem_map.2 ⟨k, hk, rfl⟩, rfl⟩
  · right; right; right; right
    show k ∈ (mkL (nmI st.h d a.bm) sp.r.all y sp.r.boxes.length).2.1.map (·.1)
    rw [(mkL_count _ _ _ _).2.1]
    obtain ⟨j, hj, rfl⟩ := List.mem_map.1 hk
    refine List.mem_map.2 ⟨j, hj, ?_⟩
    simp only [nmI, List.getElem?_eq_none (show a.bm.length ≤ sp.r.boxes.length + j by omega), nmP]
  · left
    rw [if_neg (by simpa using hne)]
    obtain ⟨e, he⟩ := he
    exact List.mem_map.2 ⟨(k, e), List.mem_filterMap.2 ⟨k, hk, by rw [he]; rfl⟩, rfl⟩

theorem install_eq {d : Nat} {sp : Spec} {a : Abs sp.a.T} {y : sp.r.T} (hpl : sp.r.okRes a.bm.length = true) (hd : Agree st.h st'.h a.m.deps) (hk : Agree st.h st'.h a.keys) (hn : Agree st.h st'.h (newKeys d sp.r)) : install st' d sp a y = install st d sp a y := by
  unfold Shape.okRes at hpl
  simp only [Bool.and_eq_true, decide_eq_true_eq] at hpl
  obtain ⟨⟨⟨⟨hnb, hpin⟩, hidx⟩, hptr⟩, hisv⟩ := hpl
  have nB : ∀ i, i < a.bm.length → nmI st'.h d a.bm i = nmI st.h d a.bm i := fun i hi => by
    simp only [nmI, List.getElem?_eq_getElem hi]
    rw [hk a.bm[i] (List.mem_append_left _ (List.getElem_mem hi))]
  have nR : ∀ i, a.bm.length ≤ i → i < a.bm.length + (sp.r.all.filter CD.isRow).length → nmI st'.h d a.bm i = nmI st.h d a.bm i := fun i h1 h2 => by
    simp only [nmI, List.getElem?_eq_none h1, nmP]
    rw [next_eq (hn (16 * d + i) (List.mem_map.2 ⟨i - sp.r.boxes.length, by simp; omega, by omega⟩))]
  have hml : mkL (nmI st'.h d a.bm) sp.r.all y sp.r.boxes.length = mkL (nmI st.h d a.bm) sp.r.all y sp.r.boxes.length := by
    refine mkL_nm (fun i off hm => nB i ?_) fun i h1 h2 => nR i (by omega) ?_
    · have := List.all_eq_true.1 hptr _ hm
      simpa [CD.ptrB] using this
    · rw [(mkL_count _ _ _ _).1] at h2
      omega
  have hma : sp.r.mkAll (nmI st'.h d a.bm) sp.r.slots.length y = sp.r.mkAll (nmI st.h d a.bm) sp.r.slots.length y := by
    have hpb : ∀ cs, putBoxes (nmI st'.h d a.bm) 0 sp.r.boxes cs = putBoxes (nmI st.h d a.bm) 0 sp.r.boxes cs := fun cs => putBoxes_nm fun j _ hj => nB j (by omega)
    unfold Shape.mkAll
    rw [hml]
    simp only [hpb]
  unfold install
  rw [hma, pubsOf_eq hd, keepOf_eq hd, goneOf_eq (hk.sub fun k hk => List.mem_append_right _ hk)]

theorem evalF_loc {E : Env R} {o : Oper} {K : Dl → Option R} (he : evalF E st o K = some r) :
    ∃ x, K x = some r ∧ ∀ (st' : St) (K' : Dl → Option R), Alikes st st' o.op.operands.toList → Agree st.h st'.h (x.up.map (·.1)) → evalF E st' o K' = K' x := by
  unfold evalF at he
  split at he
  · rename_i t ho
    split at he
    · rename_i ti hti
      refine ⟨_, he, fun st' K' A U => ?_⟩
      unfold evalF
      simp only [ho, hti, newBox]
      rw [next_eq (U (dk o.dst) (by simp [newBox]))]
    · cases he
  · rename_i t x ho
    obtain ⟨v, hv, he⟩ := orNone_some he
    refine ⟨_, he, fun st' K' A U => ?_⟩
    unfold evalF
    simp only [ho]
    rw [A.opd (by simp [ho, Op.operands]), hv]
    simp only [orNone]
    rw [next_eq (U (dk o.dst) (by simp))]
  · rename_i t n parts ho
    split at he
    · cases he
    · rename_i e hel
      split at he
      · rename_i ti ps hti hp
        split at he
        · rename_i t' ht
          split at he
          · rename_i z hz
            obtain ⟨hn, he⟩ := if_some he
            obtain ⟨xs, hx, he⟩ := orNone_some he
            refine ⟨_, he, fun st' K' A U => ?_⟩
            unfold evalF
            simp only [ho, hel, hti]
            rw [partsOf_eq (A.sub fun x hx => by simpa [ho, Op.operands] using hx), hp]
            simp only [ht, hz, if_pos hn, hx, orNone, newBox]
            rw [next_eq (U (dk o.dst) (by simp [newBox]))]
          · cases he
        · cases he
      · cases he
  · rename_i t x v ho
    split at he
    · rename_i hd
      obtain ⟨xv, hx, he⟩ := orNone_some he
      obtain ⟨vv, hv, he⟩ := orNone_some he
      obtain ⟨up, hk, hok⟩ := storeK_takes he
      refine ⟨_, hk, fun st' K' A U => ?_⟩
      unfold evalF
      simp only [ho, hd]
      rw [A.opd (x := x) (by simp [ho, Op.operands]), A.opd (x := v) (by simp [ho, Op.operands]), hx, hv]
      simp only [orNone]
      rw [storeK_eq (A.keys (x := x) (by simp [ho, Op.operands]) hx)]
      exact hok _
    · cases he
  · rename_i args argTypes ho
    split at he
    · rename_i s x sT xT ha hat
      obtain ⟨hst, he1⟩ := if_some he
      subst hst
      obtain ⟨sv, hs, he⟩ := orNone_some he1
      obtain ⟨xv, hx, he⟩ := orNone_some he
      obtain ⟨y, hk, hok, hdk⟩ := appendK_takes he
      have ms : s ∈ o.op.operands.toList := by simp [ho, Op.operands, Call.operands, ← Array.mem_toList_iff, ha]
      have mx : x ∈ o.op.operands.toList := by simp [ho, Op.operands, Call.operands, ← Array.mem_toList_iff, ha]
      refine ⟨_, hk, fun st' K' A U => ?_⟩
      unfold evalF
      simp only [ho, ha, hat, if_true]
      rw [A.opd ms, A.opd mx, hs, hx]
      simp only [orNone]
      rw [appendK_eq (A.keys ms hs) (A.keys mx hx) (U _ hdk)]
      exact hok _
    · cases he
  · rename_i c args argTypes ho
    split at he
    · rename_i f cs vs hc hv
      split at he
      · rename_i sp hsp
        split at he
        · rename_i ab hab
          obtain ⟨hok, he⟩ := if_some he
          cases hy : sp.f ab.x with
          | none => rw [hy] at he; cases he
          | some y =>
            rw [hy] at he
            refine ⟨_, he, fun st' K' A U => ?_⟩
            have hok' := hok
            unfold callOk at hok
            simp only [Bool.and_eq_true, decide_eq_true_eq] at hok
            obtain ⟨⟨⟨hlen, hpl⟩, hb0⟩, hnk⟩ := hok
            have hbl : ab.bm.length = sp.a.boxes.length := by
              unfold Shape.abs at hab
              split at hab
              · split at hab
                · rename_i hgb
                  split at hab
                  · obtain ⟨_, hab⟩ := if_some hab
                    simp only [Option.some.injEq] at hab
                    subst hab
                    simpa using (gatherB_sub hgb).2
                  · cases hab
                · cases hab
              · cases hab
            rw [← hbl] at hpl
            have hnb : sp.r.boxes.length = ab.bm.length := by
              unfold Shape.okRes at hpl
              simp only [Bool.and_eq_true, decide_eq_true_eq] at hpl
              exact hpl.1.1.1.1
            obtain ⟨u1, u2, u3⟩ := install_ups (st := st) (d := o.dst.getD 0) (y := y) hnb
            have mc : ∀ t, c = .tmp t → Operand.tmp t ∈ o.op.operands.toList := fun t e => by simp [ho, Op.operands, Call.operands, e]
            have As : Alikes st st' args.toList := A.sub fun x hx => by simp only [ho, Op.operands, Call.operands]; simp at hx ⊢; exact .inr hx
            have Hkeys : Agree st.h st'.h ab.keys := U.sub u1
            have Hdeps : Agree st.h st'.h ab.m.deps := fun k hk => by
              obtain ⟨he', hv'⟩ := shape_deps hab k hk
              by_cases hne : ab.keys = []
              · have hbm : ab.bm = [] := by
                  unfold Abs.keys at hne
                  exact (List.append_eq_nil_iff.1 hne).1
                obtain ⟨v, hvm, hkv⟩ := hv' hbm
                rcases List.mem_append.1 hvm with hvm | hvm
                · obtain ⟨x, hx, hxv⟩ := opdsV_mem hv v hvm
                  exact As.keysV hx hxv k hkv
                · obtain ⟨x, hx, rfl⟩ := List.mem_map.1 hvm
                  unfold calleeOf at hc
                  split at hc
                  · simp only [Option.some.injEq, Prod.mk.injEq] at hc
                    rw [← hc.2] at hx; simp at hx
                  · rename_i t
                    split at hc
                    · rename_i f' cs' hs
                      simp only [Option.some.injEq, Prod.mk.injEq] at hc
                      have ho' : opdV st (.tmp t) = some (.clo f' cs') := by simp only [opdV, hs]
                      refine A.keysV (mc t rfl) ho' k ?_
                      simp only [V.keys, V1.keys, V1.cells, List.flatMap_cons, List.flatMap_nil, List.append_nil] at hkv ⊢
                      exact List.mem_flatMap.2 ⟨x, by rw [hc.2]; exact hx, hkv⟩
                    · cases hc
                  · cases hc
              · exact U k (u3 hne k hk he')
            have Hall : Agree st.h st'.h (ab.keys ++ ab.m.deps) := fun k hk => (List.mem_append.1 hk).elim (Hkeys k) (Hdeps k)
            have hok2 : callOk st'.h (o.dst.getD 0) sp ab (vs.length + cs.length) = true := by
              rw [← hok']
              unfold callOk
              congr 2
              have : ∀ (l : List Nat), (∀ k, k ∈ l → k ∈ ab.bm) → l.all (isBox0 st'.h) = l.all (isBox0 st.h) := by
                intro l
                induction l with
                | nil => intro _; rfl
                | cons k l ih =>
                  intro hl
                  simp only [List.all_cons]
                  rw [ih fun k hk => hl k (by simp [hk])]
                  unfold isBox0
                  rw [Hkeys k (List.mem_append_left _ (hl k (by simp)))]
              rw [this ab.bm fun k hk => hk]
            unfold evalF
            simp only [ho]
            rw [calleeOf_eq fun t e => A.slot t (mc t e), hc, opdsV_eq As, hv]
            simp only [hsp]
            rw [shape_abs_of hab Hall]
            simp only [if_pos hok2, hy, Option.bind_some]
            rw [install_eq hpl Hdeps Hkeys (U.sub u2)]
        · cases he
      · cases he
    · cases he
  · rename_i t g ho
    split at he
    · rename_i F hF
      refine ⟨_, he, fun st' K' A U => ?_⟩
      unfold evalF
      simp only [ho, hF]
    · cases he
  · rename_i t x k ok ho
    split at he
    · rename_i g kc hx hk
      split at he
      · rename_i F hF
        obtain ⟨p, hp, he⟩ := orNone_some he
        refine ⟨_, he, fun st' K' A U => ?_⟩
        unfold evalF
        simp only [ho]
        rw [A.opd (x := x) (by simp [ho, Op.operands]), A.opd (x := k) (by simp [ho, Op.operands]), hx, hk]
        simp only [hF, hp, orNone]
      · cases he
    · cases he
  · rename_i src dst x ho
    split at he
    · rename_i hsc
      obtain ⟨v, hv, he⟩ := orNone_some he
      obtain ⟨xs, hxs, he⟩ := orNone_some he
      refine ⟨_, he, fun st' K' A U => ?_⟩
      have mx : x ∈ o.op.operands.toList := by simp [ho, Op.operands]
      unfold evalF
      simp only [ho, if_pos hsc]
      rw [A.opd mx, hv]
      simp only [orNone]
      rw [moreOf_eq (A.keys mx hv), hxs]
    · rename_i hsc
      split at he
      · rename_i hbc
        split at he
        · rename_i s hx
          refine ⟨_, he, fun st' K' A U => ?_⟩
          have mx : x ∈ o.op.operands.toList := by simp [ho, Op.operands]
          unfold evalF
          simp only [ho, if_neg hsc, if_pos hbc]
          rw [A.opd mx, hx]
        · cases he
      rename_i hbc
      obtain ⟨y, hk, hok⟩ := vop_takes he
      refine ⟨_, hk, fun st' K' A U => ?_⟩
      have mx : x ∈ o.op.operands.toList := by simp [ho, Op.operands]
      unfold evalF
      simp only [ho, if_neg hsc, if_neg hbc]
      rw [vop_eq (by rw [← ho]; exact A)]
      have : opdKeys st' [x] = opdKeys st [x] := by simp only [opdKeys, List.flatMap_cons, List.flatMap_nil, A.opdV mx]
      rw [this]
      exact hok _
  · rename_i op h1 h2 h3 h4 h5 h6 h8 h9 h7
    obtain ⟨y, hk, hok⟩ := vop_takes he
    refine ⟨_, hk, fun st' K' A U => ?_⟩
    unfold evalF
    split
    · rename_i e; exact absurd e (h1 _)
    · rename_i e; exact absurd e (h2 _ _)
    · rename_i e; exact absurd e (h3 _ _ _)
    · rename_i e; exact absurd e (h4 _ _ _)
    · rename_i e; exact absurd e (h5 _ _)
    · rename_i e; exact absurd e (h6 _ _ _)
    · rename_i e; exact absurd e (h8 _ _)
    · rename_i e; exact absurd e (h9 _ _ _ _)
    · rename_i e; exact absurd e (h7 _ _ _)
    · rw [vop_eq A]
      have hko : opdKeys st' o.op.operands.toList = opdKeys st o.op.operands.toList := by
        have : ∀ (l : List Operand), (∀ x, x ∈ l → opdV st' x = opdV st x) → opdKeys st' l = opdKeys st l := by
          intro l
          induction l with
          | nil => intro _; rfl
          | cons x l ih =>
            intro hh
            unfold opdKeys at ih ⊢
            simp only [List.flatMap_cons]
            rw [hh x (by simp), ih fun y hy => hh y (by simp [hy])]
        exact this _ fun x hx => A.opdV hx
      rw [hko]
      exact hok _

end
end Rv
