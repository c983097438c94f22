/- What an operation does hangs on what it looks at alone. -/
import Derived.Test.YtlbfhddhojejfaaDoorRvO
set_option linter.all false
namespace Rv
open Go

def Agree (h h' : Heap) (ks : List Nat) : Prop := ∀ k, k ∈ ks → h' k = h k

theorem Agree.sub {h h' : Heap} {ks ls : List Nat} (H : Agree h h' ks) (hs : ∀ k, k ∈ ls → k ∈ ks) : Agree h h' ls := fun k hk => H k (hs k hk)

section
variable {R : Type} {r : R} {h h' : Heap} {st st' : St} {te : TypeId → Option TI}

theorem at_eq {k : Nat} (e : h' k = h k) (v : Nat) : h'.at k v = h.at k v := by simp [Heap.at, e]
theorem next_eq {k : Nat} (e : h' k = h k) : h'.next k = h.next k := by simp [Heap.next, e]
theorem rowLen_eq {k : Nat} (e : h' k = h k) (v : Nat) : rowLen h' k v = rowLen h k v := by simp [rowLen, at_eq e]
theorem depOk_eq {d : Dep} (e : ∀ x, d = some x → h' x.1 = h x.1) : h'.depOk d = h.depOk d := by
  cases d with
  | none => rfl
  | some x => obtain ⟨k, v, dv⟩ := x; simp [Heap.depOk, e _ rfl]
theorem depOk_sl {d : Dep} {t : Ty} {xs : List t.D} (H : Agree h h' (Cell.sl d t xs).keys) : h'.depOk d = h.depOk d := depOk_eq fun x e => H _ (by subst e; simp [Cell.keys])
theorem depOk_slp {d : Dep} {t : Ty} {xs : List t.D} {i off : Nat} (H : Agree h h' (Cell.slp d t xs i off).keys) : h'.depOk d = h.depOk d := depOk_eq fun x e => H _ (by subst e; simp [Cell.keys])
theorem castB_eq {t : Ty} {b : Box} : castB h' t b = castB h t b := by cases b <;> rfl
theorem rowOf_eq {c : Cell} (H : Agree h h' c.keys) : rowOf h' c = rowOf h c := by
  cases c with
  | sl d t xs => simp only [rowOf, depOk_sl H]
  | own k v => simp only [rowOf]; rw [at_eq (H k (by simp [Cell.keys]))]
  | ownP k v n => simp only [rowOf]; rw [at_eq (H k (by simp [Cell.keys]))]
  | _ => rfl
theorem depOf_eq {c : Cell} (H : Agree h h' c.keys) : depOf h' c = depOf h c := by
  cases c with
  | own k v => simp only [depOf]; rw [H k (by simp [Cell.keys])]
  | ownP k v n => simp only [depOf]; rw [H k (by simp [Cell.keys])]
  | _ => rfl

theorem keys_c {c : Cell} : (V1.c c).keys = c.keys := by simp [V1.keys, V1.cells]

theorem loadK_eq {t : TypeId} {x : V1} {K : V1 → Option R} (H : Agree st.h st'.h x.keys) : loadK te st' t x K = loadK te st t x K := by
  cases x with
  | agg cs => rfl
  | c c =>
    rw [keys_c] at H
    cases hte : te t with
    | none => cases c <;> simp only [loadK, hte]
    | some ti =>
      cases c with
      | ptr k v off => simp only [loadK, hte, at_eq (H k (by simp [Cell.keys]))]
      | elt k v i off => simp only [loadK, hte, at_eq (H k (by simp [Cell.keys]))]
      | slp d t xs i off => simp only [loadK, hte, depOk_slp H]
      | pel k v base n i => simp only [loadK, hte, at_eq (H k (by simp [Cell.keys]))]
      | _ => rfl

theorem indexAddrK_eq {es ar : Option Nat} {x i : V1} {K : V1 → Option R} (H : Agree st.h st'.h x.keys) : indexAddrK st' es ar x i K = indexAddrK st es ar x i K := by
  cases x with
  | agg cs => rfl
  | c c =>
    rw [keys_c] at H
    cases i with
    | agg cs => cases c <;> rfl
    | c j =>
      cases j with
      | int ik n =>
        cases c with
        | own k v => simp only [indexAddrK, rowLen_eq (H k (by simp [Cell.keys]))]
        | ownP k v n => simp only [indexAddrK, rowLen_eq (H k (by simp [Cell.keys]))]
        | sl d t xs => simp only [indexAddrK, depOk_sl H]
        | ptr k v off => simp only [indexAddrK, at_eq (H k (by simp [Cell.keys]))]
        | _ => rfl
      | _ => cases c <;> rfl

theorem sliceK_eq {str : Bool} {es : Option Nat} {x : V1} {lo hi mx : Option V1} {K : V1 → Option R} (H : Agree st.h st'.h x.keys) : sliceK st' str es x lo hi mx K = sliceK st str es x lo hi mx K := by
  cases x with
  | agg cs => rfl
  | c c =>
    rw [keys_c] at H
    have h1 := rowOf_eq H
    have h2 := depOf_eq H
    cases c with
    | own k v => simp only [sliceK, rowLen_eq (H k (by simp [Cell.keys])), h1, h2]
    | ownP k v n => simp only [sliceK, rowLen_eq (H k (by simp [Cell.keys])), h1, h2]
    | sl d t xs => simp only [sliceK, depOk_sl H]
    | _ => rfl

theorem lenK_eq {str : Bool} {es : Option Nat} {x : V1} {K : Nat → Option R} (H : Agree st.h st'.h x.keys) : lenK st' str es x K = lenK st str es x K := by
  cases x with
  | agg cs => rfl
  | c c =>
    rw [keys_c] at H
    cases c with
    | own k v => simp only [lenK, rowLen_eq (H k (by simp [Cell.keys]))]
    | ownP k v n => simp only [lenK, rowLen_eq (H k (by simp [Cell.keys]))]
    | sl d t xs => simp only [lenK, depOk_sl H]
    | _ => rfl

theorem storeK_eq {t : TypeId} {x v : V1} {K : List (Nat × En) → Option R} (H : Agree st.h st'.h x.keys) : storeK te st' t x v K = storeK te st t x v K := by
  cases x with
  | agg cs => rfl
  | c c =>
    rw [keys_c] at H
    cases hte : te t with
    | none => cases c <;> simp only [storeK, hte]
    | some ti =>
      cases c with
      | ptr k v off => simp only [storeK, hte, H k (by simp [Cell.keys])]
      | pel k v base n i => simp only [storeK, hte, H k (by simp [Cell.keys])]
      | elt k v i off => simp only [storeK, hte, H k (by simp [Cell.keys])]
      | _ => rfl

theorem baseOf_eq {e : TypeId} {t : Ty} {x : V1} (H : Agree h h' x.keys) : baseOf h' e t x = baseOf h e t x := by
  cases x with
  | agg cs => rfl
  | c c =>
    rw [keys_c] at H
    cases c with
    | own k v => simp only [baseOf]; rw [at_eq (H k (by simp [Cell.keys]))]
    | ownP k v n => simp only [baseOf]; rw [at_eq (H k (by simp [Cell.keys]))]
    | _ => rfl

theorem moreOf_eq {t : Ty} {x : V1} (H : Agree h h' x.keys) : moreOf h' t x = moreOf h t x := by
  cases x with
  | agg cs => rfl
  | c c =>
    rw [keys_c] at H
    have h1 := rowOf_eq H
    cases c <;> first | rfl | (simp only [moreOf]; rw [h1])

theorem baseOf_key {e : TypeId} {t : Ty} {x : V1} {xs : List t.D} {k : Nat} (hb : baseOf h e t x = some (xs, some k)) : k ∈ x.keys := by
  unfold baseOf at hb
  split at hb
  · simp at hb
  · rename_i k' v
    split at hb
    · obtain ⟨_, hb'⟩ := if_some hb
      simp only [Option.map_eq_some_iff] at hb'
      obtain ⟨a, _, ha⟩ := hb'
      simp only [Prod.mk.injEq, Option.some.injEq] at ha
      rw [keys_c]; simp [Cell.keys, ha.2]
    · cases hb
  · rename_i k' v n
    split at hb
    · obtain ⟨_, hb'⟩ := if_some hb
      simp only [Option.map_eq_some_iff] at hb'
      obtain ⟨a, _, ha⟩ := hb'
      simp only [Prod.mk.injEq, Option.some.injEq] at ha
      rw [keys_c]; simp [Cell.keys, ha.2]
    · cases hb
  · cases hb

theorem appendK_eq {d : Option Nat} {sT : TypeId} {s x : V1} {K : Dl → Option R} (Hs : Agree st.h st'.h s.keys) (Hx : Agree st.h st'.h x.keys) (hd : st'.h (dk d) = st.h (dk d)) : appendK te st' d sT s x K = appendK te st d sT s x K := by
  unfold appendK
  split
  · rfl
  · split
    · rfl
    · split
      · rfl
      · rename_i e _ ti _ t _
        rw [baseOf_eq Hs, moreOf_eq Hx, next_eq hd]
        split
        · rename_i xs k ys hb _
          cases k with
          | none => rfl
          | some k => simp only [next_eq (Hs k (baseOf_key hb))]
        · rfl

theorem abs_cd_of {bm : List Nat} {cd : CD} {c : Cell} {y : cd.T} {m : Met} (ha : cd.abs h bm c = some (y, m)) (H : Agree h h' (bm ++ (m.rows.filterMap id ++ m.deps))) : cd.abs h' bm c = some (y, m) := by
  cases cd with
  | sl t =>
    cases c with
    | sl d t' xs =>
      simp only [CD.abs] at ha ⊢
      obtain ⟨hd, ha1⟩ := if_some ha
      have hk : ∀ x, d = some x → h' x.1 = h x.1 := fun x e => H _ (by
        split at ha1
        · simp only [Option.some.injEq, Prod.mk.injEq] at ha1
          rw [← ha1.2, e]; simp
        · cases ha1)
      rw [depOk_eq hk]; exact ha
    | own k v =>
      simp only [CD.abs] at ha ⊢
      have hk : h' k = h k := H _ (by
        split at ha
        · split at ha
          · simp only [Option.some.injEq, Prod.mk.injEq] at ha
            rw [← ha.2]; simp
          · cases ha
        · cases ha)
      rw [at_eq hk]; exact ha
    | ownP k v n =>
      simp only [CD.abs] at ha ⊢
      have hk : h' k = h k := H _ (by
        split at ha
        · split at ha
          · simp only [Option.some.injEq, Prod.mk.injEq] at ha
            rw [← ha.2]; simp
          · cases ha
        · cases ha)
      rw [at_eq hk]; exact ha
    | _ => exact ha
  | row e t =>
    cases c with
    | own k v =>
      simp only [CD.abs] at ha ⊢
      have hk : h' k = h k := H _ (by
        split at ha
        · obtain ⟨_, ha⟩ := if_some ha
          split at ha
          · simp only [Option.some.injEq, Prod.mk.injEq] at ha
            rw [← ha.2]; simp
          · cases ha
        · cases ha)
      rw [at_eq hk]; exact ha
    | ownP k v n =>
      simp only [CD.abs] at ha ⊢
      have hk : h' k = h k := H _ (by
        split at ha
        · obtain ⟨_, ha⟩ := if_some ha
          split at ha
          · simp only [Option.some.injEq, Prod.mk.injEq] at ha
            rw [← ha.2]; simp
          · cases ha
        · cases ha)
      rw [at_eq hk]; exact ha
    | _ => exact ha
  | ptr i off =>
    cases c with
    | ptr k v o =>
      simp only [CD.abs] at ha ⊢
      obtain ⟨hb, _⟩ := if_some ha
      have hk : h' k = h k := H _ (List.mem_append_left _ (List.mem_of_getElem? hb))
      rw [at_eq hk]; exact ha
    | _ => exact ha
  | _ => cases c <;> exact ha

theorem absL_of {bm : List Nat} : ∀ {l : List CD} {cs : List Cell} {y : TL l} {m : Met}, absL h bm l cs = some (y, m) → Agree h h' (bm ++ (m.rows.filterMap id ++ m.deps)) → absL h' bm l cs = some (y, m)
  | [], [], _, _, ha, _ => ha
  | [], _ :: _, _, _, ha, _ => by cases ha
  | _ :: _, [], _, _, ha, _ => by cases ha
  | cd :: l, c :: cs, y, m, ha, H => by
    simp only [absL] at ha ⊢
    split at ha
    · rename_i y1 m1 h1
      split at ha
      · rename_i y2 m2 h2
        simp only [Option.some.injEq, Prod.mk.injEq] at ha
        obtain ⟨e1, e2⟩ := ha
        subst e2
        rw [abs_cd_of h1 (H.sub fun k hk => ?_), absL_of h2 (H.sub fun k hk => ?_)]
        · simp only [e1]
        · simp only [List.filterMap_append, List.mem_append] at hk ⊢
          rcases hk with hk | hk | hk
          · exact .inl hk
          · exact .inr (.inl (.inr hk))
          · exact .inr (.inr (.inr hk))
        · simp only [List.filterMap_append, List.mem_append] at hk ⊢
          rcases hk with hk | hk | hk
          · exact .inl hk
          · exact .inr (.inl (.inl hk))
          · exact .inr (.inr (.inl hk))
      · cases ha
    · cases ha

theorem gatherB_sub : ∀ {bl : List (Option Nat × List CD)} {cs all : List Cell} {bm0 bm : List Nat}, gatherB h bl cs bm0 = some (all, bm) → (∀ k, k ∈ bm0 → k ∈ bm) ∧ bm.length = bm0.length + bl.length
  | [], cs, all, bm0, bm, he => by
    simp only [gatherB, Option.some.injEq, Prod.mk.injEq] at he
    obtain ⟨_, rfl⟩ := he
    exact ⟨fun k hk => hk, by simp⟩
  | (none, ds) :: bl, cs, all, bm0, bm, he => by
    simp only [gatherB] at he
    split at he
    · obtain ⟨_, he⟩ := if_some he
      obtain ⟨g1, g2⟩ := gatherB_sub he
      exact ⟨fun k hk => g1 k (List.mem_append_left _ hk), by simp at g2 ⊢; omega⟩
    · cases he
  | (some p, ds) :: bl, cs, all, bm0, bm, he => by
    simp only [gatherB] at he
    split at he
    · split at he
      · obtain ⟨_, he⟩ := if_some he
        obtain ⟨g1, g2⟩ := gatherB_sub he
        exact ⟨fun k hk => g1 k (List.mem_append_left _ hk), by simp at g2 ⊢; omega⟩
      · cases he
    · cases he

theorem gatherB_of : ∀ {bl : List (Option Nat × List CD)} {cs all : List Cell} {bm0 bm : List Nat}, gatherB h bl cs bm0 = some (all, bm) → Agree h h' bm → gatherB h' bl cs bm0 = some (all, bm)
  | [], cs, all, bm0, bm, he, _ => he
  | (none, ds) :: bl, cs, all, bm0, bm, he, H => by
    simp only [gatherB] at he ⊢
    have hk : h' (nmJ bm0.length).1 = h (nmJ bm0.length).1 := H _ (by
      split at he
      · obtain ⟨_, he⟩ := if_some he
        exact (gatherB_sub he).1 _ (by simp)
      · cases he)
    rw [at_eq hk]
    split at he
    · obtain ⟨hl, he⟩ := if_some he
      rw [if_pos hl]
      exact gatherB_of he H
    · cases he
  | (some p, ds) :: bl, cs, all, bm0, bm, he, H => by
    simp only [gatherB] at he ⊢
    split at he
    · rename_i k v o hp
      have hk : h' k = h k := H _ (by
        split at he
        · obtain ⟨_, he⟩ := if_some he
          exact (gatherB_sub he).1 _ (by simp)
        · cases he)
      rw [at_eq hk]
      split at he
      · obtain ⟨hl, he⟩ := if_some he
        rw [if_pos hl]
        exact gatherB_of he H
      · cases he
    · cases he

theorem shape_abs_of {sh : Shape} {l : List V} {a : Abs sh.T} (ha : sh.abs ⟨l, h⟩ = some a) (H : Agree h h' (a.keys ++ a.m.deps)) : sh.abs ⟨l, h'⟩ = some a := by
  unfold Shape.abs at ha ⊢
  split at ha
  · rename_i cs hg
    rw [show gatherS (St.mk l h').s sh.slots = some cs from hg]
    split at ha
    · rename_i all bm hgb
      split at ha
      · rename_i x m hm
        obtain ⟨hc, ha⟩ := if_some ha
        simp only [Option.some.injEq] at ha
        subst ha
        have Hb : Agree h h' bm := H.sub fun k hk => by simp [Abs.keys, hk]
        have Hm : Agree h h' (bm ++ (m.rows.filterMap id ++ m.deps)) := H.sub fun k hk => by
          simp only [Abs.keys, List.mem_append] at hk ⊢
          rcases hk with hk | hk | hk
          · exact .inl (.inl hk)
          · exact .inl (.inr hk)
          · exact .inr hk
        simp only [gatherB_of hgb Hb, absL_of hm Hm, if_pos hc]
      · cases ha
    · cases ha
  · cases ha

theorem gatherS_mem {l : List V} : ∀ {sl : List (Nat × SD)} {cs : List Cell}, gatherS l sl = some cs → ∀ c, c ∈ cs → ∃ v, v ∈ l ∧ ∀ k, k ∈ c.keys → k ∈ v.keys
  | [], cs, he, c, hc => by
    simp only [gatherS, Option.some.injEq] at he
    subst he; simp at hc
  | (i, .c d) :: sl, cs, he, c, hc => by
    simp only [gatherS] at he
    split at he
    · rename_i x hx
      split at he
      · rename_i cs' h1
        simp only [Option.some.injEq] at he
        subst he
        rcases List.mem_cons.1 hc with rfl | hc
        · exact ⟨_, List.mem_of_getElem? hx, fun k hk => by simp [V.keys, V1.keys, V1.cells, hk]⟩
        · exact gatherS_mem h1 c hc
      · cases he
    · cases he
  | (i, .agg d) :: sl, cs, he, c, hc => by
    simp only [gatherS] at he
    split at he
    · rename_i xs hx
      obtain ⟨_, he'⟩ := if_some he
      split at he'
      · rename_i cs' h1
        simp only [Option.some.injEq] at he'
        subst he'
        rcases List.mem_append.1 hc with hc | hc
        · exact ⟨_, List.mem_of_getElem? hx, fun k hk => List.mem_flatMap.2 ⟨c, hc, hk⟩⟩
        · exact gatherS_mem h1 c hc
      · cases he'
    · cases he
  | (i, .clo f d) :: sl, cs, he, c, hc => by
    simp only [gatherS] at he
    split at he
    · rename_i f' xs hx
      obtain ⟨_, he'⟩ := if_some he
      split at he'
      · rename_i cs' h1
        simp only [Option.some.injEq] at he'
        subst he'
        rcases List.mem_append.1 hc with hc | hc
        · exact ⟨_, List.mem_of_getElem? hx, fun k hk => List.mem_flatMap.2 ⟨c, hc, hk⟩⟩
        · exact gatherS_mem h1 c hc
      · cases he'
    · cases he

theorem opdV_of {x : Operand} {v : V1} (h : opd st x = some v) : opdV st x = some (.v v) := by
  cases x with
  | tmp t =>
    simp only [opd] at h
    simp only [opdV]
    split at h
    · cases h
    · rename_i y hy hs
      simp only [Option.some.injEq] at h
      subst h
      rw [hs]
      split <;> first | rfl | (rename_i e; cases e; done) | (rename_i e; simp at e; done) | skip
      all_goals simp_all
    · cases h
  | _ => simp only [opdV, h]

/-- Two states that an operation cannot tell apart, but for what it sets. -/
structure Alikes (st st' : St) (l : List Operand) : Prop where
  slot : ∀ t, Operand.tmp t ∈ l → st'.s[t]? = st.s[t]?
  heap : Agree st.h st'.h (opdKeys st l)

theorem Alikes.opd {l : List Operand} (A : Alikes st st' l) {x : Operand} (hx : x ∈ l) : Rv.opd st' x = Rv.opd st x := by
  cases x with
  | tmp t => simp only [Rv.opd, A.slot t hx]
  | _ => rfl

theorem Alikes.keysV {l : List Operand} (A : Alikes st st' l) {x : Operand} (hx : x ∈ l) {v : V} (hv : Rv.opdV st x = some v) : Agree st.h st'.h v.keys :=
  A.heap.sub fun k hk => List.mem_flatMap.2 ⟨x, hx, by rw [hv]; exact hk⟩

theorem Alikes.keys {l : List Operand} (A : Alikes st st' l) {x : Operand} (hx : x ∈ l) {v : V1} (hv : Rv.opd st x = some v) : Agree st.h st'.h v.keys := A.keysV hx (opdV_of hv)

theorem Alikes.sub {l m : List Operand} (A : Alikes st st' l) (hs : ∀ x, x ∈ m → x ∈ l) : Alikes st st' m :=
  ⟨fun t ht => A.slot t (hs _ ht), A.heap.sub fun k hk => by
    obtain ⟨x, hx, hk⟩ := List.mem_flatMap.1 hk
    exact List.mem_flatMap.2 ⟨x, hs x hx, hk⟩⟩

theorem opds_eq : ∀ {l : List Operand}, Alikes st st' l → opds st' l = opds st l
  | [], _ => rfl
  | x :: l, A => by
    simp only [opds]
    rw [A.opd (by simp), opds_eq (A.sub fun x hx => by simp [hx])]

theorem partsOf_eq : ∀ {l : List (Nat × Operand)}, Alikes st st' (l.map (·.2)) → partsOf st' l = partsOf st l
  | [], _ => rfl
  | (i, x) :: l, A => by
    simp only [partsOf]
    rw [A.opd (by simp), partsOf_eq (A.sub fun x hx => by simp only [List.map_cons, List.mem_cons]; exact .inr hx)]

theorem optOpd_eq {x : Option Operand} (A : Alikes st st' x.toList) : optOpd st' x = optOpd st x := by
  cases x with
  | none => rfl
  | some x => simp only [optOpd]; rw [A.opd (by simp)]

theorem Alikes.opdV {l : List Operand} (A : Alikes st st' l) {x : Operand} (hx : x ∈ l) : Rv.opdV st' x = Rv.opdV st x := by
  cases x with
  | tmp t => simp only [Rv.opdV, A.slot t hx]
  | _ => rfl

theorem opdsV_eq : ∀ {l : List Operand}, Alikes st st' l → opdsV st' l = opdsV st l
  | [], _ => rfl
  | x :: l, A => by
    simp only [opdsV]
    rw [A.opdV (by simp), opdsV_eq (A.sub fun x hx => by simp [hx])]

theorem calleeOf_eq {c : Operand} (h : ∀ t, c = .tmp t → st'.s[t]? = st.s[t]?) : calleeOf st' c = calleeOf st c := by
  cases c with
  | tmp t => simp only [calleeOf, h t rfl]
  | _ => rfl

theorem nonNil_eq {v : V} (H : Agree h h' v.keys) : nonNil h' v = nonNil h v := by
  cases v with
  | v x =>
    cases x with
    | agg cs => rfl
    | c c =>
      have H : Agree h h' c.keys := H.sub fun k hk => by simp [V.keys, V1.keys, V1.cells, hk]
      cases c with
      | ptr k v off => simp only [nonNil, at_eq (H k (by simp [Cell.keys]))]
      | elt k v i off => simp only [nonNil, rowLen_eq (H k (by simp [Cell.keys]))]
      | slp d t xs i off => simp only [nonNil, depOk_slp H]
      | _ => rfl
  | _ => rfl

theorem vop_eq {op : Op} (A : Alikes st st' op.operands.toList) {K : V → Option R} : vop te st' op K = vop te st op K := by
  unfold vop
  split
  · rename_i x; rw [A.opdV (by simp [Op.operands])]
  · rename_i x; rw [A.opdV (by simp [Op.operands])]
  · rename_i c a b; rw [A.opd (x := c) (by simp [Op.operands]), A.opd (x := a) (by simp [Op.operands]), A.opd (x := b) (by simp [Op.operands])]
  · rename_i t parts; rw [partsOf_eq (A.sub fun x hx => by simpa [Op.operands] using hx)]
  · rename_i t x
    rw [A.opd (by simp [Op.operands])]
    cases hx : opd st x with
    | none => rfl
    | some v => exact loadK_eq (A.keys (by simp [Op.operands]) hx)
  · rename_i t x f
    rw [A.opd (by simp [Op.operands])]
    cases hx : opd st x with
    | none => rfl
    | some v =>
      have H := A.keys (by simp [Op.operands]) hx
      cases v with
      | agg cs => rfl
      | c c =>
        rw [keys_c] at H
        cases hf : (te t).bind (·.fields[f]?) with
        | none => cases c <;> rfl
        | some fd =>
          cases c with
          | ptr k v off => simp only [at_eq (H k (by simp [Cell.keys]))]
          | elt k v i off => simp only [rowLen_eq (H k (by simp [Cell.keys]))]
          | slp d t xs i off => simp only [depOk_slp H]
          | _ => rfl
  · rename_i t x f; rw [A.opd (by simp [Op.operands])]
  · rename_i t x i
    rw [A.opd (x := x) (by simp [Op.operands]), A.opd (x := i) (by simp [Op.operands])]
    cases hx : opd st x with
    | none => rfl
    | some v =>
      cases hi : opd st i with
      | none => rfl
      | some j => exact indexAddrK_eq (A.keys (by simp [Op.operands]) hx)
  · rename_i t x i; rw [A.opd (x := x) (by simp [Op.operands]), A.opd (x := i) (by simp [Op.operands])]
  · rename_i t x lo hi mx
    rw [A.opd (x := x) (by simp [Op.operands]), optOpd_eq (x := lo) (A.sub fun x hx => by simp only [Option.mem_toList, Option.mem_def] at hx; simp [Op.operands, hx]), optOpd_eq (x := hi) (A.sub fun x hx => by simp only [Option.mem_toList, Option.mem_def] at hx; simp [Op.operands, hx]),
      optOpd_eq (x := mx) (A.sub fun x hx => by simp only [Option.mem_toList, Option.mem_def] at hx; simp [Op.operands, hx])]
    cases hx : opd st x with
    | none => rfl
    | some v =>
      simp only [orNone]
      split
      · split
        · split
          · exact sliceK_eq (A.keys (by simp [Op.operands]) hx)
          · rfl
        · rfl
      · rfl
  · rename_i op t x y _; rw [A.opd (x := x) (by simp [Op.operands]), A.opd (x := y) (by simp [Op.operands])]
  · rename_i op _ x; rw [A.opd (by simp [Op.operands])]
  · rename_i src dst x; rw [A.opd (by simp [Op.operands])]
  · rename_i t x
    cases x with
    | tmp s => simp only [A.slot s (by simp [Op.operands])]
    | _ => rfl
  · rename_i f first captured
    split
    · rw [opds_eq (A.sub fun x hx => by simp only [Op.operands, Array.toList_append, List.mem_append]; exact .inr hx)]
    · rfl
  · rename_i x
    rw [A.opdV (by simp [Op.operands])]
    cases hx : opdV st x with
    | none => rfl
    | some v =>
      simp only [orNone]
      rw [nonNil_eq (A.keysV (by simp [Op.operands]) hx)]
  · rename_i x i
    split
    · rename_i t; rw [A.slot t (by simp [Op.operands])]
    · rfl
  · rename_i args argTypes _
    split
    · rename_i x t ha ht
      rw [A.opd (x := x) (by simp [Op.operands, Call.operands, ← Array.mem_toList_iff, ha])]
      cases hx : opd st x with
      | none => rfl
      | some v =>
        simp only [orNone]
        exact lenK_eq (A.keys (by simp [Op.operands, Call.operands, ← Array.mem_toList_iff, ha]) hx)
    · rfl
  · rename_i args _ _; rw [opds_eq (A.sub fun x hx => by simp [Op.operands, Call.operands]; simpa using hx)]
  · rename_i args _ _; rw [opds_eq (A.sub fun x hx => by simp [Op.operands, Call.operands]; simpa using hx)]
  · rfl

end
end Rv
