/- What an operation does hangs on what it looks at alone. -/
import Derived.Test.YtlbfhddhojejfaaDoorRvO
set_option linter.all false
namespace Rv
open Go

def Agree (h h' : Heap) (ks : List Nat) : Prop := ∀ k, k ∈ ks → h' k = h k

theorem Agree.sub {h h' : Heap} {ks ls : List Nat} (H : Agree h h' ks) (hs : ∀ k, k ∈ ls → k ∈ ks) : Agree h h' ls := fun k hk => H k (hs k hk)

section
variable {R : Type} {r : R} {h h' : Heap} {st st' : St} {te : TypeId → Option TI}

theorem at_eq {k : Nat} (e : h' k = h k) (v : Nat) : h'.at k v = h.at k v := by simp [Heap.at, e]
theorem next_eq {k : Nat} (e : h' k = h k) : h'.next k = h.next k := by simp [Heap.next, e]
theorem rowLen_eq {k : Nat} (e : h' k = h k) (v : Nat) : rowLen h' k v = rowLen h k v := by simp [rowLen, at_eq e]
theorem depOk_eq {d : Dep} (e : ∀ x, d = some x → h' x.1 = h x.1) : h'.depOk d = h.depOk d := by
  cases d with
  | none => rfl
  | some x => obtain ⟨k, v, dv⟩ := x; simp [Heap.depOk, e _ rfl]
theorem depOk_sl {d : Dep} {t : Ty} {xs : List t.D} (H : Agree h h' (Cell.sl d t xs).keys) : h'.depOk d = h.depOk d := depOk_eq fun x e => H _ (by subst e; simp [Cell.keys])
theorem depOk_slp {d : Dep} {t : Ty} {xs : List t.D} {i off : Nat} (H : Agree h h' (Cell.slp d t xs i off).keys) : h'.depOk d = h.depOk d := depOk_eq fun x e => H _ (by subst e; simp [Cell.keys])
theorem castB_eq {t : Ty} {b : Box} : castB h' t b = castB h t b := by cases b <;> rfl
theorem rowOf_eq {c : Cell} (H : Agree h h' c.keys) : rowOf h' c = rowOf h c := by
  cases c with
  | sl d t xs => simp only [rowOf, depOk_sl H]
  | own k v => simp only [rowOf]; rw [at_eq (H k (by simp [Cell.keys]))]
  | ownP k v n => simp only [rowOf]; rw [at_eq (H k (by simp [Cell.keys]))]
  | _ => rfl
theorem depOf_eq {c : Cell} (H : Agree h h' c.keys) : depOf h' c = depOf h c := by
  cases c with
  | own k v => simp only [depOf]; rw [H k (by simp [Cell.keys])]
  | ownP k v n => simp only [depOf]; rw [H k (by simp [Cell.keys])]
  | _ => rfl

theorem keys_c {c : Cell} : (V1.c c).keys = c.keys := by simp [V1.keys, V1.cells]

theorem loadK_eq {t : TypeId} {x : V1} {K : V1 → Option R} (H : Agree st.h st'.h x.keys) : loadK te st' t x K = loadK te st t x K := by
  cases x with
  | agg cs => rfl
  | c c =>
    rw [keys_c] at H
    cases hte : te t with
    | none => cases c <;> simp only [loadK, hte]
    | some ti =>
      cases c with
      | ptr k v off => simp only [loadK, hte, at_eq (H k (by simp [Cell.keys]))]
      | elt k v i off => simp only [loadK, hte, at_eq (H k (by simp [Cell.keys]))]
      | slp d t xs i off => simp only [loadK, hte, depOk_slp H]
      | _ => rfl

theorem indexAddrK_eq {es : Option Nat} {x i : V1} {K : V1 → Option R} (H : Agree st.h st'.h x.keys) : indexAddrK st' es x i K = indexAddrK st es x i K := by
  cases x with
  | agg cs => rfl
  | c c =>
    rw [keys_c] at H
    cases i with
    | agg cs => cases c <;> rfl
    | c j =>
      cases j with
      | int ik n =>
        cases c with
        | own k v => simp only [indexAddrK, rowLen_eq (H k (by simp [Cell.keys]))]
        | ownP k v n => simp only [indexAddrK, rowLen_eq (H k (by simp [Cell.keys]))]
        | sl d t xs => simp only [indexAddrK, depOk_sl H]
        | _ => rfl
      | _ => cases c <;> rfl

theorem sliceK_eq {str : Bool} {es : Option Nat} {x : V1} {lo hi mx : Option V1} {K : V1 → Option R} (H : Agree st.h st'.h x.keys) : sliceK st' str es x lo hi mx K = sliceK st str es x lo hi mx K := by
  cases x with
  | agg cs => rfl
  | c c =>
    rw [keys_c] at H
    have h1 := rowOf_eq H
    have h2 := depOf_eq H
    cases c with
    | own k v => simp only [sliceK, rowLen_eq (H k (by simp [Cell.keys])), h1, h2]
    | ownP k v n => simp only [sliceK, rowLen_eq (H k (by simp [Cell.keys])), h1, h2]
    | sl d t xs => simp only [sliceK, depOk_sl H]
    | _ => rfl

theorem lenK_eq {str : Bool} {es : Option Nat} {x : V1} {K : Nat → Option R} (H : Agree st.h st'.h x.keys) : lenK st' str es x K = lenK st str es x K := by
  cases x with
  | agg cs => rfl
  | c c =>
    rw [keys_c] at H
    cases c with
    | own k v => simp only [lenK, rowLen_eq (H k (by simp [Cell.keys]))]
    | ownP k v n => simp only [lenK, rowLen_eq (H k (by simp [Cell.keys]))]
    | sl d t xs => simp only [lenK, depOk_sl H]
    | _ => rfl

theorem storeK_eq {t : TypeId} {x v : V1} {K : List (Nat × En) → Option R} (H : Agree st.h st'.h x.keys) : storeK te st' t x v K = storeK te st t x v K := by
  cases x with
  | agg cs => rfl
  | c c =>
    rw [keys_c] at H
    cases hte : te t with
    | none => cases c <;> simp only [storeK, hte]
    | some ti =>
      cases c with
      | ptr k v off => simp only [storeK, hte, H k (by simp [Cell.keys])]
      | elt k v i off => simp only [storeK, hte, H k (by simp [Cell.keys])]
      | _ => rfl

theorem baseOf_eq {e : TypeId} {t : Ty} {x : V1} (H : Agree h h' x.keys) : baseOf h' e t x = baseOf h e t x := by
  cases x with
  | agg cs => rfl
  | c c =>
    rw [keys_c] at H
    cases c with
    | own k v => simp only [baseOf]; rw [at_eq (H k (by simp [Cell.keys]))]
    | ownP k v n => simp only [baseOf]; rw [at_eq (H k (by simp [Cell.keys]))]
    | _ => rfl

theorem moreOf_eq {t : Ty} {x : V1} (H : Agree h h' x.keys) : moreOf h' t x = moreOf h t x := by
  cases x with
  | agg cs => rfl
  | c c =>
    rw [keys_c] at H
    have h1 := rowOf_eq H
    cases c <;> first | rfl | (simp only [moreOf]; rw [h1])

theorem baseOf_key {e : TypeId} {t : Ty} {x : V1} {xs : List t.D} {k : Nat} (hb : baseOf h e t x = some (xs, some k)) : k ∈ x.keys := by
  unfold baseOf at hb
  split at hb
  · simp at hb
  · rename_i k' v
    split at hb
    · obtain ⟨_, hb'⟩ := if_some hb
      simp only [Option.map_eq_some_iff] at hb'
      obtain ⟨a, _, ha⟩ := hb'
      simp only [Prod.mk.injEq, Option.some.injEq] at ha
      rw [keys_c]; simp [Cell.keys, ha.2]
    · cases hb
  · rename_i k' v n
    split at hb
    · obtain ⟨_, hb'⟩ := if_some hb
      simp only [Option.map_eq_some_iff] at hb'
      obtain ⟨a, _, ha⟩ := hb'
      simp only [Prod.mk.injEq, Option.some.injEq] at ha
      rw [keys_c]; simp [Cell.keys, ha.2]
    · cases hb
  · cases hb

theorem appendK_eq {d : Option Nat} {sT : TypeId} {s x : V1} {K : Dl → Option R} (Hs : Agree st.h st'.h s.keys) (Hx : Agree st.h st'.h x.keys) (hd : st'.h (dk d) = st.h (dk d)) : appendK te st' d sT s x K = appendK te st d sT s x K := by
  unfold appendK
  split
  · rfl
  · split
    · rfl
    · split
      · rfl
      · rename_i e _ ti _ t _
        rw [baseOf_eq Hs, moreOf_eq Hx, next_eq hd]
        split
        · rename_i xs k ys hb _
          cases k with
          | none => rfl
          | some k => simp only [next_eq (Hs k (baseOf_key hb))]
        · rfl

theorem abs_cd_eq {bm : List Nat} {cd : CD} {c : Cell} (H : Agree h h' c.keys) : cd.abs h' bm c = cd.abs h bm c := by
  cases c with
  | sl d t xs => cases cd <;> first | rfl | (simp only [CD.abs, depOk_sl H])
  | own k v => cases cd <;> first | rfl | (simp only [CD.abs]; rw [at_eq (H k (by simp [Cell.keys]))]; rfl) | (simp only [CD.abs]; rw [at_eq (H k (by simp [Cell.keys]))])
  | ownP k v n => cases cd <;> first | rfl | (simp only [CD.abs]; rw [at_eq (H k (by simp [Cell.keys]))]; rfl) | (simp only [CD.abs]; rw [at_eq (H k (by simp [Cell.keys]))])
  | ptr k v off => cases cd <;> first | rfl | (simp only [CD.abs]; rw [at_eq (H k (by simp [Cell.keys]))])
  | _ => cases cd <;> rfl

theorem absL_eq {bm : List Nat} : ∀ {l : List CD} {cs : List Cell}, (∀ c, c ∈ cs → Agree h h' c.keys) → absL h' bm l cs = absL h bm l cs
  | [], [], _ => rfl
  | [], _ :: _, _ => rfl
  | _ :: _, [], _ => rfl
  | cd :: l, c :: cs, H => by
    simp only [absL]
    rw [abs_cd_eq (H c (by simp)), absL_eq fun c hc => H c (by simp [hc])]

theorem gatherS_mem {l : List V1} : ∀ {sl : List (Nat × SD)} {cs : List Cell}, gatherS (l.map .v) sl = some cs → ∀ c, c ∈ cs → ∃ v, v ∈ l ∧ c ∈ v.cells
  | [], cs, he, c, hc => by
    simp only [gatherS, Option.some.injEq] at he
    subst he; simp at hc
  | (i, .c d) :: sl, cs, he, c, hc => by
    simp only [gatherS] at he
    split at he
    · rename_i x hx
      split at he
      · rename_i cs' h1
        simp only [Option.some.injEq] at he
        subst he
        rcases List.mem_cons.1 hc with rfl | hc
        · simp only [List.getElem?_map, Option.map_eq_some_iff] at hx
          obtain ⟨v, hv, hv'⟩ := hx
          injection hv' with hv'
          subst hv'
          exact ⟨_, List.mem_of_getElem? hv, by simp [V1.cells]⟩
        · exact gatherS_mem h1 c hc
      · cases he
    · cases he
  | (i, .agg d) :: sl, cs, he, c, hc => by
    simp only [gatherS] at he
    split at he
    · rename_i xs hx
      obtain ⟨_, he'⟩ := if_some he
      split at he'
      · rename_i cs' h1
        simp only [Option.some.injEq] at he'
        subst he'
        rcases List.mem_append.1 hc with hc | hc
        · simp only [List.getElem?_map, Option.map_eq_some_iff] at hx
          obtain ⟨v, hv, hv'⟩ := hx
          injection hv' with hv'
          subst hv'
          exact ⟨_, List.mem_of_getElem? hv, hc⟩
        · exact gatherS_mem h1 c hc
      · cases he'
    · cases he

theorem shape_abs_eq {sh : Shape} {l : List V1} (hb : sh.boxes = []) (H : Agree h h' (l.flatMap V1.keys)) : sh.abs ⟨l.map .v, h'⟩ = sh.abs ⟨l.map .v, h⟩ := by
  unfold Shape.abs
  simp only [hb, gatherB]
  cases hg : gatherS (l.map .v) sh.slots with
  | none => rfl
  | some cs =>
    simp only
    rw [absL_eq fun c hc => ?_]
    obtain ⟨v, hv, hcv⟩ := gatherS_mem hg c hc
    exact H.sub fun k hk => List.mem_flatMap.2 ⟨v, hv, List.mem_flatMap.2 ⟨c, hcv, hk⟩⟩

/-- Two states that an operation cannot tell apart, but for what it sets. -/
structure Alikes (st st' : St) (l : List Operand) : Prop where
  slot : ∀ t, Operand.tmp t ∈ l → st'.s[t]? = st.s[t]?
  heap : Agree st.h st'.h (opdKeys st l)

theorem Alikes.opd {l : List Operand} (A : Alikes st st' l) {x : Operand} (hx : x ∈ l) : Rv.opd st' x = Rv.opd st x := by
  cases x with
  | tmp t => simp only [Rv.opd, A.slot t hx]
  | _ => rfl

theorem Alikes.keys {l : List Operand} (A : Alikes st st' l) {x : Operand} (hx : x ∈ l) {v : V1} (hv : Rv.opd st x = some v) : Agree st.h st'.h v.keys :=
  A.heap.sub fun k hk => List.mem_flatMap.2 ⟨x, hx, by rw [hv]; exact hk⟩

theorem Alikes.sub {l m : List Operand} (A : Alikes st st' l) (hs : ∀ x, x ∈ m → x ∈ l) : Alikes st st' m :=
  ⟨fun t ht => A.slot t (hs _ ht), A.heap.sub fun k hk => by
    obtain ⟨x, hx, hk⟩ := List.mem_flatMap.1 hk
    exact List.mem_flatMap.2 ⟨x, hs x hx, hk⟩⟩

theorem opds_eq : ∀ {l : List Operand}, Alikes st st' l → opds st' l = opds st l
  | [], _ => rfl
  | x :: l, A => by
    simp only [opds]
    rw [A.opd (by simp), opds_eq (A.sub fun x hx => by simp [hx])]

theorem partsOf_eq : ∀ {l : List (Nat × Operand)}, Alikes st st' (l.map (·.2)) → partsOf st' l = partsOf st l
  | [], _ => rfl
  | (i, x) :: l, A => by
    simp only [partsOf]
    rw [A.opd (by simp), partsOf_eq (A.sub fun x hx => by simp only [List.map_cons, List.mem_cons]; exact .inr hx)]

theorem optOpd_eq {x : Option Operand} (A : Alikes st st' x.toList) : optOpd st' x = optOpd st x := by
  cases x with
  | none => rfl
  | some x => simp only [optOpd]; rw [A.opd (by simp)]

theorem Alikes.opdV {l : List Operand} (A : Alikes st st' l) {x : Operand} (hx : x ∈ l) : Rv.opdV st' x = Rv.opdV st x := by
  cases x with
  | tmp t => simp only [Rv.opdV, A.slot t hx]
  | _ => rfl

theorem vop_eq {op : Op} (A : Alikes st st' op.operands.toList) {K : V → Option R} : vop te st' op K = vop te st op K := by
  unfold vop
  split
  · rename_i x; rw [A.opdV (by simp [Op.operands])]
  · rename_i x; rw [A.opdV (by simp [Op.operands])]
  · rename_i c a b; rw [A.opd (x := c) (by simp [Op.operands]), A.opd (x := a) (by simp [Op.operands]), A.opd (x := b) (by simp [Op.operands])]
  · rename_i t parts; rw [partsOf_eq (A.sub fun x hx => by simpa [Op.operands] using hx)]
  · rename_i t x
    rw [A.opd (by simp [Op.operands])]
    cases hx : opd st x with
    | none => rfl
    | some v => exact loadK_eq (A.keys (by simp [Op.operands]) hx)
  · rename_i t x f
    rw [A.opd (by simp [Op.operands])]
    cases hx : opd st x with
    | none => rfl
    | some v =>
      have H := A.keys (by simp [Op.operands]) hx
      cases v with
      | agg cs => rfl
      | c c =>
        rw [keys_c] at H
        cases hf : (te t).bind (·.fields[f]?) with
        | none => cases c <;> rfl
        | some fd =>
          cases c with
          | ptr k v off => simp only [at_eq (H k (by simp [Cell.keys]))]
          | elt k v i off => simp only [rowLen_eq (H k (by simp [Cell.keys]))]
          | slp d t xs i off => simp only [depOk_slp H]
          | _ => rfl
  · rename_i t x f; rw [A.opd (by simp [Op.operands])]
  · rename_i t x i
    rw [A.opd (x := x) (by simp [Op.operands]), A.opd (x := i) (by simp [Op.operands])]
    cases hx : opd st x with
    | none => rfl
    | some v =>
      cases hi : opd st i with
      | none => rfl
      | some j => exact indexAddrK_eq (A.keys (by simp [Op.operands]) hx)
  · rename_i t x i; rw [A.opd (x := x) (by simp [Op.operands]), A.opd (x := i) (by simp [Op.operands])]
  · rename_i t x lo hi mx
    rw [A.opd (x := x) (by simp [Op.operands]), optOpd_eq (x := lo) (A.sub fun x hx => by simp only [Option.mem_toList, Option.mem_def] at hx; simp [Op.operands, hx]), optOpd_eq (x := hi) (A.sub fun x hx => by simp only [Option.mem_toList, Option.mem_def] at hx; simp [Op.operands, hx]),
      optOpd_eq (x := mx) (A.sub fun x hx => by simp only [Option.mem_toList, Option.mem_def] at hx; simp [Op.operands, hx])]
    cases hx : opd st x with
    | none => rfl
    | some v =>
      simp only [orNone]
      split
      · split
        · split
          · exact sliceK_eq (A.keys (by simp [Op.operands]) hx)
          · rfl
        · rfl
      · rfl
  · rename_i op t x y _; rw [A.opd (x := x) (by simp [Op.operands]), A.opd (x := y) (by simp [Op.operands])]
  · rename_i op _ x; rw [A.opd (by simp [Op.operands])]
  · rename_i src dst x; rw [A.opd (by simp [Op.operands])]
  · rename_i t x
    cases x with
    | tmp s => simp only [A.slot s (by simp [Op.operands])]
    | _ => rfl
  · rename_i x i
    split
    · rename_i t; rw [A.slot t (by simp [Op.operands])]
    · rfl
  · rename_i args argTypes _
    split
    · rename_i x t ha ht
      rw [A.opd (x := x) (by simp [Op.operands, Call.operands, ← Array.mem_toList_iff, ha])]
      cases hx : opd st x with
      | none => rfl
      | some v =>
        simp only [orNone]
        exact lenK_eq (A.keys (by simp [Op.operands, Call.operands, ← Array.mem_toList_iff, ha]) hx)
    · rfl
  · rename_i args _ _; rw [opds_eq (A.sub fun x hx => by simp [Op.operands, Call.operands]; simpa using hx)]
  · rename_i args _ _; rw [opds_eq (A.sub fun x hx => by simp [Op.operands, Call.operands]; simpa using hx)]
  · rfl

end
end Rv
