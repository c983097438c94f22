/- From a state to its shape's values, and back (second part). -/
import Derived.Test.YtlbfhddhojejfaaDoorRvJ
set_option linter.all false
namespace Rv
open Go

section
variable {P : Program} {C C' : Ctx} {γ γ' : Gam} {h h' : Heap} {w : World} {R : Type} {r : R}

theorem absL_sound (I : Inv C γ h w) {keys deps bm : List Nat} (N : Ren C γ h w C' γ' h' keys deps) {nm : Nm}
    (hbox : ∀ i k, bm[i]? = some k → (∃ e l, h' (nm i).1 = some e ∧ e.ver = (nm i).2 ∧ e.box = .cells l) ∧ γ' (nm i).1 = γ k) :
    ∀ {l : List CD} {cs : List Cell} {y : TL l} {met : Met} {vs : List Value} {m : Nat}, absL h bm l cs = some (y, met) → All2 (RepC C γ h w) cs vs →
    (∀ k, k ∈ met.deps → k ∈ deps) → (∀ k, some k ∈ met.rows → k ∈ keys) → (∀ p, p ∈ (mkL nm l y m).2.1 → h' p.1 = some p.2) → (∀ j q, met.rows[j]? = some q → γ' (nm (m + j)).1 = q.elim none γ) →
    All2 (RepC C' γ' h' w) (mkL nm l y m).1 vs ∧ (mkL nm l y m).2.1.map (·.1) = (List.range met.rows.length).map (fun j => (nm (m + j)).1) ∧ ∀ p, p ∈ (mkL nm l y m).2.1 → BoxR C' γ' h' w p.1 p.2.box
  | [], [], y, met, vs, m, he, ha, _, _, _, _ => by
    simp only [absL, Option.some.injEq, Prod.mk.injEq] at he
    obtain ⟨_, rfl⟩ := he
    cases vs with
    | nil => exact ⟨trivial, by simp [mkL], fun p hp => by simp [mkL] at hp⟩
    | cons _ _ => exact ha.elim
  | c :: l, x :: cs, y, met, vs, m, he, ha, hd, hr, hent, hγ => by
    simp only [absL] at he
    split at he
    · rename_i y1 m1 h1
      split at he
      · rename_i y2 m2 h2
        simp only [Option.some.injEq, Prod.mk.injEq] at he
        obtain ⟨rfl, rfl⟩ := he
        cases vs with
        | nil => exact ha.elim
        | cons v vs =>
          simp only [mkL, List.mem_append] at hent
          obtain ⟨g1, g2, g3, g4⟩ := cd_sound I N (nm := nm) (m := m) h1 ha.1 (fun k hk => hd k (by simp [hk])) (fun k hk => hr k (by simp [hk])) (fun p hp => hent p (.inl hp))
            (fun j q hq => hγ j q (by rw [List.getElem?_append_left (List.getElem?_eq_some_iff.1 hq).1]; exact hq)) hbox
          obtain ⟨g5, g6, g7⟩ := absL_sound I N (nm := nm) (m := m + m1.rows.length) hbox h2 ha.2 (fun k hk => hd k (by simp [hk])) (fun k hk => hr k (by simp [hk])) (fun p hp => hent p (.inr (by rw [g2]; exact hp)))
            (fun j q hq => by have := hγ (m1.rows.length + j) q (by rw [List.getElem?_append_right (by omega)]; simpa using hq); rwa [← Nat.add_assoc] at this)
          simp only [mkL, g2]
          refine ⟨⟨g1, g5⟩, ?_, fun p hp => ?_⟩
          · rw [List.map_append, g3, g6, List.length_append, List.range_add, List.map_append, List.map_map]
            congr 1
            apply List.map_congr_left
            intro j _
            simp [Nat.add_assoc]
          · rcases List.mem_append.1 hp with hp | hp
            · exact g4 p hp
            · exact g7 p hp
      · cases he
    · cases he
  | [], _ :: _, _, _, _, _, he, _, _, _, _, _ => by simp [absL] at he
  | _ :: _, [], _, _, _, _, he, _, _, _, _, _ => by simp [absL] at he

/-- What a function value captured. -/
def capsOf : Value → List Value
  | .func _ _ c => c.toList
  | _ => []

def flatV (vals : Array Value) : List (Nat × SD) → List Value
  | [] => []
  | (i, .c _) :: r => vals.getD i undef :: flatV vals r
  | (i, .agg _) :: r => (vals.getD i undef).cells.toList ++ flatV vals r
  | (i, .clo _ _) :: r => capsOf (vals.getD i undef) ++ flatV vals r

def SdOk (v : Value) : SD → Prop
  | .c _ => True
  | .agg ds => ∃ us : List Value, v = .agg us.toArray ∧ us.length = ds.length
  | .clo f ds => ∃ us : List Value, v = .func (.func f) #[] us.toArray ∧ us.length = ds.length

def SlotsOk (vals : Array Value) (sl : List (Nat × SD)) : Prop := ∀ i sd, (i, sd) ∈ sl → SdOk (vals.getD i undef) sd

theorem SlotsOk.cons {vals : Array Value} {i : Nat} {sd : SD} {sl : List (Nat × SD)} (h1 : SdOk (vals.getD i undef) sd) (h2 : SlotsOk vals sl) : SlotsOk vals ((i, sd) :: sl) := fun j sd' hm => by
  rcases List.mem_cons.1 hm with hm | hm
  · cases hm; exact h1
  · exact h2 j sd' hm

theorem SlotsOk.tail {vals : Array Value} {p : Nat × SD} {sl : List (Nat × SD)} (h : SlotsOk vals (p :: sl)) : SlotsOk vals sl := fun j sd hm => h j sd (List.mem_cons_of_mem _ hm)

theorem gatherS_sound {l : List V} {vals : Array Value} (hs : ∀ i v, l[i]? = some v → RepV C γ h w v (vals.getD i undef)) : ∀ {sl : List (Nat × SD)} {cs : List Cell}, gatherS l sl = some cs →
    All2 (RepC C γ h w) cs (flatV vals sl) ∧ SlotsOk vals sl
  | [], cs, he => by
    simp only [gatherS, Option.some.injEq] at he
    subst he
    exact ⟨trivial, fun i ds hm => by simp at hm⟩
  | (i, .c d) :: sl, cs, he => by
    simp only [gatherS] at he
    split at he
    · rename_i x hx
      split at he
      · rename_i cs' h1
        simp only [Option.some.injEq] at he
        subst he
        obtain ⟨g1, g2⟩ := gatherS_sound hs h1
        exact ⟨⟨hs i _ hx, g1⟩, g2.cons trivial⟩
      · cases he
    · cases he
  | (i, .agg d) :: sl, cs, he => by
    simp only [gatherS] at he
    split at he
    · rename_i xs hx
      obtain ⟨hl, he⟩ := if_some he
      split at he
      · rename_i cs' h1
        simp only [Option.some.injEq] at he
        subst he
        obtain ⟨g1, g2⟩ := gatherS_sound hs h1
        obtain ⟨us, hu, hau⟩ := hs i _ hx
        have hul := hau.length
        refine ⟨?_, g2.cons ⟨us, hu, by omega⟩⟩
        simp only [flatV, hu, Value.cells]
        exact hau.append g1
      · cases he
    · cases he
  | (i, .clo f d) :: sl, cs, he => by
    simp only [gatherS] at he
    split at he
    · rename_i f' xs hx
      obtain ⟨⟨hf, hl⟩, he1⟩ := if_some he
      subst hf
      split at he1
      · rename_i cs' h1
        simp only [Option.some.injEq] at he1
        subst he1
        obtain ⟨g1, g2⟩ := gatherS_sound hs h1
        obtain ⟨us, hu, hau⟩ := hs i _ hx
        have hul := hau.length
        refine ⟨?_, g2.cons ⟨us, hu, by omega⟩⟩
        simp only [flatV, hu, capsOf]
        exact hau.append g1
      · cases he1
    · cases he

theorem putSlots_sound {vals : Array Value} : ∀ {sl : List (Nat × SD)} {l : List V} {cs : List Cell} {rest : List Value}, SlotsOk vals sl → (∀ i v, l[i]? = some v → RepV C γ h w v (vals.getD i undef)) → All2 (RepC C γ h w) cs (flatV vals sl ++ rest) →
    (putSlots l sl cs).1.length = l.length ∧ (∀ i v, (putSlots l sl cs).1[i]? = some v → RepV C γ h w v (vals.getD i undef)) ∧ All2 (RepC C γ h w) (putSlots l sl cs).2 rest
  | [], l, cs, rest, _, hl, ha => ⟨rfl, hl, ha⟩
  | (i, .c d) :: sl, l, cs, rest, hok, hl, ha => by
    cases cs with
    | nil => exact ha.elim
    | cons c cs =>
      simp only [putSlots, List.headD_cons, List.tail_cons]
      have := putSlots_sound (sl := sl) (l := l.set i (.v (.c c))) (cs := cs) (rest := rest) hok.tail (fun j v hj => ?_) ha.2
      · rw [List.length_set] at this; exact this
      · rw [List.getElem?_set] at hj
        split at hj
        · rename_i e
          subst e
          split at hj
          · simp only [Option.some.injEq] at hj
            subst hj
            exact ha.1
          · cases hj
        · exact hl j v hj
  | (i, .agg d) :: sl, l, cs, rest, hok, hl, ha => by
    obtain ⟨us, hu, hul⟩ := hok i (.agg d) (by simp)
    simp only [flatV, hu, Value.cells, List.append_assoc] at ha
    have hlen := ha.length
    simp only [putSlots]
    have h1 : All2 (RepC C γ h w) (cs.take d.length) us := by
      have := ha.take d.length
      rw [List.take_append_of_le_length (by simp [hul])] at this
      simpa [← hul] using this
    have h2 : All2 (RepC C γ h w) (cs.drop d.length) (flatV vals sl ++ rest) := by
      have := ha.drop d.length
      rw [List.drop_append_of_le_length (by simp [hul])] at this
      simpa [← hul] using this
    have := putSlots_sound (sl := sl) (l := l.set i (.v (.agg (cs.take d.length)))) (cs := cs.drop d.length) (rest := rest) hok.tail (fun j v hj => ?_) h2
    · rw [List.length_set] at this; exact this
    · rw [List.getElem?_set] at hj
      split at hj
      · rename_i e
        subst e
        split at hj
        · simp only [Option.some.injEq] at hj
          subst hj
          exact ⟨us, hu, h1⟩
        · cases hj
      · exact hl j v hj
  | (i, .clo f d) :: sl, l, cs, rest, hok, hl, ha => by
    obtain ⟨us, hu, hul⟩ := hok i (.clo f d) (by simp)
    simp only [flatV, hu, capsOf, List.append_assoc] at ha
    have hlen := ha.length
    simp only [putSlots]
    have h1 : All2 (RepC C γ h w) (cs.take d.length) us := by
      have := ha.take d.length
      rw [List.take_append_of_le_length (by simp [hul])] at this
      simpa [← hul] using this
    have h2 : All2 (RepC C γ h w) (cs.drop d.length) (flatV vals sl ++ rest) := by
      have := ha.drop d.length
      rw [List.drop_append_of_le_length (by simp [hul])] at this
      simpa [← hul] using this
    have := putSlots_sound (sl := sl) (l := l.set i (.clo f (cs.take d.length))) (cs := cs.drop d.length) (rest := rest) hok.tail (fun j v hj => ?_) h2
    · rw [List.length_set] at this; exact this
    · rw [List.getElem?_set] at hj
      split at hj
      · rename_i e
        subst e
        split at hj
        · simp only [Option.some.injEq] at hj
          subst hj
          exact ⟨us, hu, h1⟩
        · cases hj
      · exact hl j v hj

/-- The boxes that were met, and their values. -/
def BoxesOk (γ : Gam) (h : Heap) (w : World) : List (Option Nat × List CD) → List Nat → List (List Value) → Prop
  | [], [], [] => True
  | (_, ds) :: r, k :: ks, v :: vs => (∃ e l g T, h k = some e ∧ e.box = .cells l ∧ γ k = some (g, 0) ∧ w.heap[g]? = some (.cells v.toArray T (0, 0)) ∧ v.length = ds.length) ∧ BoxesOk γ h w r ks vs
  | _, _, _ => False

theorem gatherB_sound (I : Inv C γ h w) : ∀ {bl : List (Option Nat × List CD)} {cs all : List Cell} {bm0 bm : List Nat} {vs : List Value}, gatherB h bl cs bm0 = some (all, bm) → All2 (RepC C γ h w) cs vs →
    ∃ ks more, bm = bm0 ++ ks ∧ BoxesOk γ h w bl ks more ∧ All2 (RepC C γ h w) all (vs ++ more.flatten)
  | [], cs, all, bm0, bm, vs, he, ha => by
    simp only [gatherB, Option.some.injEq, Prod.mk.injEq] at he
    obtain ⟨rfl, rfl⟩ := he
    exact ⟨[], [], by simp, trivial, by simpa using ha⟩
  | (none, ds) :: bl, cs, all, bm0, bm, vs, he, ha => by
    simp only [gatherB] at he
    split at he
    · rename_i l hat
      obtain ⟨hl, he⟩ := if_some he
      obtain ⟨e, hk, hve, hbx⟩ := at_some hat
      have hb := I.box _ e hk
      rw [hbx] at hb
      obtain ⟨g, us, T, hγ, hbl, hau⟩ := hb
      obtain ⟨ks, more, h1, h2, h3⟩ := gatherB_sound I he (ha.append hau)
      refine ⟨_ :: ks, us.toList :: more, by rw [h1, List.append_assoc]; rfl, ⟨⟨e, l, g, T, hk, hbx, hγ, by simpa using hbl, by rw [← hau.length, hl]⟩, h2⟩, ?_⟩
      simpa [List.append_assoc] using h3
    · cases he
  | (some p, ds) :: bl, cs, all, bm0, bm, vs, he, ha => by
    simp only [gatherB] at he
    split at he
    · rename_i k kv o hp
      split at he
      · rename_i l hat
        obtain ⟨hl, he⟩ := if_some he
        obtain ⟨e, hk, hve, hbx⟩ := at_some hat
        have hb := I.box k e hk
        rw [hbx] at hb
        obtain ⟨g, us, T, hγ, hbl, hau⟩ := hb
        obtain ⟨ks, more, h1, h2, h3⟩ := gatherB_sound I he (ha.append hau)
        refine ⟨k :: ks, us.toList :: more, by simp [h1], ⟨⟨e, l, g, T, hk, hbx, hγ, by simpa using hbl, by rw [← hau.length, hl]⟩, h2⟩, ?_⟩
        simpa [List.append_assoc] using h3
      · cases he
    · cases he

theorem BoxesOk.len : ∀ {bl : List (Option Nat × List CD)} {ks : List Nat} {more : List (List Value)}, BoxesOk γ h w bl ks more → ks.length = bl.length
  | [], [], [], _ => rfl
  | _ :: bl, _ :: ks, _ :: more, hb => by simp [BoxesOk.len hb.2]

theorem BoxesOk.get : ∀ {bl : List (Option Nat × List CD)} {ks : List Nat} {more : List (List Value)} {i k : Nat}, BoxesOk γ h w bl ks more → ks[i]? = some k → ∃ e l g, h k = some e ∧ e.box = .cells l ∧ γ k = some (g, 0)
  | _ :: bl, _ :: ks, _ :: more, 0, k, hb, he => by
    simp only [List.getElem?_cons_zero, Option.some.injEq] at he
    subst he
    obtain ⟨e, l, g, T, h1, h2, h3, _⟩ := hb.1
    exact ⟨e, l, g, h1, h2, h3⟩
  | _ :: bl, _ :: ks, _ :: more, i + 1, k, hb, he => BoxesOk.get hb.2 (by simpa using he)
  | [], [], [], _, _, _, he => by simp at he

theorem putBoxes_keys (nm : Nm) : ∀ (i : Nat) (bl : List (Option Nat × List CD)) (cs : List Cell), (putBoxes nm i bl cs).map (·.1) = (List.range bl.length).map fun j => (nm (i + j)).1
  | i, [], cs => rfl
  | i, (p, ds) :: bl, cs => by
    simp only [putBoxes, List.map_cons, putBoxes_keys nm (i + 1) bl, List.length_cons, List.range_succ_eq_map, List.map_map]
    simp only [Nat.add_zero, List.cons.injEq, true_and]
    apply List.map_congr_left
    intro j _
    simp [Nat.add_assoc, Nat.add_comm 1 j]

theorem putBoxes_box {nm : Nm} : ∀ {i : Nat} {bl : List (Option Nat × List CD)} {ks : List Nat} {more : List (List Value)} {cs : List Cell} {rest : List Value}, BoxesOk γ h w bl ks more → (∀ j k, ks[j]? = some k → γ' (nm (i + j)).1 = γ k) →
    All2 (RepC C' γ' h' w) cs (more.flatten ++ rest) → ∀ p, p ∈ putBoxes nm i bl cs → BoxR C' γ' h' w p.1 p.2.box
  | i, [], [], [], cs, rest, _, _, _, p, hp => by simp [putBoxes] at hp
  | i, (q, ds) :: bl, k :: ks, v :: more, cs, rest, hb, hk, ha, p, hp => by
    obtain ⟨⟨e, l, g, T, h1, h2, h3, h4, h5⟩, hb⟩ := hb
    simp only [List.flatten_cons, List.append_assoc] at ha
    simp only [putBoxes, List.mem_cons] at hp
    rcases hp with rfl | hp
    · refine ⟨g, v.toArray, T, (hk 0 k rfl).trans h3, h4, ?_⟩
      have := ha.take ds.length
      rw [List.take_append_of_le_length (by omega), ← h5, List.take_length] at this
      rw [h5] at this
      exact this
    · have h6 := ha.drop ds.length
      rw [List.drop_append_of_le_length (by omega), ← h5, List.drop_length, List.nil_append, h5] at h6
      exact putBoxes_box (i := i + 1) hb (fun j k' hj => by have := hk (j + 1) k' (by simpa using hj); rwa [show i + 1 + j = i + (j + 1) by omega]) h6 p hp

theorem ofList_mem : ∀ {l : List (Nat × En)} {p : Nat × En}, (l.map (·.1)).Nodup → p ∈ l → Heap.ofList l p.1 = some p.2
  | (k, e) :: r, p, hn, hp => by
    simp only [List.map_cons, List.nodup_cons] at hn
    simp only [Heap.ofList]
    rcases List.mem_cons.1 hp with rfl | hp
    · simp
    · by_cases hk : p.1 = k
      · exact absurd (hk ▸ List.mem_map_of_mem hp) hn.1
      · rw [if_neg hk]; exact ofList_mem hn.2 hp

theorem ofList_some : ∀ {l : List (Nat × En)} {k : Nat} {e : En}, Heap.ofList l k = some e → (k, e) ∈ l
  | (j, e') :: r, k, e, he => by
    simp only [Heap.ofList] at he
    split at he
    · rename_i hk
      subst hk
      simp only [Option.some.injEq] at he
      subst he
      simp
    · exact List.mem_cons_of_mem _ (ofList_some he)

/-- A function over given names. -/
theorem exists_fun {α : Type} (f : Nat → Nat) (hf : ∀ i j, f i = f j → i = j) (src : Nat → α) (d : α) (n : Nat) : ∃ g : Nat → α, (∀ i, i < n → g (f i) = src i) ∧ ∀ k, (∀ i, i < n → f i ≠ k) → g k = d := by
  induction n with
  | zero => exact ⟨fun _ => d, fun i hi => by omega, fun _ _ => rfl⟩
  | succ n ih =>
    obtain ⟨g, h1, h2⟩ := ih
    refine ⟨fun k => if k = f n then src n else g k, fun i hi => ?_, fun k hk => ?_⟩
    · by_cases e : i = n
      · subst e; simp
      · show (if f i = f n then src n else g (f i)) = src i
        rw [if_neg (fun e' => e (hf _ _ e'))]; exact h1 i (by omega)
    · show (if k = f n then src n else g k) = d
      rw [if_neg (fun (e : k = f n) => hk n (by omega) e.symm)]
      exact h2 k fun i hi => hk i (by omega)

theorem nodupB_sound : ∀ {l : List Nat}, nodupB l = true → l.Nodup
  | [], _ => by simp
  | a :: r, he => by
    simp only [nodupB, Bool.and_eq_true, Bool.not_eq_true'] at he
    rw [List.nodup_cons]
    exact ⟨by simpa using he.1, nodupB_sound he.2⟩

theorem nodup_idx : ∀ {l : List Nat} {i j : Nat}, l.Nodup → (hi : i < l.length) → (hj : j < l.length) → l[i] = l[j] → i = j
  | a :: l, 0, 0, _, _, _, _ => rfl
  | a :: l, 0, j + 1, hn, _, hj, e => by
    simp only [List.getElem_cons_zero, List.getElem_cons_succ] at e
    rw [List.nodup_cons] at hn
    exact absurd (e ▸ List.getElem_mem (by simpa using hj)) hn.1
  | a :: l, i + 1, 0, hn, hi, _, e => by
    simp only [List.getElem_cons_zero, List.getElem_cons_succ] at e
    rw [List.nodup_cons] at hn
    exact absurd (e ▸ List.getElem_mem (by simpa using hi)) hn.1
  | a :: l, i + 1, j + 1, hn, hi, hj, e => by
    simp only [List.getElem_cons_succ] at e
    rw [List.nodup_cons] at hn
    exact congrArg _ (nodup_idx hn.2 (by simpa using hi) (by simpa using hj) e)

/-- The keys that were met stand each for itself. -/
theorem abs_apart {sh : Shape} {st : St} {a : Abs sh.T} (he : sh.abs st = some a) : a.keys.Nodup ∧ ∀ k, k ∈ a.m.deps → k ∉ a.keys := by
  unfold Shape.abs at he
  split at he
  · split at he
    · split at he
      · split at he
        · rename_i hcond
          simp only [Option.some.injEq] at he
          subst he
          simp only [Bool.and_eq_true] at hcond
          refine ⟨nodupB_sound hcond.1, fun k hk => ?_⟩
          have := List.all_eq_true.1 hcond.2 k hk
          simpa [Abs.keys] using this
        · cases he
      · cases he
    · cases he
  · cases he

theorem gatherB_pins : ∀ {bl : List (Option Nat × List CD)} {cs all : List Cell} {bm0 bm : List Nat} {n : Nat}, gatherB h bl cs bm0 = some (all, bm) → n ≤ bl.length → ((bl.take n).all fun p => p.1.isNone) = true →
    (∀ i, i < bm0.length → bm[i]? = bm0[i]?) ∧ ∀ i, i < n → bm[bm0.length + i]? = some (nmJ (bm0.length + i)).1 ∧ ∃ e, h (nmJ (bm0.length + i)).1 = some e ∧ e.ver = 0
  | [], cs, all, bm0, bm, n, he, hn, _ => by
    simp only [gatherB, Option.some.injEq, Prod.mk.injEq] at he
    obtain ⟨_, rfl⟩ := he
    exact ⟨fun _ _ => rfl, fun i hi => by simp at hn; omega⟩
  | (q, ds) :: bl, cs, all, bm0, bm, n, he, hn, hp => by
    have step : ∀ {k : Nat} {cs' : List Cell}, gatherB h bl cs' (bm0 ++ [k]) = some (all, bm) → ∀ m, m ≤ bl.length → ((bl.take m).all fun p => p.1.isNone) = true →
        (∀ i, i < bm0.length → bm[i]? = bm0[i]?) ∧ bm[bm0.length]? = some k ∧ ∀ i, i < m → bm[bm0.length + (i + 1)]? = some (nmJ (bm0.length + (i + 1))).1 ∧ ∃ e, h (nmJ (bm0.length + (i + 1))).1 = some e ∧ e.ver = 0 := fun {k cs'} he' m hm hp' => by
      obtain ⟨g1, g2⟩ := gatherB_pins he' hm hp'
      refine ⟨fun i hi => ?_, ?_, fun i hi => ?_⟩
      · rw [g1 i (by simp; omega), List.getElem?_append_left hi]
      · rw [g1 bm0.length (by simp)]; simp
      · have := g2 i hi
        simp only [List.length_append, List.length_cons, List.length_nil, Nat.zero_add] at this
        rwa [show bm0.length + 1 + i = bm0.length + (i + 1) by omega] at this
    cases n with
    | zero =>
      have : ∃ k cs', gatherB h bl cs' (bm0 ++ [k]) = some (all, bm) := by
        cases q with
        | none =>
          simp only [gatherB] at he
          split at he
          · obtain ⟨_, he⟩ := if_some he; exact ⟨_, _, he⟩
          · cases he
        | some p =>
          simp only [gatherB] at he
          split at he
          · split at he
            · obtain ⟨_, he⟩ := if_some he; exact ⟨_, _, he⟩
            · cases he
          · cases he
      obtain ⟨k, cs', he'⟩ := this
      exact ⟨(step he' 0 (Nat.zero_le _) (by simp)).1, fun i hi => by omega⟩
    | succ n =>
      simp only [List.take_succ_cons, List.all_cons, Bool.and_eq_true] at hp
      cases q with
      | some p => simp at hp
      | none =>
        simp only [gatherB] at he
        split at he
        · rename_i l hat
          obtain ⟨_, he⟩ := if_some he
          obtain ⟨e, hk, hve, _⟩ := at_some hat
          obtain ⟨g1, g2, g3⟩ := step he n (by simpa using hn) hp.2
          refine ⟨g1, fun i hi => ?_⟩
          cases i with
          | zero => exact ⟨g2, e, hk, hve⟩
          | succ i => exact g3 i (by omega)
        · cases he

/-- The boxes that were lent, stand first. -/
theorem abs_pins {sh : Shape} {st : St} {a : Abs sh.T} (he : sh.abs st = some a) {n : Nat} (hp : sh.pins n = true) : ∀ i, i < n → a.bm[i]? = some (nmJ i).1 ∧ ∃ e, st.h (nmJ i).1 = some e ∧ e.ver = 0 := by
  unfold Shape.pins at hp
  simp only [Bool.and_eq_true, decide_eq_true_eq] at hp
  unfold Shape.abs at he
  split at he
  · split at he
    · rename_i hg
      split at he
      · split at he
        · simp only [Option.some.injEq] at he
          subst he
          intro i hi
          have := (gatherB_pins hg hp.1 hp.2).2 i hi
          simpa using this
        · cases he
      · cases he
    · cases he
  · cases he

/-- What an invariant says of the world alone. -/
structure InvW (C : Ctx) (w : World) : Prop where
  frame : ∀ g, g < C.w0.heap.size → ¬ C.own g → w.heap[g]? = C.w0.heap[g]?
  size : C.w0.heap.size ≤ w.heap.size
  os : w.os = C.w0.os
  tape : w.tape = C.w0.tape
  output : w.output = C.w0.output
  new : ∀ g, C.w0.heap.size ≤ g → C.own g
  rd : ∀ g, C.own g → C.rd g
  laid : C.L w
  stable : ∀ a b : World, C.L a → (∀ g, ¬ C.own g → b.heap[g]? = a.heap[g]?) → C.L b

theorem Inv.invW (I : Inv C γ h w) : InvW C w := ⟨I.frame, I.size, I.os, I.tape, I.output, I.new, I.rd, I.laid, I.stable⟩

theorem abs_sound {sh : Shape} {st : St} {a : Abs sh.T} (he : sh.abs st = some a) {vals : Array Value} (R' : Rel C γ w st vals) {nm : Nm} (hnm : ∀ i j, (nm i).1 = (nm j).1 → i = j)
    (W : InvW C' w) (hrd : ∀ d g, okb C γ st.h d g → g < w.heap.size → (∀ x, d = some x → x.1 ∈ a.m.deps) → C'.rd g) (hown : ∀ k e g c, k ∈ a.keys → st.h k = some e → e.box.live → γ k = some (g, c) → C'.own g)
    (hlent : ∀ i, i < C'.nl → nm i = nmJ i ∧ ∃ k, a.bm[i]? = some k ∧ γ k = C'.lent i) :
    ∃ γ', Rel C' γ' w (sh.mk' nm st.s.length a.x) vals ∧ a.bm.length = sh.boxes.length ∧ (∀ i k, a.bm[i]? = some k → γ' (nm i).1 = γ k ∧ ∃ e l, st.h k = some e ∧ e.box = .cells l) ∧ (∀ j q, a.m.rows[j]? = some q → γ' (nm (sh.boxes.length + j)).1 = q.elim none γ) := by
  have I := R'.inv
  unfold Shape.abs at he
  split at he
  · rename_i cs h1
    split at he
    · rename_i all bm h2
      split at he
      · rename_i x met h3
        split at he
        · rename_i hcond
          simp only [Option.some.injEq] at he
          subst he
          simp only [Bool.and_eq_true] at hcond
          have hnd := nodupB_sound hcond.1
          have hap : ∀ k, k ∈ met.deps → k ∉ bm ++ met.rows.filterMap id := fun k hk => by
            have := List.all_eq_true.1 hcond.2 k hk
            simpa using this
          obtain ⟨hg1, hok⟩ := gatherS_sound R'.slot h1
          obtain ⟨ks, more, hbm, hbx, hall⟩ := gatherB_sound I h2 hg1
          simp only [List.nil_append] at hbm
          obtain rfl : ks = bm := hbm.symm
          have hkl := hbx.len
          -- names
          let nb := sh.boxes.length
          let src : Nat → Option (Nat × Nat) := fun i => if i < nb then (ks[i]?).elim none γ else (met.rows[i - nb]?).elim none (fun q => q.elim none γ)
          obtain ⟨γ', hγ1, hγ2⟩ := exists_fun (fun i => (nm i).1) hnm src none (nb + met.rows.length)
          have hγb : ∀ i k, ks[i]? = some k → γ' (nm i).1 = γ k := fun i k hi => by
            have hlt : i < nb := by have := (List.getElem?_eq_some_iff.1 hi).1; omega
            rw [hγ1 i (by omega)]
            simp only [src, if_pos hlt, hi, Option.elim_some]
          have hγr : ∀ j q, met.rows[j]? = some q → γ' (nm (nb + j)).1 = q.elim none γ := fun j q hj => by
            have hlt := (List.getElem?_eq_some_iff.1 hj).1
            rw [hγ1 (nb + j) (by omega)]
            simp only [src]
            rw [if_neg (by omega), Nat.add_sub_cancel_left, hj]
            rfl
          -- the new state's parts
          let ml := mkL nm sh.all x nb
          let ps := putSlots (List.replicate st.s.length V.dead) sh.slots ml.1
          let bs := putBoxes nm 0 sh.boxes ps.2
          let h' := Heap.ofList (bs ++ ml.2.1)
          have hmk : sh.mk' nm st.s.length x = ⟨ps.1, h'⟩ := rfl
          -- keys of rows: from the structure alone
          have hkeysM : ∀ (l : List CD) (cs : List Cell) (y : TL l) (mt : Met) (m : Nat), absL st.h ks l cs = some (y, mt) → (mkL nm l y m).2.1.map (·.1) = (List.range mt.rows.length).map (fun j => (nm (m + j)).1) ∧ (mkL nm l y m).2.2 = m + mt.rows.length := by
            intro l
            induction l with
            | nil =>
              intro cs y mt m ha
              cases cs with
              | nil =>
                simp only [absL, Option.some.injEq, Prod.mk.injEq] at ha
                obtain ⟨_, rfl⟩ := ha
                simp [mkL]
              | cons _ _ => simp [absL] at ha
            | cons c l ih =>
              intro cs y mt m ha
              cases cs with
              | nil => simp [absL] at ha
              | cons z cs =>
                simp only [absL] at ha
                split at ha
                · rename_i y1 m1 h1'
                  split at ha
                  · rename_i y2 m2 h2'
                    simp only [Option.some.injEq, Prod.mk.injEq] at ha
                    obtain ⟨rfl, rfl⟩ := ha
                    have hone : (c.mk nm y1 m).2.1.map (·.1) = (List.range m1.rows.length).map (fun j => (nm (m + j)).1) ∧ (c.mk nm y1 m).2.2 = m + m1.rows.length := by
                      unfold CD.abs at h1'
                      (repeat' split at h1') <;> first | (cases h1'; done) | (have e := (Prod.mk.inj (Option.some.inj h1')).2; subst e; simp [CD.mk])
                    obtain ⟨g1, g2⟩ := ih cs y2 m2 (m + m1.rows.length) h2'
                    simp only [mkL, hone.2]
                    refine ⟨?_, by rw [g2, List.length_append]; omega⟩
                    rw [List.map_append, hone.1, g1, List.length_append, List.range_add, List.map_append, List.map_map]
                    congr 1
                    apply List.map_congr_left
                    intro j _
                    simp [Nat.add_assoc]
                  · cases ha
                · cases ha
          obtain ⟨hkr, _⟩ := hkeysM sh.all all x met nb h3
          have hkb := putBoxes_keys nm 0 sh.boxes ps.2
          have hkeys : (bs ++ ml.2.1).map (·.1) = (List.range (nb + met.rows.length)).map fun i => (nm i).1 := by
            rw [List.map_append, show bs.map (·.1) = _ from hkb, show ml.2.1.map (·.1) = _ from hkr, List.range_add, List.map_append, List.map_map]
            simp only [Nat.zero_add]
            rfl
          have hnd' : ((bs ++ ml.2.1).map (·.1)).Nodup := by
            rw [hkeys]
            exact List.Pairwise.map _ (fun i j e e' => e (hnm i j e')) List.nodup_range
          have hent : ∀ p, p ∈ bs ++ ml.2.1 → h' p.1 = some p.2 := fun p hp => ofList_mem hnd' hp
          -- where live keys come from
          have origin : ∀ k' e', h' k' = some e' → ∃ i, i < nb + met.rows.length ∧ k' = (nm i).1 := fun k' e' hk => by
            have hm := ofList_some hk
            have : k' ∈ (bs ++ ml.2.1).map (·.1) := List.mem_map.2 ⟨_, hm, rfl⟩
            rw [hkeys] at this
            obtain ⟨i, hi, rfl⟩ := List.mem_map.1 this
            exact ⟨i, by simpa using hi, rfl⟩
          have rowLive : ∀ k, some k ∈ met.rows → ∃ e, st.h k = some e ∧ e.box.live := by
            have : ∀ (l : List CD) (cs : List Cell) (y : TL l) (mt : Met), absL st.h ks l cs = some (y, mt) → ∀ k, some k ∈ mt.rows → ∃ e, st.h k = some e ∧ e.box.live := by
              intro l
              induction l with
              | nil =>
                intro cs y mt ha k hk
                cases cs with
                | nil =>
                  simp only [absL, Option.some.injEq, Prod.mk.injEq] at ha
                  obtain ⟨_, rfl⟩ := ha
                  simp at hk
                | cons _ _ => simp [absL] at ha
              | cons c l ih =>
                intro cs y mt ha k hk
                cases cs with
                | nil => simp [absL] at ha
                | cons z cs =>
                  simp only [absL] at ha
                  split at ha
                  · rename_i y1 m1 h1'
                    split at ha
                    · rename_i y2 m2 h2'
                      simp only [Option.some.injEq, Prod.mk.injEq] at ha
                      obtain ⟨rfl, rfl⟩ := ha
                      rcases List.mem_append.1 hk with hk | hk
                      · unfold CD.abs at h1'
                        (repeat' split at h1') <;> first
                          | (cases h1'; done)
                          | (have e := (Prod.mk.inj (Option.some.inj h1')).2; subst e; simp at hk; done)
                          | (rename_i hat _ _ _ _
                             have e := (Prod.mk.inj (Option.some.inj h1')).2
                             subst e
                             simp only [List.mem_singleton, Option.some.injEq] at hk
                             subst hk
                             obtain ⟨en, hen, _, hbx'⟩ := at_some hat
                             exact ⟨en, hen, by rw [hbx']; trivial⟩)
                      · exact ih cs y2 m2 h2' k hk
                    · cases ha
                  · cases ha
            exact this sh.all all x met h3
          have back : ∀ i g c, i < nb + met.rows.length → γ' (nm i).1 = some (g, c) → ∃ k0 e0, k0 ∈ ks ++ met.rows.filterMap id ∧ st.h k0 = some e0 ∧ e0.box.live ∧ γ k0 = some (g, c) ∧ (if i < nb then ks[i]? = some k0 else met.rows[i - nb]? = some (some k0)) := by
            intro i g c hi hγ
            by_cases hlt : i < nb
            · have hki : ks[i]? = some ks[i] := by simp
              rw [hγb i _ hki] at hγ
              obtain ⟨e, l, g', h4, h5, h6⟩ := hbx.get hki
              exact ⟨ks[i], e, by simp, h4, by rw [h5]; trivial, hγ, by rw [if_pos hlt]; exact hki⟩
            · have hj : i - nb < met.rows.length := by omega
              have hq : met.rows[i - nb]? = some met.rows[i - nb] := by simp [hj]
              have := hγr (i - nb) _ hq
              rw [show nb + (i - nb) = i by omega] at this
              rw [this] at hγ
              cases hqq : met.rows[i - nb] with
              | none => rw [hqq] at hγ; simp at hγ
              | some k0 =>
                rw [hqq] at hγ hq
                obtain ⟨e, h4, h5⟩ := rowLive k0 (List.mem_of_getElem? hq)
                exact ⟨k0, e, by simp only [List.mem_append, List.mem_filterMap]; exact .inr ⟨some k0, List.mem_of_getElem? hq, rfl⟩, h4, h5, hγ, by rw [if_neg hlt]; exact hq⟩
          have N : Ren C γ st.h w C' γ' h' (ks ++ met.rows.filterMap id) met.deps := by
            refine ⟨fun k' e' g c hk hl hγ => ?_, hap, hrd⟩
            obtain ⟨i, hi, rfl⟩ := origin k' e' hk
            obtain ⟨k0, e0, h4, h5, h6, h7, _⟩ := back i g c hi hγ
            exact ⟨k0, e0, c, h4, h5, h6, h7⟩
          have hboxN : ∀ i k, ks[i]? = some k → (∃ e l, h' (nm i).1 = some e ∧ e.ver = (nm i).2 ∧ e.box = .cells l) ∧ γ' (nm i).1 = γ k := fun i k hi => by
            refine ⟨?_, hγb i k hi⟩
            have hlt : i < sh.boxes.length := by have := (List.getElem?_eq_some_iff.1 hi).1; omega
            have : ∀ (i0 : Nat) (bl : List (Option Nat × List CD)) (cs : List Cell) (j : Nat), j < bl.length → ∃ l, ((nm (i0 + j)).1, (⟨(nm (i0 + j)).2, 0, .cells l⟩ : En)) ∈ putBoxes nm i0 bl cs := by
              intro i0 bl
              induction bl generalizing i0 with
              | nil => intro cs j hj; simp at hj
              | cons b bl ih =>
                intro cs j hj
                obtain ⟨p, ds⟩ := b
                cases j with
                | zero => exact ⟨_, by simp only [putBoxes, Nat.add_zero]; exact List.mem_cons_self⟩
                | succ j =>
                  obtain ⟨l, hl⟩ := ih (i0 + 1) (cs.drop ds.length) j (by simpa using hj)
                  exact ⟨l, by simp only [putBoxes]; rw [show i0 + (j + 1) = i0 + 1 + j by omega]; exact List.mem_cons_of_mem _ hl⟩
            obtain ⟨l, hl⟩ := this 0 sh.boxes ps.2 i hlt
            rw [Nat.zero_add] at hl
            exact ⟨_, l, hent _ (List.mem_append_left _ hl), rfl, rfl⟩
          obtain ⟨hcells, _, hboxes⟩ := absL_sound I N (nm := nm) hboxN (m := nb) h3 hall (fun k hk => hk) (fun k hk => by simp only [List.mem_append, List.mem_filterMap]; exact .inr ⟨some k, hk, rfl⟩) (fun p hp => hent p (List.mem_append_right _ hp)) hγr
          obtain ⟨hl1, hl2, hl3⟩ := putSlots_sound (C := C') (γ := γ') (h := h') (w := w) (sl := sh.slots) (l := List.replicate st.s.length V.dead) hok (fun i v hv => by
            rw [List.getElem?_replicate] at hv
            split at hv
            · simp only [Option.some.injEq] at hv; subst hv; trivial
            · cases hv) hcells
          refine ⟨γ', ?_, hkl, fun i k hi => ⟨hγb i k hi, ?_⟩, hγr⟩
          · rw [hmk]
            refine ⟨by rw [R'.size]; simpa using hl1.symm, hl2, ⟨fun k e hk => ?_, fun k k' e e' g c c' hk hl hk' hl' h4 h5 => ?_, fun k e g c hk hl h4 => ?_, W.frame, W.size, W.os, W.tape, W.output, W.new, W.rd, W.laid, W.stable, fun i hi => ?_⟩⟩
            · have hm := ofList_some hk
              rcases List.mem_append.1 hm with hm | hm
              · exact putBoxes_box (C' := C') (γ' := γ') (h' := h') (rest := []) (i := 0) hbx (fun j k' hj => by rw [Nat.zero_add]; exact hγb j k' hj) (by simpa using hl3) _ hm
              · exact hboxes _ hm
            · obtain ⟨i, hi, rfl⟩ := origin k e hk
              obtain ⟨j, hj, rfl⟩ := origin k' e' hk'
              obtain ⟨k0, e0, _, h6, h7, h8, h9⟩ := back i g c hi h4
              obtain ⟨k1, e1, _, h10, h11, h12, h13⟩ := back j g c' hj h5
              have hkk := I.inj k0 k1 e0 e1 g c c' h6 h7 h10 h11 h8 h12
              subst hkk
              -- one key stands at one place
              have hfm : ∀ (l : List (Option Nat)) (i j : Nat) (k : Nat), (l.filterMap id).Nodup → l[i]? = some (some k) → l[j]? = some (some k) → i = j := by
                intro l
                induction l with
                | nil => intro i j k _ hi; simp at hi
                | cons q l ih =>
                  intro i j k hn hi hj
                  cases i with
                  | zero =>
                    cases j with
                    | zero => rfl
                    | succ j =>
                      simp only [List.getElem?_cons_zero, Option.some.injEq] at hi
                      subst hi
                      simp only [List.filterMap_cons, id, List.nodup_cons] at hn
                      exact absurd ((List.mem_filterMap (f := id)).2 ⟨some k, List.mem_of_getElem? (i := j) (by simpa using hj), rfl⟩) hn.1
                  | succ i =>
                    have hn' : (l.filterMap id).Nodup := by
                      cases q with
                      | none => simpa using hn
                      | some q => simp only [List.filterMap_cons, id, List.nodup_cons] at hn; exact hn.2
                    cases j with
                    | zero =>
                      simp only [List.getElem?_cons_zero, Option.some.injEq] at hj
                      subst hj
                      simp only [List.filterMap_cons, id, List.nodup_cons] at hn
                      exact absurd ((List.mem_filterMap (f := id)).2 ⟨some k, List.mem_of_getElem? (i := i) (by simpa using hi), rfl⟩) hn.1
                    | succ j => exact congrArg _ (ih i j k hn' (by simpa using hi) (by simpa using hj))
              rw [List.nodup_append] at hnd
              by_cases hi' : i < nb <;> by_cases hj' : j < nb
              · rw [if_pos hi'] at h9
                rw [if_pos hj'] at h13
                have : i = j := by
                  have e1 := List.getElem?_eq_some_iff.1 h9
                  have e2 := List.getElem?_eq_some_iff.1 h13
                  obtain ⟨b1, e1⟩ := e1
                  obtain ⟨b2, e2⟩ := e2
                  exact nodup_idx hnd.1 b1 b2 (e1.trans e2.symm)
                rw [this]
              · rw [if_pos hi'] at h9
                rw [if_neg hj'] at h13
                exact absurd rfl (hnd.2.2 k0 (List.mem_of_getElem? h9) k0 (List.mem_filterMap.2 ⟨some k0, List.mem_of_getElem? h13, rfl⟩))
              · rw [if_neg hi'] at h9
                rw [if_pos hj'] at h13
                exact absurd rfl (hnd.2.2 k0 (List.mem_of_getElem? h13) k0 (List.mem_filterMap.2 ⟨some k0, List.mem_of_getElem? h9, rfl⟩))
              · rw [if_neg hi'] at h9
                rw [if_neg hj'] at h13
                have := hfm met.rows _ _ k0 hnd.2.1 h9 h13
                rw [show i = j by omega]
            · obtain ⟨i, hi, rfl⟩ := origin k e hk
              obtain ⟨k0, e0, h5, h6, h7, h8, _⟩ := back i g c hi h4
              exact hown k0 e0 g c h5 h6 h7 h8
            · obtain ⟨hn, k, hk, hγk⟩ := hlent i hi
              obtain ⟨⟨e, l, h4, _, _⟩, h5⟩ := hboxN i k hk
              rw [hn] at h4 h5
              exact ⟨e, h4, fun _ => h5.trans hγk⟩
          · obtain ⟨e, l, g, h4, h5, _⟩ := hbx.get hi
            exact ⟨e, l, h4, h5⟩
        · cases he
      · cases he
    · cases he
  · cases he

end
end Rv
