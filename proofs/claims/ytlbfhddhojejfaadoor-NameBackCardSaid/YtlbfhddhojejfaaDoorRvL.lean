/- Calls of told functions. -/
import Derived.Test.YtlbfhddhojejfaaDoorRvK
set_option linter.all false
namespace Rv
open Go

/-- A told function is what the program's function does: from whatever state of that shape. -/
def Sat (P : Program) (L : World → Prop) (f : FuncId) (sp : Spec) : Prop :=
  ∀ x y, sp.f x = some y → ∀ (C : Ctx) (γ : Gam) (vals : Array Value), C.L = L → C.nl = sp.a.boxes.length → Rel C γ C.w0 (sp.a.mk' nmJ sp.a.slots.length x) vals →
    Calls P f vals C.w0 fun e w' => ∃ (γ' : Gam) (rs : Array Value), e = .returned (if h : rs.size = 1 then rs[0] else .tuple rs) ∧ Rel C γ' w' (sp.r.mk' nmJ sp.r.slots.length y) rs

def Enterable (P : Program) (f : FuncId) : Prop := ∃ fn, P.funcs[f]? = some fn ∧ fn.body.isSome = true ∧ (fn.name == "runtime.NumGoroutine") = false

section
variable {P : Program} {C C' : Ctx} {γ γ' : Gam} {h h' : Heap} {w : World} {R : Type} {r : R}

theorem Rd.free {ok ok' : Nat → Prop} : ∀ {t : Ty} {x : t.D} {cs : List Value}, t.hasSl = false → Rd w ok t x cs → Rd w ok' t x cs
  | .int _, _, _, _, h => h
  | .bool, _, _, _, h => h
  | .str, _, _, _, h => h
  | .sl _, _, _, hs, _ => by simp [Ty.hasSl] at hs
  | .nil, _, _, _, h => h
  | .pair a b, _, _, hs, ⟨c1, c2, h, h1, h2⟩ => by
    simp only [Ty.hasSl, Bool.or_eq_false_iff] at hs
    exact ⟨c1, c2, h, h1.free hs.1, h2.free hs.2⟩

/-- The same values under other names. -/
theorem mkc_ren {nm nm' : Nm} {cd : CD} {y : cd.T} {m m' : Nat} {v : Value} (hv : RepC C γ h w (cd.mk nm y m).1 v) (tr : cd.shares = true → ∀ g, okb C γ h none g → g < w.heap.size → okb C' γ' h' none g)
    (he : ∀ p, p ∈ (cd.mk nm y m).2.1 → h p.1 = some p.2) (he' : ∀ p, p ∈ (cd.mk nm' y m').2.1 → h' p.1 = some p.2) (hg : cd.isRow = true → γ' (nm' m').1 = γ (nm m).1)
    (hb : ∀ i off, cd = .ptr i off → (∃ e l, h (nm i).1 = some e ∧ e.ver = (nm i).2 ∧ e.box = .cells l) ∧ (∃ e l, h' (nm' i).1 = some e ∧ e.ver = (nm' i).2 ∧ e.box = .cells l) ∧ γ' (nm' i).1 = γ (nm i).1)
    (hbr : ∀ p, p ∈ (cd.mk nm y m).2.1 → BoxR C γ h w p.1 p.2.box) :
    RepC C' γ' h' w (cd.mk nm' y m').1 v ∧ ∀ p, p ∈ (cd.mk nm' y m').2.1 → BoxR C' γ' h' w p.1 p.2.box := by
  cases cd with
  | int k => exact ⟨hv, fun p hp => by simp [CD.mk] at hp⟩
  | bool => exact ⟨hv, fun p hp => by simp [CD.mk] at hp⟩
  | str => exact ⟨hv, fun p hp => by simp [CD.mk] at hp⟩
  | raw u => exact ⟨hv, fun p hp => by simp [CD.mk] at hp⟩
  | err => exact ⟨hv, fun p hp => by simp [CD.mk] at hp⟩
  | ifo t k => exact ⟨hv, fun p hp => by simp [CD.mk] at hp⟩
  | any => exact ⟨hv, fun p hp => by simp [CD.mk] at hp⟩
  | sl t =>
    refine ⟨⟨hv.1, RdS.iff.2 ((RdS.iff.1 hv.2).mono (Nat.le_refl _) fun g ho hgs => ⟨rfl, tr rfl g ho hgs⟩)⟩, fun p hp => by simp [CD.mk] at hp⟩
  | row e t =>
    have h1 := he _ (List.mem_singleton_self _)
    have h2 := he' _ (List.mem_singleton_self _)
    have hgg := hg rfl
    refine ⟨⟨hv.1, now_self h2 rfl fun n hn => ?_⟩, fun p hp => ?_⟩
    · simp only [Box.len] at hn
      rw [hgg]
      exact hv.2.get h1 rfl n hn
    · simp only [CD.mk, List.mem_singleton] at hp
      subst hp
      have := hbr _ (List.mem_singleton_self _)
      rcases this with ⟨h0, hx⟩ | ⟨g, c, cur, hγ, hb, hc, hcm, hcs, hsz, hr⟩
      · exact .inl ⟨by rw [hgg]; exact h0, hx⟩
      · refine .inr ⟨g, c, cur, by rw [hgg]; exact hγ, hb, hc, hcm, hcs, hsz, fun i x hx => ?_⟩
        cases hsl : t.hasSl with
        | false => exact (hr i x hx).free hsl
        | true => exact (hr i x hx).mono (Nat.le_refl _) fun g ho hgs => ⟨rfl, tr hsl g ho hgs⟩
  | ptr i off =>
    obtain ⟨⟨e, l, h1, h2, h3⟩, ⟨e', l', h1', h2', h3'⟩, hgg⟩ := hb i off rfl
    refine ⟨⟨hv.1, now_self h1' h2' fun l'' _ => ?_⟩, fun p hp => by simp [CD.mk] at hp⟩
    rw [hgg]
    exact hv.2.get h1 h2 l h3

theorem mkL_count (nm : Nm) : ∀ (l : List CD) (y : TL l) (m : Nat), (mkL nm l y m).2.2 = m + (l.filter CD.isRow).length ∧ (mkL nm l y m).2.1.map (·.1) = (List.range (l.filter CD.isRow).length).map (fun j => (nm (m + j)).1) ∧ (mkL nm l y m).1.length = l.length
  | [], _, m => by simp [mkL]
  | c :: l, y, m => by
    have hc : (c.mk nm y.1 m).2.2 = m + ([c].filter CD.isRow).length ∧ (c.mk nm y.1 m).2.1.map (·.1) = (List.range ([c].filter CD.isRow).length).map (fun j => (nm (m + j)).1) := by
      cases c <;> simp [CD.mk, CD.isRow, List.filter]
    obtain ⟨h1, h2, h3⟩ := mkL_count nm l y.2 (m + ([c].filter CD.isRow).length)
    have hf : ((c :: l).filter CD.isRow).length = ([c].filter CD.isRow).length + (l.filter CD.isRow).length := by
      rw [show c :: l = [c] ++ l from rfl, List.filter_append, List.length_append]
    simp only [mkL, hc.1]
    refine ⟨by rw [h1, hf]; omega, ?_, by simp [h3]⟩
    rw [List.map_append, hc.2, h2, hf, List.range_add, List.map_append, List.map_map]
    congr 1
    apply List.map_congr_left
    intro j _
    simp [Nat.add_assoc]

theorem mkL_ren {nm nm' : Nm} : ∀ {l : List CD} {y : TL l} {m m' : Nat} {vs : List Value}, All2 (RepC C γ h w) (mkL nm l y m).1 vs → (l.any CD.shares = true → ∀ g, okb C γ h none g → g < w.heap.size → okb C' γ' h' none g) →
    (∀ p, p ∈ (mkL nm l y m).2.1 → h p.1 = some p.2) → (∀ p, p ∈ (mkL nm' l y m').2.1 → h' p.1 = some p.2) → (∀ j, j < (l.filter CD.isRow).length → γ' (nm' (m' + j)).1 = γ (nm (m + j)).1) →
    (∀ i off, CD.ptr i off ∈ l → (∃ e l, h (nm i).1 = some e ∧ e.ver = (nm i).2 ∧ e.box = .cells l) ∧ (∃ e l, h' (nm' i).1 = some e ∧ e.ver = (nm' i).2 ∧ e.box = .cells l) ∧ γ' (nm' i).1 = γ (nm i).1) →
    (∀ p, p ∈ (mkL nm l y m).2.1 → BoxR C γ h w p.1 p.2.box) →
    All2 (RepC C' γ' h' w) (mkL nm' l y m').1 vs ∧ ∀ p, p ∈ (mkL nm' l y m').2.1 → BoxR C' γ' h' w p.1 p.2.box
  | [], _, _, _, vs, ha, _, _, _, _, _, _ => by
    cases vs with
    | nil => exact ⟨trivial, fun p hp => by simp [mkL] at hp⟩
    | cons _ _ => exact ha.elim
  | c :: l, y, m, m', vs, ha, tr, he, he', hg, hb, hbr => by
    cases vs with
    | nil => exact ha.elim
    | cons v vs =>
      have hc1 : (c.mk nm y.1 m).2.2 = m + ([c].filter CD.isRow).length := by cases c <;> simp [CD.mk, CD.isRow, List.filter]
      have hc2 : (c.mk nm' y.1 m').2.2 = m' + ([c].filter CD.isRow).length := by cases c <;> simp [CD.mk, CD.isRow, List.filter]
      have hf : ((c :: l).filter CD.isRow).length = ([c].filter CD.isRow).length + (l.filter CD.isRow).length := by
        rw [show c :: l = [c] ++ l from rfl, List.filter_append, List.length_append]
      simp only [mkL, List.mem_append] at he he' hbr
      obtain ⟨g1, g2⟩ := mkc_ren (nm := nm) (nm' := nm') (cd := c) (y := y.1) (m := m) (m' := m') ha.1 (fun hs => tr (by simp [hs])) (fun p hp => he p (.inl hp)) (fun p hp => he' p (.inl hp))
        (fun hr => by have := hg 0 (by rw [hf]; simp [hr]; omega); simpa using this) (fun i off e => hb i off (by simp [e])) (fun p hp => hbr p (.inl hp))
      obtain ⟨g3, g4⟩ := mkL_ren (nm := nm) (nm' := nm') (l := l) (y := y.2) (m := m + ([c].filter CD.isRow).length) (m' := m' + ([c].filter CD.isRow).length) (vs := vs) (by have := ha.2; rw [hc1] at this; exact this) (fun hs => tr (by simp [hs])) (fun p hp => he p (.inr (by rw [hc1]; exact hp))) (fun p hp => he' p (.inr (by rw [hc2]; exact hp)))
        (fun j hj => by have := hg (([c].filter CD.isRow).length + j) (by omega); rwa [← Nat.add_assoc, ← Nat.add_assoc] at this) (fun i off hm => hb i off (by simp [hm])) (fun p hp => hbr p (.inr (by rw [hc1]; exact hp)))
      simp only [mkL, hc2]
      exact ⟨⟨g1, g3⟩, fun p hp => (List.mem_append.1 hp).elim (g2 p) (g4 p)⟩

theorem foldl_set_not : ∀ {l : List (Nat × En)} {h : Heap} {k : Nat}, k ∉ l.map (·.1) → l.foldl (fun h p => Heap.set h p.1 p.2) h k = h k
  | [], _, _, _ => rfl
  | p :: l, h, k, hk => by
    simp only [List.map_cons, List.mem_cons, not_or] at hk
    simp only [List.foldl_cons]
    rw [foldl_set_not hk.2, set_ne _ _ hk.1]

theorem foldl_set_mem : ∀ {l : List (Nat × En)} {h : Heap} {p : Nat × En}, (l.map (·.1)).Nodup → p ∈ l → l.foldl (fun h p => Heap.set h p.1 p.2) h p.1 = some p.2
  | q :: l, h, p, hn, hp => by
    simp only [List.map_cons, List.nodup_cons] at hn
    simp only [List.foldl_cons]
    rcases List.mem_cons.1 hp with rfl | hp
    · rw [foldl_set_not hn.1, set_same]
    · exact foldl_set_mem hn.2 hp

/-- An update of a key in a row of updates: some one of them, the last. -/
theorem foldl_set_some : ∀ {l : List (Nat × En)} {h : Heap} {k : Nat}, k ∈ l.map (·.1) → ∃ p, p ∈ l ∧ p.1 = k ∧ l.foldl (fun h p => Heap.set h p.1 p.2) h k = some p.2
  | q :: l, h, k, hk => by
    simp only [List.foldl_cons]
    by_cases hm : k ∈ l.map (·.1)
    · obtain ⟨p, h1, h2, h3⟩ := foldl_set_some (h := Heap.set h q.1 q.2) hm
      exact ⟨p, by simp [h1], h2, h3⟩
    · simp only [List.map_cons, List.mem_cons] at hk
      have := hk.resolve_right hm
      subst this
      exact ⟨q, by simp, rfl, by rw [foldl_set_not hm, set_same]⟩

end
end Rv
