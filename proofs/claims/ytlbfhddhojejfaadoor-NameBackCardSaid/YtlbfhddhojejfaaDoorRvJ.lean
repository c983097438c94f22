/- From a state to its shape's values, and back: what the values make is as good as the state. -/
import Derived.Test.YtlbfhddhojejfaaDoorRvI
set_option linter.all false
namespace Rv
open Go

section
variable {P : Program} {C C' : Ctx} {γ γ' : Gam} {h h' : Heap} {w : World} {R : Type} {r : R}

theorem rawEq_eq {a b : Value} (he : rawEq a b = true) : a = b := by
  unfold rawEq at he
  split at he
  · rfl
  · rfl
  · rfl
  · rename_i f a b g c d
    simp only [Bool.and_eq_true, beq_iff_eq, Array.isEmpty_iff] at he
    obtain ⟨⟨⟨⟨rfl, rfl⟩, rfl⟩, rfl⟩, rfl⟩ := he
    rfl
  · cases he

/-- What is asked of the new names: the new live keys stand for old ones that nothing read hangs on. -/
structure Ren (C : Ctx) (γ : Gam) (h : Heap) (w : World) (C' : Ctx) (γ' : Gam) (h' : Heap) (keys deps : List Nat) : Prop where
  back : ∀ k' e' g c, h' k' = some e' → e'.box.live → γ' k' = some (g, c) → ∃ k0 e0 c0, k0 ∈ keys ∧ h k0 = some e0 ∧ e0.box.live ∧ γ k0 = some (g, c0)
  apart : ∀ k, k ∈ deps → k ∉ keys
  rd : ∀ d g, okb C γ h d g → g < w.heap.size → (∀ x, d = some x → x.1 ∈ deps) → C'.rd g

theorem Ren.okb {keys deps : List Nat} (N : Ren C γ h w C' γ' h' keys deps) {d : Dep} {g : Nat} (ho : Rv.okb C γ h d g) (hg : g < w.heap.size) (hd : ∀ x, d = some x → x.1 ∈ deps) : Rv.okb C' γ' h' none g := by
  refine ⟨N.rd d g ho hg hd, fun k' e' c hk hl hγ => ?_⟩
  obtain ⟨k0, e0, c0, hk0, he0, hl0, hγ0⟩ := N.back k' e' g c hk hl hγ
  have := (ho.2 k0 e0 c0 he0 hl0 hγ0).1
  exact absurd hk0 (N.apart k0 (by have := hd _ this; simpa using this))

theorem Ren.rdm {keys deps : List Nat} (N : Ren C γ h w C' γ' h' keys deps) {t : Ty} {x : t.D} {cs : List Value} (hr : Rd w (Rv.okb C γ h none) t x cs) : Rd w (Rv.okb C' γ' h' none) t x cs :=
  hr.mono (Nat.le_refl _) fun g ho hg => ⟨rfl, N.okb ho hg (fun x e => by cases e)⟩

theorem Ren.rds {keys deps : List Nat} (N : Ren C γ h w C' γ' h' keys deps) {d : Dep} {t : Ty} {xs : List t.D} {v : Value} (hr : RdS C γ h w d t xs v) (hd : ∀ x, d = some x → x.1 ∈ deps) : RdS C' γ' h' w none t xs v := by
  obtain ⟨A, c, hv, hle, hx⟩ := hr
  refine ⟨A, c, hv, hle, fun i x e => ?_⟩
  obtain ⟨g, o, ds, hA, ho, hg, hrd, hc⟩ := hx i x e
  exact ⟨g, o, ds, hA, N.okb ho hg hd, hg, N.rdm hrd, hc⟩

theorem castB_some {t : Ty} {b : Box} {ys : List t.D} (hc : castB h t b = some ys) : b.len = some ys.length ∧ ((∃ e, b = .row e t ys) ∨ b = .pub t ys) := by
  unfold castB at hc
  split at hc
  · rename_i e t' xs
    obtain ⟨rfl, hy⟩ := castD_some hc
    simp only at hy
    subst hy
    exact ⟨rfl, .inl ⟨e, rfl⟩⟩
  · rename_i t' xs
    obtain ⟨rfl, hy⟩ := castD_some hc
    simp only at hy
    subst hy
    exact ⟨rfl, .inr rfl⟩
  · cases hc

theorem rowOf_at {k v : Nat} {t : Ty} {b : Box} {ys : List t.D} (ha : h.at k v = some b) (hb : (∃ e, b = .row e t ys) ∨ b = .pub t ys) : rowOf h (.own k v) = some ⟨t, ys⟩ ∧ ∀ n, rowOf h (.ownP k v n) = some ⟨t, ys.take n⟩ := by
  rcases hb with ⟨e, rfl⟩ | rfl
  · simp [rowOf, ha]
  · simp [rowOf, ha]

/-- One cell, and what stands for it. -/
theorem cd_sound (I : Inv C γ h w) {keys deps bm : List Nat} (N : Ren C γ h w C' γ' h' keys deps) {nm : Nm} {cd : CD} {c : Cell} {y : cd.T} {met : Met} (ha : cd.abs h bm c = some (y, met)) {v : Value} (hv : RepC C γ h w c v) {m : Nat}
    (hdeps : ∀ k, k ∈ met.deps → k ∈ deps) (hrows : ∀ k, some k ∈ met.rows → k ∈ keys)
    (hent : ∀ p, p ∈ (cd.mk nm y m).2.1 → h' p.1 = some p.2) (hγr : ∀ j q, met.rows[j]? = some q → γ' (nm (m + j)).1 = q.elim none γ)
    (hbox : ∀ i k, bm[i]? = some k → (∃ e l, h' (nm i).1 = some e ∧ e.ver = (nm i).2 ∧ e.box = .cells l) ∧ γ' (nm i).1 = γ k) :
    RepC C' γ' h' w (cd.mk nm y m).1 v ∧ (cd.mk nm y m).2.2 = m + met.rows.length ∧ (cd.mk nm y m).2.1.map (·.1) = (List.range met.rows.length).map (fun j => (nm (m + j)).1) ∧
      ∀ p, p ∈ (cd.mk nm y m).2.1 → BoxR C' γ' h' w p.1 p.2.box := by
  have h1 := RepC.one hv
  unfold CD.abs at ha
  split at ha
  · rename_i k j n
    obtain ⟨hk, ha⟩ := if_some ha
    simp only [Prod.mk.injEq, Option.some.injEq] at ha
    obtain ⟨rfl, rfl⟩ := ha
    subst hk
    exact ⟨hv, by simp [CD.mk], by simp [CD.mk], fun p hp => by simp [CD.mk] at hp⟩
  · simp only [Prod.mk.injEq, Option.some.injEq] at ha
    obtain ⟨rfl, rfl⟩ := ha
    exact ⟨hv, by simp [CD.mk], by simp [CD.mk], fun p hp => by simp [CD.mk] at hp⟩
  · simp only [Prod.mk.injEq, Option.some.injEq] at ha
    obtain ⟨rfl, rfl⟩ := ha
    exact ⟨hv, by simp [CD.mk], by simp [CD.mk], fun p hp => by simp [CD.mk] at hp⟩
  · simp only [Prod.mk.injEq, Option.some.injEq] at ha
    obtain ⟨rfl, rfl⟩ := ha
    refine ⟨⟨h1, ?_⟩, by simp [CD.mk], by simp [CD.mk], fun p hp => by simp [CD.mk] at hp⟩
    rw [show v = _ from hv]
    exact ⟨none, 0, by simp, by simp, fun i x e => by simp at e⟩
  · rename_i t d t' xs
    obtain ⟨hd, ha⟩ := if_some ha
    split at ha
    · rename_i ys hc
      obtain ⟨rfl, hy⟩ := castD_some hc
      simp only at hy
      subst hy
      simp only [Prod.mk.injEq, Option.some.injEq] at ha
      obtain ⟨rfl, rfl⟩ := ha
      refine ⟨⟨h1, N.rds (hv.2.get hd) fun x e => hdeps _ ?_⟩, by simp [CD.mk], by simp [CD.mk], fun p hp => by simp [CD.mk] at hp⟩
      subst e; simp
    · cases ha
  · rename_i t k kv
    split at ha
    · rename_i b hat
      split at ha
      · rename_i ys hc
        simp only [Prod.mk.injEq, Option.some.injEq] at ha
        obtain ⟨rfl, rfl⟩ := ha
        obtain ⟨_, hb⟩ := castB_some hc
        have hr := (rowOf_at hat hb).1
        have := rowOf_rd I hr hv
        obtain ⟨e, he, hve, _⟩ := at_some hat
        refine ⟨⟨h1, N.rds this fun x ex => hdeps _ ?_⟩, by simp [CD.mk], by simp [CD.mk], fun p hp => by simp [CD.mk] at hp⟩
        simp only [depOf, he, Option.map_some, Option.some.injEq] at ex
        subst ex; simp
      · cases ha
    · cases ha
  · rename_i t k kv n
    split at ha
    · rename_i b hat
      split at ha
      · rename_i ys hc
        simp only [Prod.mk.injEq, Option.some.injEq] at ha
        obtain ⟨rfl, rfl⟩ := ha
        obtain ⟨_, hb⟩ := castB_some hc
        have hr := (rowOf_at hat hb).2 n
        have := rowOf_rd I hr hv
        obtain ⟨e, he, hve, _⟩ := at_some hat
        refine ⟨⟨h1, N.rds this fun x ex => hdeps _ ?_⟩, by simp [CD.mk], by simp [CD.mk], fun p hp => by simp [CD.mk] at hp⟩
        simp only [depOf, he, Option.map_some, Option.some.injEq] at ex
        subst ex; simp
      · cases ha
    · cases ha
  · rename_i e t
    simp only [Prod.mk.injEq, Option.some.injEq] at ha
    obtain ⟨rfl, rfl⟩ := ha
    have hg := hγr 0 none rfl
    simp only [Nat.add_zero, Option.elim_none] at hg
    refine ⟨⟨h1, now_self (hent ((nm m).1, ⟨(nm m).2, 0, .row e t []⟩) (by simp [CD.mk])) rfl fun n hn => ?_⟩, by simp [CD.mk], by simp [CD.mk], fun p hp => ?_⟩
    · simp only [Box.len, List.length_nil, Option.some.injEq] at hn
      subst hn
      rw [hg, show v = _ from hv]
      exact ⟨rfl, rfl⟩
    · simp only [CD.mk, List.mem_singleton] at hp
      subst hp
      exact .inl ⟨hg, rfl⟩
  · rename_i e t k kv
    split at ha
    · rename_i e' t' xs hat
      split at ha
      · rename_i hee
        split at ha
        · rename_i ys hc
          obtain ⟨rfl, hy⟩ := castD_some hc
          simp only at hy
          subst hy
          subst hee
          simp only [Prod.mk.injEq, Option.some.injEq] at ha
          obtain ⟨rfl, rfl⟩ := ha
          have hg := hγr 0 (some k) rfl
          simp only [Nat.add_zero, Option.elim_some] at hg
          obtain ⟨en, he, hve, hbx⟩ := at_some hat
          refine ⟨⟨h1, now_self (hent ((nm m).1, ⟨(nm m).2, 0, .row e' t' xs⟩) (by simp [CD.mk])) rfl fun n hn => ?_⟩, by simp [CD.mk], by simp [CD.mk], fun p hp => ?_⟩
          · simp only [Box.len, Option.some.injEq] at hn
            subst hn
            rw [hg]
            exact hv.2.get he hve _ (by rw [hbx]; rfl)
          · simp only [CD.mk, List.mem_singleton] at hp
            subst hp
            have hb0 := I.box k en he
            rw [hbx] at hb0
            rcases hb0 with ⟨h0, hx⟩ | ⟨g, c, cur, hγ, hb, hc, hcm, hcs, hsz, hr⟩
            · exact .inl ⟨by rw [hg]; exact h0, hx⟩
            · exact .inr ⟨g, c, cur, by rw [hg]; exact hγ, hb, hc, hcm, hcs, hsz, fun i x hx => N.rdm (hr i x hx)⟩
        · cases ha
      · cases ha
    · cases ha
  · rename_i e t k kv n0
    split at ha
    · rename_i e' t' xs hat
      split at ha
      · rename_i hee
        split at ha
        · rename_i ys hc
          obtain ⟨rfl, hy⟩ := castD_some hc
          simp only at hy
          subst hy
          subst hee
          simp only [Prod.mk.injEq, Option.some.injEq] at ha
          obtain ⟨rfl, rfl⟩ := ha
          have hg := hγr 0 (some k) rfl
          simp only [Nat.add_zero, Option.elim_some] at hg
          obtain ⟨en, he, hve, hbx⟩ := at_some hat
          obtain ⟨hle, hO⟩ := hv.2.get he hve _ (by rw [hbx]; rfl)
          refine ⟨⟨h1, now_self (hent ((nm m).1, ⟨(nm m).2, 0, .row e' t' (xs.take n0)⟩) (by simp [CD.mk])) rfl fun n hn => ?_⟩, by simp [CD.mk], by simp [CD.mk], fun p hp => ?_⟩
          · simp only [Box.len, Option.some.injEq, List.length_take] at hn
            have : n = n0 := by omega
            subst this
            rw [hg]
            exact hO
          · simp only [CD.mk, List.mem_singleton] at hp
            subst hp
            have hb0 := I.box k en he
            rw [hbx] at hb0
            rcases hb0 with ⟨h0, hx⟩ | ⟨g, c, cur, hγ, hb, hc, hcm, hcs, hsz, hr⟩
            · exact .inl ⟨by rw [hg]; exact h0, by rw [hx]; simp⟩
            · refine .inr ⟨g, c, cur, by rw [hg]; exact hγ, hb, by rw [List.length_take]; omega, hcm, hcs, hsz, fun i x hx => N.rdm (hr i x ?_)⟩
              rw [List.getElem?_take] at hx
              split at hx
              · exact hx
              · cases hx
        · cases ha
      · cases ha
    · cases ha
  · rename_i i off k kv o
    obtain ⟨hbk, ha⟩ := if_some ha
    obtain ⟨hoff, ha⟩ := if_some ha
    split at ha
    · rename_i l hat
      have ha := (Prod.mk.inj (Option.some.inj ha)).2
      subst ha
      subst hoff
      obtain ⟨en, he, hve, hbx⟩ := at_some hat
      obtain ⟨⟨e, l', he', hve', hbx'⟩, hg⟩ := hbox i k hbk
      refine ⟨⟨h1, now_self he' hve' fun l'' _ => ?_⟩, by simp [CD.mk], by simp [CD.mk], fun p hp => by simp [CD.mk] at hp⟩
      rw [hg]
      exact hv.2.get he hve l hbx
    · cases ha
  · rename_i u u'
    obtain ⟨hr, ha⟩ := if_some ha
    have ha := (Prod.mk.inj (Option.some.inj ha)).2
    subst ha
    have := rawEq_eq hr
    subst this
    exact ⟨hv, by simp [CD.mk], by simp [CD.mk], fun p hp => by simp [CD.mk] at hp⟩
  · have ha2 := (Prod.mk.inj (Option.some.inj ha))
    obtain ⟨rfl, rfl⟩ := ha2
    exact ⟨hv, by simp [CD.mk], by simp [CD.mk], fun p hp => by simp [CD.mk] at hp⟩
  · rename_i u
    obtain ⟨hr, ha⟩ := if_some ha
    have ha2 := (Prod.mk.inj (Option.some.inj ha))
    obtain ⟨rfl, rfl⟩ := ha2
    have := rawEq_eq hr
    subst this
    exact ⟨⟨h1, fun _ => hv.1, fun e => by cases e⟩, by simp [CD.mk], by simp [CD.mk], fun p hp => by simp [CD.mk] at hp⟩
  · rename_i t k o
    have ha2 := (Prod.mk.inj (Option.some.inj ha))
    obtain ⟨rfl, rfl⟩ := ha2
    exact ⟨⟨h1, ifo_nil hv⟩, by simp [CD.mk], by simp [CD.mk], fun p hp => by simp [CD.mk] at hp⟩
  · rename_i t k t' k' o
    obtain ⟨⟨rfl, rfl⟩, ha⟩ := if_some ha
    have ha2 := (Prod.mk.inj (Option.some.inj ha))
    obtain ⟨rfl, rfl⟩ := ha2
    exact ⟨hv, by simp [CD.mk], by simp [CD.mk], fun p hp => by simp [CD.mk] at hp⟩
  · rename_i t k u
    obtain ⟨hr, ha⟩ := if_some ha
    have ha2 := (Prod.mk.inj (Option.some.inj ha))
    obtain ⟨rfl, rfl⟩ := ha2
    have := rawEq_eq hr
    subst this
    exact ⟨hv.1, by simp [CD.mk], by simp [CD.mk], fun p hp => by simp [CD.mk] at hp⟩
  · have ha := (Prod.mk.inj (Option.some.inj ha)).2
    subst ha
    exact ⟨h1, by simp [CD.mk], by simp [CD.mk], fun p hp => by simp [CD.mk] at hp⟩
  · cases ha

end
end Rv
