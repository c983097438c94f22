/- What an operation does hangs on what it looks at alone: the whole operation. -/
import Derived.Test.YtlbfhddhojejfaaDoorRvPar
set_option linter.all false
namespace Rv
open Go

section
variable {R : Type} {r : R} {st st' : St} {te : TypeId → Option TI} {h h' : Heap}

theorem cd_deps {bm : List Nat} {cd : CD} {c : Cell} {y : cd.T} {m : Met} (ha : cd.abs h bm c = some (y, m)) : ∀ k, k ∈ m.deps → k ∈ c.keys := by
  intro k hk
  cases cd with
  | sl t =>
    cases c with
    | nilS => simp only [CD.abs, Option.some.injEq, Prod.mk.injEq] at ha; rw [← ha.2] at hk; simp at hk
    | sl d t' xs =>
      simp only [CD.abs] at ha
      obtain ⟨_, ha⟩ := if_some ha
      split at ha
      · simp only [Option.some.injEq, Prod.mk.injEq] at ha
        rw [← ha.2] at hk
        cases d with
        | none => simp at hk
        | some x => obtain ⟨a, b, c⟩ := x; simpa [Cell.keys] using hk
      · cases ha
    | own k' v =>
      simp only [CD.abs] at ha
      split at ha
      · split at ha
        · simp only [Option.some.injEq, Prod.mk.injEq] at ha
          rw [← ha.2] at hk
          simpa [Cell.keys] using hk
        · cases ha
      · cases ha
    | ownP k' v n =>
      simp only [CD.abs] at ha
      split at ha
      · split at ha
        · simp only [Option.some.injEq, Prod.mk.injEq] at ha
          rw [← ha.2] at hk
          simpa [Cell.keys] using hk
        · cases ha
      · cases ha
    | _ => cases ha
  | row e t =>
    cases c with
    | nilS => simp only [CD.abs, Option.some.injEq, Prod.mk.injEq] at ha; rw [← ha.2] at hk; simp at hk
    | own k' v =>
      simp only [CD.abs] at ha
      split at ha
      · obtain ⟨_, ha⟩ := if_some ha
        split at ha
        · simp only [Option.some.injEq, Prod.mk.injEq] at ha
          rw [← ha.2] at hk
          simp at hk
        · cases ha
      · cases ha
    | _ => cases ha
  | ptr i off =>
    cases c with
    | ptr k' v o =>
      simp only [CD.abs] at ha
      obtain ⟨_, ha⟩ := if_some ha
      obtain ⟨_, ha⟩ := if_some ha
      split at ha
      · have := (Prod.mk.inj (Option.some.inj ha)).2
        rw [← this] at hk; simp at hk
      · cases ha
    | _ => cases ha
  | raw v =>
    cases c with
    | raw u =>
      simp only [CD.abs] at ha
      obtain ⟨_, ha⟩ := if_some ha
      have := (Prod.mk.inj (Option.some.inj ha)).2
      rw [← this] at hk; simp at hk
    | _ => cases ha
  | err =>
    cases c with
    | err b =>
      have := (Prod.mk.inj (Option.some.inj ha)).2
      rw [← this] at hk; simp at hk
    | raw u =>
      simp only [CD.abs] at ha
      obtain ⟨_, ha⟩ := if_some ha
      have := (Prod.mk.inj (Option.some.inj ha)).2
      rw [← this] at hk; simp at hk
    | ifo t k o =>
      have := (Prod.mk.inj (Option.some.inj ha)).2
      rw [← this] at hk; simp at hk
    | _ => cases ha
  | ifo t k =>
    cases c with
    | ifo t' k' o =>
      simp only [CD.abs] at ha
      obtain ⟨_, ha⟩ := if_some ha
      have := (Prod.mk.inj (Option.some.inj ha)).2
      rw [← this] at hk; simp at hk
    | raw u =>
      simp only [CD.abs] at ha
      obtain ⟨_, ha⟩ := if_some ha
      have := (Prod.mk.inj (Option.some.inj ha)).2
      rw [← this] at hk; simp at hk
    | _ => cases ha
  | any =>
    have : some ((), (⟨[], []⟩ : Met)) = some (y, m) := by cases c <;> exact ha
    have := (Prod.mk.inj (Option.some.inj this)).2
    rw [← this] at hk; simp at hk
  | int k' =>
    cases c with
    | int j n =>
      simp only [CD.abs] at ha
      obtain ⟨_, ha⟩ := if_some ha
      have := (Prod.mk.inj (Option.some.inj ha)).2
      rw [← this] at hk; simp at hk
    | _ => cases ha
  | bool =>
    cases c with
    | bool b =>
      have := (Prod.mk.inj (Option.some.inj ha)).2
      rw [← this] at hk; simp at hk
    | _ => cases ha
  | str =>
    cases c with
    | str s =>
      have := (Prod.mk.inj (Option.some.inj ha)).2
      rw [← this] at hk; simp at hk
    | _ => cases ha

theorem absL_deps {bm : List Nat} : ∀ {l : List CD} {cs : List Cell} {x : TL l} {m : Met}, absL h bm l cs = some (x, m) → ∀ k, k ∈ m.deps → ∃ c, c ∈ cs ∧ k ∈ c.keys
  | [], [], x, m, ha, k, hk => by
    have := (Prod.mk.inj (Option.some.inj ha)).2
    rw [← this] at hk; simp at hk
  | [], _ :: _, _, _, ha, _, _ => by cases ha
  | _ :: _, [], _, _, ha, _, _ => by cases ha
  | cd :: l, c :: cs, x, m, ha, k, hk => by
    simp only [absL] at ha
    split at ha
    · rename_i y m1 h1
      split at ha
      · rename_i ys m2 h2
        simp only [Option.some.injEq, Prod.mk.injEq] at ha
        rw [← ha.2] at hk
        simp only [List.mem_append] at hk
        rcases hk with hk | hk
        · exact ⟨c, by simp, cd_deps h1 k hk⟩
        · obtain ⟨c', hc, hk'⟩ := absL_deps h2 k hk
          exact ⟨c', by simp [hc], hk'⟩
      · cases ha
    · cases ha

theorem shape_deps {sh : Shape} {l : List V1} (hb : sh.boxes = []) {a : Abs sh.T} (ha : sh.abs ⟨l.map .v, h⟩ = some a) : ∀ k, k ∈ a.m.deps → k ∈ l.flatMap V1.keys := by
  intro k hk
  unfold Shape.abs at ha
  split at ha
  · rename_i cs hg
    split at ha
    · rename_i all bm hgb
      rw [hb] at hgb
      simp only [gatherB, Option.some.injEq, Prod.mk.injEq] at hgb
      split at ha
      · rename_i x m hm
        obtain ⟨_, ha⟩ := if_some ha
        simp only [Option.some.injEq] at ha
        subst ha
        obtain ⟨c, hc, hkc⟩ := absL_deps hm k hk
        rw [← hgb.1] at hc
        obtain ⟨v, hv, hcv⟩ := gatherS_mem hg c hc
        exact List.mem_flatMap.2 ⟨v, hv, List.mem_flatMap.2 ⟨c, hcv, hkc⟩⟩
      · cases ha
    · cases ha
  · cases ha

theorem opds_mem : ∀ {l : List Operand} {vs : List V1}, opds st l = some vs → ∀ v, v ∈ vs → ∃ x, x ∈ l ∧ opd st x = some v
  | [], vs, he, v, hv => by
    simp only [opds, Option.some.injEq] at he
    subst he; simp at hv
  | x :: l, vs, he, v, hv => by
    simp only [opds] at he
    split at he
    · rename_i u hu
      split at he
      · rename_i l' hl
        simp only [Option.some.injEq] at he
        subst he
        rcases List.mem_cons.1 hv with rfl | hv
        · exact ⟨x, by simp, hu⟩
        · obtain ⟨y, hy, hv'⟩ := opds_mem hl v hv
          exact ⟨y, by simp [hy], hv'⟩
      · cases he
    · cases he

theorem mkL_nm {nm nm' : Nm} : ∀ {l : List CD} {y : TL l} {m : Nat}, (∀ i off, CD.ptr i off ∉ l) → (∀ i, m ≤ i → i < (mkL nm l y m).2.2 → nm' i = nm i) → mkL nm' l y m = mkL nm l y m
  | [], _, _, _, _ => rfl
  | c :: l, y, m, hp, hi => by
    have hm : ∀ (nm : Nm), m ≤ (c.mk nm y.1 m).2.2 := fun nm => by cases c <;> simp [CD.mk]
    have hmm : ∀ (l : List CD) (y : TL l) (m : Nat), m ≤ (mkL nm l y m).2.2 := fun l y m => by rw [(mkL_count nm l y m).1]; omega
    have hc : c.mk nm' y.1 m = c.mk nm y.1 m := by
      cases c with
      | row e t =>
        have := hi m (Nat.le_refl _) (by have := hmm l y.2 (m + 1); simp only [mkL, CD.mk]; omega)
        simp only [CD.mk, this]
      | ptr i off => exact absurd (by simp) (hp i off)
      | _ => rfl
    simp only [mkL, hc]
    rw [mkL_nm (l := l) (y := y.2) (fun i off hm => hp i off (by simp [hm])) fun i h1 h2 => hi i (by have := hm nm; omega) h2]

theorem pubsOf_eq : ∀ {ks : List Nat}, Agree h h' ks → pubsOf h' ks = pubsOf h ks
  | [], _ => rfl
  | k :: ks, H => by
    unfold pubsOf
    simp only [List.filterMap_cons, H k (by simp)]
    have := pubsOf_eq (ks := ks) (H.sub fun k hk => by simp [hk])
    unfold pubsOf at this
    rw [this]

theorem install_eq {d : Nat} {sp : Spec} {a : Abs sp.a.T} {y : sp.r.T} (hpl : sp.r.plainRes = true) (hd : Agree st.h st'.h a.m.deps) (hu : Agree st.h st'.h ((install st d sp a y).up.map (·.1))) : install st' d sp a y = install st d sp a y := by
  unfold Shape.plainRes at hpl
  simp only [Bool.and_eq_true, decide_eq_true_eq, List.isEmpty_iff, Bool.not_eq_true'] at hpl
  obtain ⟨⟨hnb, hidx⟩, hnp⟩ := hpl
  have hml : mkL (nmP st'.h d) sp.r.all y sp.r.boxes.length = mkL (nmP st.h d) sp.r.all y sp.r.boxes.length := by
    refine mkL_nm (fun i off hm => by have := List.any_eq_false.1 hnp _ hm; simp [CD.isPtr] at this) fun i h1 h2 => ?_
    have hc := mkL_count (nmP st.h d) sp.r.all y sp.r.boxes.length
    rw [hc.1] at h2
    have hk : 16 * d + i ∈ (install st d sp a y).up.map (·.1) := by
      unfold install
      simp only [List.map_append, List.mem_append]
      right
      show _ ∈ (mkL (nmP st.h d) sp.r.all y sp.r.boxes.length).2.1.map (·.1)
      rw [hc.2.1]
      exact List.mem_map.2 ⟨i - sp.r.boxes.length, by simp; omega, by simp only [nmP]; omega⟩
    simp only [nmP]
    rw [next_eq (hu _ hk)]
  have hma : sp.r.mkAll (nmP st'.h d) sp.r.slots.length y = sp.r.mkAll (nmP st.h d) sp.r.slots.length y := by
    unfold Shape.mkAll
    rw [hml, hnb]
    rfl
  unfold install
  rw [hma, pubsOf_eq hd]

theorem evalF_loc {E : Env R} {o : Oper} {K : Dl → Option R} (he : evalF E st o K = some r) :
    ∃ x, K x = some r ∧ ∀ (st' : St) (K' : Dl → Option R), Alikes st st' o.op.operands.toList → Agree st.h st'.h (x.up.map (·.1)) → evalF E st' o K' = K' x := by
  unfold evalF at he
  split at he
  · rename_i t ho
    split at he
    · rename_i ti hti
      refine ⟨_, he, fun st' K' A U => ?_⟩
      unfold evalF
      simp only [ho, hti, newBox]
      rw [next_eq (U (dk o.dst) (by simp [newBox]))]
    · cases he
  · rename_i t x ho
    obtain ⟨v, hv, he⟩ := orNone_some he
    refine ⟨_, he, fun st' K' A U => ?_⟩
    unfold evalF
    simp only [ho]
    rw [A.opd (by simp [ho, Op.operands]), hv]
    simp only [orNone]
    rw [next_eq (U (dk o.dst) (by simp))]
  · rename_i t n parts ho
    split at he
    · cases he
    · rename_i e hel
      split at he
      · rename_i ti ps hti hp
        split at he
        · rename_i t' ht
          split at he
          · rename_i z hz
            obtain ⟨hn, he⟩ := if_some he
            obtain ⟨xs, hx, he⟩ := orNone_some he
            refine ⟨_, he, fun st' K' A U => ?_⟩
            unfold evalF
            simp only [ho, hel, hti]
            rw [partsOf_eq (A.sub fun x hx => by simpa [ho, Op.operands] using hx), hp]
            simp only [ht, hz, if_pos hn, hx, orNone, newBox]
            rw [next_eq (U (dk o.dst) (by simp [newBox]))]
          · cases he
        · cases he
      · cases he
  · rename_i t x v ho
    split at he
    · rename_i hd
      obtain ⟨xv, hx, he⟩ := orNone_some he
      obtain ⟨vv, hv, he⟩ := orNone_some he
      obtain ⟨up, hk, hok⟩ := storeK_takes he
      refine ⟨_, hk, fun st' K' A U => ?_⟩
      unfold evalF
      simp only [ho, hd]
      rw [A.opd (x := x) (by simp [ho, Op.operands]), A.opd (x := v) (by simp [ho, Op.operands]), hx, hv]
      simp only [orNone]
      rw [storeK_eq (A.keys (x := x) (by simp [ho, Op.operands]) hx)]
      exact hok _
    · cases he
  · rename_i args argTypes ho
    split at he
    · rename_i s x sT xT ha hat
      obtain ⟨hst, he1⟩ := if_some he
      subst hst
      obtain ⟨sv, hs, he⟩ := orNone_some he1
      obtain ⟨xv, hx, he⟩ := orNone_some he
      obtain ⟨y, hk, hok, hdk⟩ := appendK_takes he
      have ms : s ∈ o.op.operands.toList := by simp [ho, Op.operands, Call.operands, ← Array.mem_toList_iff, ha]
      have mx : x ∈ o.op.operands.toList := by simp [ho, Op.operands, Call.operands, ← Array.mem_toList_iff, ha]
      refine ⟨_, hk, fun st' K' A U => ?_⟩
      unfold evalF
      simp only [ho, ha, hat, if_true]
      rw [A.opd ms, A.opd mx, hs, hx]
      simp only [orNone]
      rw [appendK_eq (A.keys ms hs) (A.keys mx hx) (U _ hdk)]
      exact hok _
    · cases he
  · rename_i f args argTypes ho
    split at he
    · rename_i sp vs hsp hv
      split at he
      · rename_i ab hab
        obtain ⟨hok, he⟩ := if_some he
        cases hy : sp.f ab.x with
        | none => rw [hy] at he; cases he
        | some y =>
          rw [hy] at he
          refine ⟨_, he, fun st' K' A U => ?_⟩
          have hok' := hok
          unfold callOk at hok
          simp only [Bool.and_eq_true, decide_eq_true_eq, List.isEmpty_iff] at hok
          obtain ⟨⟨⟨⟨hlen, hpl⟩, hab0⟩, hrows⟩, hbm⟩ := hok
          have As : Alikes st st' args.toList := A.sub fun x hx => by simp only [ho, Op.operands, Call.operands]; simp at hx ⊢; exact .inr hx
          have Hk : Agree st.h st'.h (vs.flatMap V1.keys) := fun k hk => by
            obtain ⟨v, hvm, hkv⟩ := List.mem_flatMap.1 hk
            obtain ⟨x, hx, hxv⟩ := opds_mem hv v hvm
            exact As.keys hx hxv k hkv
          unfold evalF
          simp only [ho, hsp]
          rw [opds_eq As, hv]
          simp only
          rw [shape_abs_eq hab0 Hk, hab]
          simp only [if_pos hok', hy, Option.bind_some]
          rw [install_eq hpl (Hk.sub (shape_deps hab0 hab)) U]
      · cases he
    · cases he
  · rename_i src dst x ho
    split at he
    · rename_i hsc
      obtain ⟨v, hv, he⟩ := orNone_some he
      obtain ⟨xs, hxs, he⟩ := orNone_some he
      refine ⟨_, he, fun st' K' A U => ?_⟩
      have mx : x ∈ o.op.operands.toList := by simp [ho, Op.operands]
      unfold evalF
      simp only [ho, if_pos hsc]
      rw [A.opd mx, hv]
      simp only [orNone]
      rw [moreOf_eq (A.keys mx hv), hxs]
    · rename_i hsc
      split at he
      · rename_i hbc
        split at he
        · rename_i s hx
          refine ⟨_, he, fun st' K' A U => ?_⟩
          have mx : x ∈ o.op.operands.toList := by simp [ho, Op.operands]
          unfold evalF
          simp only [ho, if_neg hsc, if_pos hbc]
          rw [A.opd mx, hx]
        · cases he
      rename_i hbc
      obtain ⟨y, hk, hok⟩ := vop_takes he
      refine ⟨_, hk, fun st' K' A U => ?_⟩
      have mx : x ∈ o.op.operands.toList := by simp [ho, Op.operands]
      unfold evalF
      simp only [ho, if_neg hsc, if_neg hbc]
      rw [vop_eq (by rw [← ho]; exact A)]
      have : opdKeys st' [x] = opdKeys st [x] := by simp only [opdKeys, List.flatMap_cons, List.flatMap_nil, A.opd mx]
      rw [this]
      exact hok _
  · rename_i op h1 h2 h3 h4 h5 h6 h7
    obtain ⟨y, hk, hok⟩ := vop_takes he
    refine ⟨_, hk, fun st' K' A U => ?_⟩
    unfold evalF
    split
    · rename_i e; exact absurd e (h1 _)
    · rename_i e; exact absurd e (h2 _ _)
    · rename_i e; exact absurd e (h3 _ _ _)
    · rename_i e; exact absurd e (h4 _ _ _)
    · rename_i e; exact absurd e (h5 _ _)
    · rename_i e; exact absurd e (h6 _ _ _)
    · rename_i e; exact absurd e (h7 _ _ _)
    · rw [vop_eq A]
      have hko : opdKeys st' o.op.operands.toList = opdKeys st o.op.operands.toList := by
        have : ∀ (l : List Operand), (∀ x, x ∈ l → opd st' x = opd st x) → opdKeys st' l = opdKeys st l := by
          intro l
          induction l with
          | nil => intro _; rfl
          | cons x l ih =>
            intro hh
            unfold opdKeys at ih ⊢
            simp only [List.flatMap_cons]
            rw [hh x (by simp), ih fun y hy => hh y (by simp [hy])]
        exact this _ fun x hx => A.opd hx
      rw [hko]
      exact hok _

end
end Rv
