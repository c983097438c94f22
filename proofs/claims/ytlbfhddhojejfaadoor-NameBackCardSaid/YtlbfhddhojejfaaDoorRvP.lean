/- Regions whose operations come in any order. -/
import Derived.Test.YtlbfhddhojejfaaDoorRvLoq
import Derived.Orders
set_option linter.all false
namespace Rv
open Go

section
variable {P : Program} {C : Ctx} {γ : Gam} {w : World} {R : Type} {r : R}

/-- A world alike but for what is not looked at. -/
theorem Rel.world {st : St} {tmps : Array Value} (R' : Rel C γ w st tmps) {w' : World} (h1 : w'.heap = w.heap) (h2 : w'.os = w.os) (h3 : w'.tape = w.tape) (h4 : w'.output = w.output) : Rel C γ w' st tmps := by
  have T : Trans C γ st.h w C γ st.h w' := ⟨by rw [h1]; exact Nat.le_refl _, fun k e hk => ⟨e, hk, .inr ⟨rfl, rfl, Alike.refl e⟩⟩, fun g _ _ => by rw [h1], fun k e c g hk hl hg _ => ⟨k, e, c, hk, hl, hg, .inl rfl⟩, fun _ _ h => h, fun _ h => h⟩
  refine R'.step T (R'.inv.step ⟨by rw [h1]; exact Nat.le_refl _, fun g _ _ => by rw [h1], h2, h3, h4⟩ T (fun k e hk => BoxR.step T (R'.inv.box k e hk) rfl fun _ g c _ => by rw [h1]) R'.inv.inj R'.inv.own)

def Fire (ops : Array Oper) (o : Oper) (st : St) : Prop :=
  o.guard = none ∨ ∃ j want s, o.guard = some (j, want) ∧ (ops[j]?).bind (·.dst) = some s ∧ st.s[s]? = some (.v (.c (.bool want)))

def Rest (ops : Array Oper) (o : Oper) (st : St) : Prop :=
  ∃ j want s, o.guard = some (j, want) ∧ (ops[j]?).bind (·.dst) = some s ∧ (st.s[s]? = some (.v (.c (.bool !want))) ∨ st.s[s]? = some (.tup []))

def Did.app (d : Did) (st : St) : St := st.app d.dst d.x

/-- What one operation does, said of a state. -/
def Acts (E : Env R) (ops : Array Oper) (o : Oper) (st : St) (d : Did) : Prop :=
  d.dst = o.dst ∧ d.looks = Oper.looks ops o ∧ (∀ k, k ∈ d.ups → k ∈ d.rd) ∧
  ((Fire ops o st ∧ (∀ k, k ∈ opdKeys st o.op.operands.toList → k ∈ d.rd) ∧ ∀ (st' : St) (K' : Dl → Option R), Alikes st st' o.op.operands.toList → Agree st.h st'.h d.ups → evalF E st' o K' = K' d.x) ∨ (Rest ops o st ∧ d.x = ⟨.tup [], [], []⟩))

theorem guard_looks {ops : Array Oper} {o : Oper} {j s : Nat} {want : Bool} (hg : o.guard = some (j, want)) (hd : (ops[j]?).bind (·.dst) = some s) : s ∈ Oper.looks ops o := by
  unfold Oper.looks Oper.guardSlot
  simp [hg, hd]

theorem tmp_looks {ops : Array Oper} {o : Oper} {t : Nat} (ht : Operand.tmp t ∈ o.op.operands.toList) : t ∈ Oper.looks ops o := by
  unfold Oper.looks
  exact List.mem_append.2 (.inl (List.mem_filterMap.2 ⟨_, ht, rfl⟩))

/-- The same slots and the same entries, as far as they are looked at. -/
structure Same (X Y : List Nat) (st st' : St) : Prop where
  len : st'.s.length = st.s.length
  slot : ∀ t, t ∈ X → st'.s[t]? = st.s[t]?
  heap : ∀ k, k ∈ Y → st'.h k = st.h k

open Classical in
theorem acts_wp {E : Env R} (hE : EnvOk P C.L C.nl E) (r : R) {ops : Array Oper} {Q : Exit → Act → World → Prop} {i : Nat} {o : Oper} (ho : ops[i]? = some o) {st0 st : St} {d : Did} (hA : Acts E ops o st0 d) (hS : Same d.looks d.rd st0 st) {a : Act} (R' : Rel C γ w st a.tmps) (G : Good E a)
    {next : Act → World → Prop} (hn : ∀ γ' w' a', Rel C γ' w' (d.app st) a'.tmps → Good E a' → next a' w') : wpOp P ops Q i next a w := by
  obtain ⟨hd, hl, hu, hc⟩ := hA
  unfold wpOp
  rw [ho]
  simp only
  rcases hc with ⟨hf, hk, hev⟩ | ⟨hr, hx⟩
  · have hw : Region.wanted o (yielded ops a.tmps) = true := by
      rcases hf with hg | ⟨j, want, s, hg, hds, hs⟩
      · simp [Region.wanted, hg]
      · exact wanted_yes R' hg hds (by rw [hS.slot s (by rw [hl]; exact guard_looks hg hds)]; exact hs)
    rw [if_pos hw]
    have he : evalF E st o (fun y => if y = d.x then some r else none) = some r := by
      rw [hev st _ ⟨fun t ht => hS.slot t (by rw [hl]; exact tmp_looks ht), fun k hkk => hS.heap k (hk k hkk)⟩ (fun k hkk => hS.heap k (hu k hkk))]
      simp
    obtain ⟨x, hx, hok⟩ := evalF_sound hE R' he
    have : x = d.x := by
      by_cases h : x = d.x
      · exact h
      · simp [h] at hx
    subst this
    refine .inl (hok next Q fun γ' w' val R1 => hn γ' w' _ ?_ (G.put _ _))
    unfold Did.app
    rw [hd]; exact R1
  · obtain ⟨j, want, s, hg, hds, hs⟩ := hr
    have hw : Region.wanted o (yielded ops a.tmps) = false := by
      have := hS.slot s (by rw [hl]; exact guard_looks hg hds)
      exact wanted_no R' hg hds (by rw [this]; exact hs)
    rw [if_neg (by rw [hw]; simp)]
    refine hn γ w _ ?_ (G.put _ _)
    unfold Did.app
    rw [hd, hx]
    exact R'.put o.dst rep_undef

/- Sets of operations, run in the order of the text. -/
def runB (b : Nat → Bool) : Nat → List Did → St → St
  | _, [], st => st
  | i, d :: l, st => runB b (i + 1) l (if b i = true then d.app st else st)

theorem setL_len (st : St) (d : Did) : (d.app st).s.length = st.s.length := by
  unfold Did.app St.app St.put
  cases d.dst <;> simp

theorem foldl_set_agree : ∀ {l : List (Nat × En)} {h h' : Heap} {k : Nat}, h' k = h k → l.foldl (fun h p => Heap.set h p.1 p.2) h' k = l.foldl (fun h p => Heap.set h p.1 p.2) h k
  | [], _, _, _, e => e
  | p :: l, h, h', k, e => by
    simp only [List.foldl_cons]
    apply foldl_set_agree
    unfold Heap.set
    split
    · rfl
    · exact e

theorem app_h (d : Did) (st : St) : (d.app st).h = d.x.up.foldl (fun h p => h.set p.1 p.2) st.h := by
  unfold Did.app St.app St.put
  cases d.dst <;> rfl

theorem app_s (d : Did) (st : St) : (d.app st).s = match d.dst with | some t => st.s.set t d.x.v | none => st.s := by
  unfold Did.app St.app St.put
  cases d.dst <;> rfl

theorem Same.app {X Y : List Nat} {st st' : St} (S : Same X Y st st') (d : Did) : Same X Y (d.app st) (d.app st') where
  len := by rw [setL_len, setL_len, S.len]
  slot := fun t ht => by
    rw [app_s, app_s]
    cases hd : d.dst with
    | none => exact S.slot t ht
    | some u =>
      simp only [List.getElem?_set, S.len]
      split
      · rfl
      · exact S.slot t ht
  heap := fun k hk => by
    rw [app_h, app_h]
    exact foldl_set_agree (S.heap k hk)

/-- An operation that touches none of it. -/
theorem Same.skip {X Y : List Nat} {st : St} {d : Did} (hd : ∀ t, d.dst = some t → t ∉ X) (hu : ∀ k, k ∈ d.ups → k ∉ Y) : Same X Y st (d.app st) where
  len := setL_len _ _
  slot := fun t ht => by
    rw [app_s]
    cases h : d.dst with
    | none => rfl
    | some u =>
      simp only [List.getElem?_set]
      rw [if_neg fun e => hd u h (by rw [e]; exact ht)]
  heap := fun k hk => by
    rw [app_h, foldl_set_not fun h => hu k h hk]

theorem Same.refl (X Y : List Nat) (st : St) : Same X Y st st := ⟨rfl, fun _ _ => rfl, fun _ _ => rfl⟩
theorem Same.symm {X Y : List Nat} {st st' : St} (S : Same X Y st st') : Same X Y st' st := ⟨S.len.symm, fun t h => (S.slot t h).symm, fun k h => (S.heap k h).symm⟩
theorem Same.trans {X Y : List Nat} {a b c : St} (S : Same X Y a b) (T : Same X Y b c) : Same X Y a c := ⟨T.len.trans S.len, fun t h => (T.slot t h).trans (S.slot t h), fun k h => (T.heap k h).trans (S.heap k h)⟩

theorem runB_same {X Y : List Nat} {b b' : Nat → Bool} : ∀ {l : List Did} {i : Nat} {st st' : St}, Same X Y st st' → (∀ j d, l[j]? = some d → b (i + j) ≠ b' (i + j) → (∀ t, d.dst = some t → t ∉ X) ∧ ∀ k, k ∈ d.ups → k ∉ Y) →
    Same X Y (runB b i l st) (runB b' i l st')
  | [], _, _, _, S, _ => S
  | d :: l, i, st, st', S, H => by
    simp only [runB]
    refine runB_same ?_ fun j e hj hne => H (j + 1) e (by simpa using hj) (by rw [show i + (j + 1) = i + 1 + j by omega]; exact hne)
    cases h1 : b i <;> cases h2 : b' i
    · exact S
    · obtain ⟨g1, g2⟩ := H 0 d rfl (by simp [h1, h2])
      exact S.trans (Same.skip g1 g2)
    · obtain ⟨g1, g2⟩ := H 0 d rfl (by simp [h1, h2])
      exact (Same.skip g1 g2).symm.trans S
    · exact S.app d

theorem runB_congr {b b' : Nat → Bool} : ∀ {l : List Did} {i : Nat} {st : St}, (∀ j, j < l.length → b (i + j) = b' (i + j)) → runB b i l st = runB b' i l st
  | [], _, _, _ => rfl
  | d :: l, i, st, H => by
    simp only [runB]
    rw [show b i = b' i from H 0 (by simp)]
    exact runB_congr fun j hj => by have := H (j + 1) (by simpa using hj); rwa [show i + (j + 1) = i + 1 + j by omega] at this

theorem runB_lt : ∀ {l : List Did} {i n : Nat} {st : St}, runB (fun k => decide (k < i + n)) i l st = (l.take n).foldl (fun s d => d.app s) st
  | [], _, _, _ => by simp [runB]
  | d :: l, i, 0, st => by
    simp only [runB, Nat.add_zero, Nat.lt_irrefl, decide_false, List.take_zero, List.foldl_nil]
    have := runB_lt (l := l) (i := i + 1) (n := 0) (st := st)
    simp only [Nat.add_zero, List.take_zero, List.foldl_nil] at this
    rw [← this]
    simp only [if_neg Bool.false_ne_true]
    rw [this]
    rw [runB_congr (b' := fun k => decide (k < i + 1)) fun j _ => by simp; omega]
    exact this
  | d :: l, i, n + 1, st => by
    simp only [runB, List.take_succ_cons, List.foldl_cons]
    rw [if_pos (by simp)]
    have := runB_lt (l := l) (i := i + 1) (n := n) (st := d.app st)
    rw [← this]
    exact runB_congr fun j _ => by simp; omega

theorem foldl_set_comm : ∀ {l m : List (Nat × En)} {h : Heap}, (∀ k, k ∈ l.map (·.1) → k ∉ m.map (·.1)) → l.foldl (fun h p => Heap.set h p.1 p.2) (m.foldl (fun h p => Heap.set h p.1 p.2) h) = m.foldl (fun h p => Heap.set h p.1 p.2) (l.foldl (fun h p => Heap.set h p.1 p.2) h) := by
  intro l m h H
  funext k
  by_cases h1 : k ∈ l.map (·.1)
  · rw [foldl_set_not (l := m) (H k h1)]
    apply foldl_set_agree
    rw [foldl_set_not (H k h1)]
  · rw [foldl_set_not h1]
    apply Eq.symm
    apply foldl_set_agree
    rw [foldl_set_not h1]

theorem app_comm {a b : Did} (hd : ∀ t, a.dst = some t → b.dst ≠ some t) (hu : ∀ k, k ∈ a.ups → k ∉ b.ups) (st : St) : a.app (b.app st) = b.app (a.app st) := by
  have h1 : (a.app (b.app st)).h = (b.app (a.app st)).h := by
    rw [app_h, app_h, app_h, app_h]
    exact foldl_set_comm hu
  have h2 : (a.app (b.app st)).s = (b.app (a.app st)).s := by
    rw [app_s, app_s, app_s, app_s]
    cases ha : a.dst with
    | none => rfl
    | some t =>
      cases hb : b.dst with
      | none => rfl
      | some u =>
        have : t ≠ u := fun e => hd t ha (by rw [hb, e])
        exact (List.set_comm _ _ this).symm
  cases hx : a.app (b.app st)
  cases hy : b.app (a.app st)
  rw [hx, hy] at h1 h2
  simp only at h1 h2
  rw [h1, h2]

def Apart (a b : Did) : Prop := (∀ t, a.dst = some t → t ∉ b.looks ∧ b.dst ≠ some t) ∧ (∀ t, b.dst = some t → t ∉ a.looks) ∧ (∀ k, k ∈ a.ups → k ∉ b.rd) ∧ (∀ k, k ∈ b.ups → k ∉ a.rd)

theorem disj_sound {a b : List Nat} (h : disj a b = true) : ∀ x, x ∈ a → x ∉ b := fun x hx hb => by
  have := List.all_eq_true.1 h x hx
  simp [hb] at this

theorem apart_sound {a b : Did} (h : Did.apart a b = true) : Apart a b := by
  unfold Did.apart at h
  simp only [Bool.and_eq_true] at h
  obtain ⟨⟨⟨⟨h1, h2⟩, h3⟩, h4⟩, h5⟩ := h
  refine ⟨fun t ht => ⟨disj_sound h1 t (by simp [ht]), fun hb => disj_sound h3 t (by simp [ht]) (by simp [hb])⟩, fun t ht => disj_sound h2 t (by simp [ht]), disj_sound h4, disj_sound h5⟩

theorem runB_app {b : Nat → Bool} {a : Did} : ∀ {l : List Did} {i : Nat} {st : St}, (∀ j d, l[j]? = some d → b (i + j) = true → ∀ st, a.app (d.app st) = d.app (a.app st)) → runB b i l (a.app st) = a.app (runB b i l st)
  | [], _, _, _ => rfl
  | d :: l, i, st, H => by
    simp only [runB]
    have ih : ∀ st, runB b (i + 1) l (a.app st) = a.app (runB b (i + 1) l st) := fun st => runB_app fun j e hj hb => H (j + 1) e (by simpa using hj) (by rw [show i + (j + 1) = i + 1 + j by omega]; exact hb)
    cases hb : b i
    · exact ih st
    · simp only [if_true]
      rw [← H 0 d rfl hb, ih]

/-- One more operation, wherever it stands in the text. -/
theorem runB_one {b : Nat → Bool} {a : Did} : ∀ {l : List Did} {i n : Nat} {st : St}, l[n]? = some a → b (i + n) = false → (∀ j d, l[j]? = some d → n < j → b (i + j) = true → ∀ st, a.app (d.app st) = d.app (a.app st)) →
    runB (fun k => b k || decide (k = i + n)) i l st = a.app (runB b i l st)
  | d :: l, i, 0, st, ha, hb, H => by
    simp only [List.getElem?_cons_zero, Option.some.injEq] at ha
    subst ha
    simp only [runB, Nat.add_zero] at hb ⊢
    simp only [hb, decide_true, Bool.or_true, if_true, Bool.false_eq_true, if_false]
    rw [runB_congr (b' := b) fun j _ => by simp; omega]
    exact runB_app fun j e hj hbj => H (j + 1) e (by simpa using hj) (by omega) (by rw [show i + (j + 1) = i + 1 + j by omega]; exact hbj)
  | d :: l, i, n + 1, st, ha, hb, H => by
    simp only [runB]
    have e1 : (b i || decide (i = i + (n + 1))) = b i := by simp
    simp only [e1]
    have := runB_one (b := b) (a := a) (l := l) (i := i + 1) (n := n) (st := if b i = true then d.app st else st) (by simpa using ha) (by rw [show i + 1 + n = i + (n + 1) by omega]; exact hb)
      (fun j e hj hlt hbj => H (j + 1) e (by simpa using hj) (by omega) (by rw [show i + (j + 1) = i + 1 + j by omega]; exact hbj))
    rw [← this]
    congr 1
    funext k
    rw [show i + 1 + n = i + (n + 1) by omega]
  | [], _, _, _, ha, _, _ => by simp at ha

theorem uni_mem : ∀ {xs ys : List Nat} {k : Nat}, k ∈ uni xs ys → k ∈ xs ∨ k ∈ ys
  | [], _, _, h => .inr h
  | x :: xs, ys, k, h => by
    unfold uni at h
    simp only [List.foldl_cons] at h
    have := uni_mem (xs := xs) h
    rcases this with h | h
    · exact .inl (by simp [h])
    · split at h
      · exact .inr h
      · rcases List.mem_cons.1 h with rfl | h
        · exact .inl (by simp)
        · exact .inr h

/-- A set that holds with each operation what stands straight ahead of it, holds whatever stands ahead. -/
theorem ancT_sub {b : Nat → Bool} : ∀ {l : List Oper} {tbl : List (List Nat)}, (∀ j as, tbl[j]? = some as → b j = true → ∀ k, k ∈ as → b k = true) →
    (∀ j o, l[j]? = some o → b (tbl.length + j) = true → ∀ e, e ∈ o.after.toList → Region.binds .any e = true → b e.on = true) → ∀ j as, (ancT l tbl)[j]? = some as → b j = true → ∀ k, k ∈ as → b k = true
  | [], tbl, H, _ => H
  | o :: l, tbl, H, Ho => by
    simp only [ancT]
    refine ancT_sub (fun j as hj hb k hk => ?_) fun j o' hj hb => Ho (j + 1) o' (by simpa using hj) (by simpa [Nat.add_assoc, Nat.add_comm 1 j] using hb)
    rw [List.getElem?_append] at hj
    split at hj
    · exact H j as hj hb k hk
    · rename_i hlt
      have hj0 : j = tbl.length := by
        by_cases h : j - tbl.length = 0
        · omega
        · obtain ⟨m, hm⟩ := Nat.exists_eq_succ_of_ne_zero h
          rw [hm] at hj; simp at hj
      subst hj0
      simp only [Nat.sub_self, List.getElem?_cons_zero, Option.some.injEq] at hj
      subst hj
      have hon := Ho 0 o rfl hb
      have gen : ∀ (es : List Edge) (acc : List Nat), (∀ e, e ∈ es → b e.on = true) → (∀ k, k ∈ acc → b k = true) → ∀ k, k ∈ es.foldl (fun acc e => uni (e.on :: tbl.getD e.on []) acc) acc → b k = true := by
        intro es
        induction es with
        | nil => intro acc _ h k hk; exact h k hk
        | cons e es ih =>
          intro acc h1 h2 k hk
          simp only [List.foldl_cons] at hk
          refine ih _ (fun e he => h1 e (by simp [he])) (fun k hk => ?_) k hk
          rcases uni_mem hk with hk | hk
          · rcases List.mem_cons.1 hk with rfl | hk
            · exact h1 e (by simp)
            · cases htb : tbl[e.on]? with
              | none => simp [List.getD, htb] at hk
              | some as => exact H e.on as htb (h1 e (by simp)) k (by simpa [List.getD, htb] using hk)
          · exact h2 k hk
      refine gen _ [] (fun e he => ?_) (fun k hk => by simp at hk) k hk
      obtain ⟨h1, h2⟩ := List.mem_filter.1 he
      exact hon e h1 h2

theorem ancT_len : ∀ {l : List Oper} {tbl : List (List Nat)}, (ancT l tbl).length = tbl.length + l.length
  | [], _ => rfl
  | o :: l, tbl => by simp only [ancT]; rw [ancT_len]; simp; omega

theorem textB_sound : ∀ {l : List Oper} {i : Nat}, textB i l = true → ∀ j o, l[j]? = some o → ∀ e, e ∈ o.after.toList → Region.binds .any e = true → e.on < i + j
  | o :: l, i, h, j, o', hj, e, he, hb => by
    simp only [textB, Bool.and_eq_true] at h
    cases j with
    | zero =>
      simp only [List.getElem?_cons_zero, Option.some.injEq] at hj
      subst hj
      have := List.all_eq_true.1 h.1 e he
      simpa [hb] using this
    | succ j => have := textB_sound h.2 j o' (by simpa using hj) e he hb; omega
  | [], _, _, _, _, hj, _, _, _ => by simp at hj

theorem evalDid_sound {E : Env R} {ops : Array Oper} : ∀ {l : List Oper} {st : St} {acc : List Did} {K : List Did → St → Option R}, evalDid E ops l st acc K = some r →
    ∃ ds : List Did, ds.length = l.length ∧ K (acc.reverse ++ ds) (ds.foldl (fun s d => d.app s) st) = some r ∧ ∀ i o d, l[i]? = some o → ds[i]? = some d → Acts E ops o ((ds.take i).foldl (fun s d => d.app s) st) d
  | [], st, acc, K, he => ⟨[], rfl, by simpa [evalDid] using he, fun i o d hi => by simp at hi⟩
  | o :: l, st, acc, K, he => by
    have go : ∀ {d : Did} {st1 : St}, Acts E ops o st d → d.app st = st1 → evalDid E ops l st1 (d :: acc) K = some r →
        ∃ ds : List Did, ds.length = (o :: l).length ∧ K (acc.reverse ++ ds) (ds.foldl (fun s d => d.app s) st) = some r ∧ ∀ i o' d, (o :: l)[i]? = some o' → ds[i]? = some d → Acts E ops o' ((ds.take i).foldl (fun s d => d.app s) st) d := by
      intro d st1 hA h1 he
      obtain ⟨ds, h2, h3, h4⟩ := evalDid_sound he
      refine ⟨d :: ds, by simp [h2], ?_, fun i o' d' hi hd => ?_⟩
      · simpa [h1] using h3
      · cases i with
        | zero =>
          simp only [List.getElem?_cons_zero, Option.some.injEq] at hi hd
          subst hi hd
          exact hA
        | succ i =>
          simp only [List.take_succ_cons, List.foldl_cons, h1]
          exact h4 i o' d' (by simpa using hi) (by simpa using hd)
    have fire : ∀ {K' : Dl → Option R}, evalF E st o K' = some r → (∀ x, K' x = evalDid E ops l (st.app o.dst x) (did ops st o x :: acc) K) → Fire ops o st →
        ∃ ds : List Did, ds.length = (o :: l).length ∧ K (acc.reverse ++ ds) (ds.foldl (fun s d => d.app s) st) = some r ∧ ∀ i o' d, (o :: l)[i]? = some o' → ds[i]? = some d → Acts E ops o' ((ds.take i).foldl (fun s d => d.app s) st) d := by
      intro K' h1 h2 hf
      obtain ⟨x, hx, hloc⟩ := evalF_loc h1
      rw [h2] at hx
      exact go (d := did ops st o x) ⟨rfl, rfl, fun k hk => List.mem_append.2 (.inr hk), .inl ⟨hf, fun k hk => List.mem_append.2 (.inl hk), hloc⟩⟩ rfl hx
    simp only [evalDid] at he
    split at he
    · rename_i hg
      exact fire (K' := fun x => evalDid E ops l (st.app o.dst x) (did ops st o x :: acc) K) he (fun _ => rfl) (.inl hg)
    · rename_i j want hg
      split at he
      · cases he
      · rename_i d hd
        split at he
        · rename_i b hs
          split at he
          · rename_i hb
            subst hb
            rw [St.put_same hs] at he
            exact fire (K' := fun x => evalDid E ops l (st.app o.dst x) (did ops st o x :: acc) K) he (fun _ => rfl) (.inr ⟨j, b, d, hg, hd, hs⟩)
          · rename_i hb
            have hb' : b = !want := by cases b <;> cases want <;> simp_all
            subst hb'
            rw [St.put_same hs] at he
            exact go (d := unDid ops o) ⟨rfl, rfl, fun k hk => by simp [unDid, Did.ups] at hk, .inr ⟨⟨j, want, d, hg, hd, .inl hs⟩, rfl⟩⟩ rfl he
        · rename_i hs
          exact go (d := unDid ops o) ⟨rfl, rfl, fun k hk => by simp [unDid, Did.ups] at hk, .inr ⟨⟨j, want, d, hg, hd, .inr hs⟩, rfl⟩⟩ rfl he
        · cases he

theorem least {n : Nat} {p : Nat → Prop} (h : ∃ i, i < n ∧ p i) : ∃ i, i < n ∧ p i ∧ ∀ j, j < i → ¬ p j := by
  obtain ⟨i, hi, hp⟩ := h
  induction i using Nat.strongRecOn with
  | _ i ih =>
    by_cases h : ∃ j, j < i ∧ p j
    · obtain ⟨j, hj, hpj⟩ := h
      exact ih j hj (by omega) hpj
    · exact ⟨i, hi, hp, fun j hj hpj => h ⟨j, hj, hpj⟩⟩

theorem getD_eq {l : Array Bool} {i : Nat} (h : i < l.size) : l.getD i true = l.getD i false := by simp [Array.getD, h]

theorem draw_sound {E : Env R} (hE : EnvOk P C.L C.nl E) {ops : Array Oper} {Q : Exit → Act → World → Prop} {st : St} {ds : List Did} (hlen : ds.length = ops.size) (hacts : ∀ i o d, ops[i]? = some o → ds[i]? = some d → Acts E ops o ((ds.take i).foldl (fun s d => d.app s) st) d)
    (hap : apartAll ops ds = true) (r : R) (hK : ∀ γ a w, Rel C γ w (ds.foldl (fun s d => d.app s) st) a.tmps → Good E a → Q .normal a w) :
    ∀ (fuel : Nat) (listed : Array Bool) (γ : Gam) (a : Act) (w : World), listed.size = ops.size → ((List.range ops.size).filter fun i => !listed.getD i false).length ≤ fuel →
      (∀ j o, ops[j]? = some o → listed.getD j false = true → ∀ e, e ∈ o.after.toList → Region.binds .any e = true → listed.getD e.on false = true) →
      Rel C γ w (runB (fun k => listed.getD k false) 0 ds st) a.tmps → Good E a → wpAny P .any ops Q fuel listed a w := by
  unfold apartAll at hap
  simp only [Bool.and_eq_true] at hap
  obtain ⟨htext, hap⟩ := hap
  -- all listed
  have fin : ∀ (listed : Array Bool) (γ : Gam) (a : Act) (w : World), listed.size = ops.size → (∀ i, i < ops.size → listed.getD i false = true) → Rel C γ w (runB (fun k => listed.getD k false) 0 ds st) a.tmps → Good E a → Q .normal a w := by
    intro listed γ a w hsz hall R' G
    refine hK γ a w ?_ G
    have := runB_lt (l := ds) (i := 0) (n := ds.length) (st := st)
    rw [List.take_length] at this
    rw [← this]
    rw [runB_congr (b' := fun k => decide (k < 0 + ds.length)) fun j hj => by
      simp only [Nat.zero_add]
      rw [hall j (by omega)]
      simp [hj]] at R'
    exact R'
  have none_ready : ∀ (listed : Array Bool), listed.size = ops.size → Region.ready .any ops listed = [] → ∀ i, i < ops.size → listed.getD i false = true := by
    intro listed hsz hr i hi
    by_cases h : listed.getD i false = true
    · exact h
    · obtain ⟨j, hj, hp, hmin⟩ := least (n := ops.size) (p := fun i => ¬ listed.getD i false = true) ⟨i, hi, h⟩
      exfalso
      have ho : ops[j]? = some ops[j] := by simp [hj]
      have : j ∈ Region.ready .any ops listed := by
        unfold Region.ready
        refine List.mem_filter.2 ⟨by simpa using hj, ?_⟩
        have hjl : j < listed.size := by omega
        simp only [Bool.and_eq_true, Bool.not_eq_true']
        refine ⟨?_, ?_⟩
        · rw [getD_eq hjl]
          simpa using hp
        · rw [ho]
          simp only [Option.map_some, Option.getD_some]
          rw [Array.all_eq_true']
          intro e he
          by_cases hb : Region.binds .any e = true
          · have hlt := textB_sound htext j ops[j] (by simpa using ho) e (by simpa using he) hb
            have := hmin e.on (by omega)
            simp only [Decidable.not_not] at this
            simp [this]
          · simp only [Bool.not_eq_true] at hb
            simp [hb]
      rw [hr] at this
      simp at this
  intro fuel
  induction fuel with
  | zero =>
    intro listed γ a w hsz hcnt _ R' G
    have hall : ∀ i, i < ops.size → listed.getD i false = true := fun i hi => by
      by_cases h : listed.getD i false = true
      · exact h
      · have : i ∈ (List.range ops.size).filter fun i => !listed.getD i false := List.mem_filter.2 ⟨by simpa using hi, by simpa using h⟩
        have h0 := List.length_pos_of_mem this
        omega
    refine ⟨?_, fin listed γ a w hsz hall R' G⟩
    unfold Region.ready
    refine List.filter_eq_nil_iff.2 fun i hi => ?_
    have hi' : i < ops.size := by simpa using hi
    have := hall i hi'
    rw [getD_eq (by omega : i < listed.size), this]
    simp
  | succ fuel ih =>
    intro listed γ a w hsz hcnt hcl R' G
    refine ⟨fun hr => fin listed γ a w hsz (none_ready listed hsz hr) R' G, fun i hi => ?_⟩
    unfold Region.ready at hi
    obtain ⟨hi1, hi2⟩ := List.mem_filter.1 hi
    have hin : i < ops.size := by simpa using hi1
    have hil : i < listed.size := by omega
    simp only [Bool.and_eq_true, Bool.not_eq_true'] at hi2
    obtain ⟨hi2, hi3⟩ := hi2
    have hoff : listed.getD i false = false := by rw [← getD_eq hil]; exact hi2
    have ho : ops[i]? = some ops[i] := by simp [hin]
    rw [ho] at hi3
    simp only [Option.map_some, Option.getD_some] at hi3
    rw [Array.all_eq_true'] at hi3
    have hahead : ∀ e, e ∈ ops[i].after.toList → Region.binds .any e = true → listed.getD e.on false = true := fun e he hb => by
      have := hi3 e (by simpa using he)
      simpa [hb] using this
    have hid : i < ds.length := by omega
    have hdi : ds[i]? = some ds[i] := by simp [hid]
    have hA := hacts i ops[i] ds[i] ho hdi
    -- whatever is listed, or is i, has what stands ahead of it listed
    let b : Nat → Bool := fun k => listed.getD k false
    have hset : ∀ k, (listed.setIfInBounds i true).getD k false = (b k || decide (k = i)) := fun k => by
      simp only [Array.getD_eq_getD_getElem?, Array.getElem?_setIfInBounds, b]
      by_cases h : i = k
      · subst h; simp [hil]
      · have h' : ¬ k = i := fun e => h e.symm
        simp [h, h']
    have hclosed' : ∀ j o, ops[j]? = some o → (listed.setIfInBounds i true).getD j false = true → ∀ e, e ∈ o.after.toList → Region.binds .any e = true → (listed.setIfInBounds i true).getD e.on false = true := fun j o hj hb e he hbe => by
      rw [hset] at hb ⊢
      simp only [Bool.or_eq_true, decide_eq_true_eq] at hb ⊢
      rcases hb with hb | rfl
      · exact .inl (hcl j o hj hb e he hbe)
      · rw [ho] at hj
        simp only [Option.some.injEq] at hj
        subst hj
        exact .inl (hahead e he hbe)
    have hanc : ∀ j as, (ancT ops.toList [])[j]? = some as → b j = true → ∀ k, k ∈ as → b k = true :=
      ancT_sub (b := b) (fun j as hj => by simp at hj) fun j o hj hb e he hbe => hcl j o (by simpa using hj) (by simpa [b] using hb) e he hbe
    have hanci : ∀ as, (ancT ops.toList [])[i]? = some as → ∀ k, k ∈ as → k ≠ i → b k = true := fun as has k hk hki => by
      have := ancT_sub (b := fun k => b k || decide (k = i)) (tbl := []) (l := ops.toList) (fun j as hj => by simp at hj) (fun j o hj hb e he hbe => by
        have := hclosed' j o (by simpa using hj) (by rw [hset]; simpa using hb) e he hbe
        rwa [hset] at this) i as has (by simp) k hk
      simp only [Bool.or_eq_true, decide_eq_true_eq] at this
      exact this.resolve_right hki
    have hpair : ∀ j k dj dk', j < k → ds[j]? = some dj → ds[k]? = some dk' → (∃ as, (ancT ops.toList [])[k]? = some as ∧ j ∈ as) ∨ Apart dj dk' := fun j k dj dk' hjk hj hk => by
      have hkl : k < ds.length := (List.getElem?_eq_some_iff.1 hk).1
      have h1 := List.all_eq_true.1 hap k (by simpa using hkl)
      rw [hk] at h1
      simp only at h1
      unfold apartRow at h1
      have h2 := List.all_eq_true.1 h1 j (by simpa using hjk)
      rw [hj] at h2
      simp only [Bool.or_eq_true] at h2
      rcases h2 with h2 | h2
      · left
        cases hanc : (ancT ops.toList [])[k]? with
        | none => simp [List.getD, hanc] at h2
        | some as => exact ⟨as, hanc, by simpa [List.getD, hanc] using h2⟩
      · exact .inr (apart_sound h2)
    -- what i looks at is as it was in the text's order
    have hlater : ∀ k dk', i < k → ds[k]? = some dk' → b k = true → Apart ds[i] dk' := fun k dk' hik hk hbk => by
      rcases hpair i k ds[i] dk' hik hdi hk with ⟨as, has, hm⟩ | h
      · have := hanc k as has hbk i hm
        simp only [b] at this
        rw [hoff] at this
        cases this
      · exact h
    have hearlier : ∀ k dk', k < i → ds[k]? = some dk' → b k = false → Apart dk' ds[i] := fun k dk' hik hk hbk => by
      rcases hpair k i dk' ds[i] hik hk hdi with ⟨as, has, hm⟩ | h
      · have := hanci as has k hm (by omega)
        rw [hbk] at this
        cases this
      · exact h
    have hS : Same ds[i].looks ds[i].rd ((ds.take i).foldl (fun s d => d.app s) st) (runB b 0 ds st) := by
      have := runB_lt (l := ds) (i := 0) (n := i) (st := st)
      rw [← this]
      refine runB_same (Same.refl _ _ _) fun j d hj hne => ?_
      simp only [Nat.zero_add] at hne
      rcases Nat.lt_trichotomy j i with hlt | rfl | hgt
      · have hbj : b j = false := by
          cases h : b j
          · rfl
          · simp [h, hlt] at hne
        have := hearlier j d hlt hj hbj
        exact ⟨fun t ht => (this.1 t ht).1, this.2.2.1⟩
      · have : b j = false := hoff
        simp [this] at hne
      · have hbj : b j = true := by
          cases h : b j
          · simp [h] at hne; omega
          · rfl
        have := hlater j d hgt hj hbj
        exact ⟨this.2.1, this.2.2.2⟩
    have hrun : runB (fun k => (listed.setIfInBounds i true).getD k false) 0 ds st = ds[i].app (runB b 0 ds st) := by
      have := runB_one (b := b) (l := ds) (i := 0) (n := i) (st := st) hdi (by simp only [Nat.zero_add]; exact hoff) fun j d hj hij hb st => by
        simp only [Nat.zero_add] at hb
        have h := hlater j d hij hj hb
        refine app_comm (fun t ht => (h.1 t ht).2) (fun k hk hk' => h.2.2.1 k hk ?_) st
        have hjo : j < ops.size := by have := (List.getElem?_eq_some_iff.1 hj).1; omega
        exact (hacts j ops[j] d (by simp [hjo]) hj).2.2.1 k hk'
      simp only [Nat.zero_add] at this
      rw [← this]
      congr 1
      funext k
      rw [hset]
    refine acts_wp hE r ho hA hS R' G fun γ' w' a' R1 G1 => ?_
    refine ih _ γ' a' w' (by simpa using hsz) ?_ hclosed' (by rw [hrun]; exact R1) G1
    have hlt : ((List.range ops.size).filter fun k => !(listed.setIfInBounds i true).getD k false).length < ((List.range ops.size).filter fun k => !listed.getD k false).length := by
      have e1 : ((List.range ops.size).filter fun k => !(listed.setIfInBounds i true).getD k false) = (((List.range ops.size).filter fun k => !listed.getD k false)).filter fun k => !decide (k = i) := by
        rw [List.filter_filter]
        congr 1
        funext k
        rw [hset]
        show (!(listed.getD k false || decide (k = i))) = (!decide (k = i) && !listed.getD k false)
        cases listed.getD k false <;> cases decide (k = i) <;> rfl
      rw [e1]
      have hm : i ∈ (List.range ops.size).filter fun k => !listed.getD k false := List.mem_filter.2 ⟨by simpa using hin, by rw [hoff]; rfl⟩
      exact List.length_filter_lt_length_iff_exists.2 ⟨i, hm, by simp⟩
    omega

theorem region_sound {E : Env R} (hE : EnvOk P C.L C.nl E) (hm : P.follows .mixedOrders = true) {id : Nat} {ops : Array Oper} {draw : Bool} {Q : Exit → Act → World → Prop} {st : St} {a : Act} {K : St → Option R} (R' : Rel C γ w st a.tmps) (G : Good E a)
    (he : evalRegion E ops draw st K = some r) (hK : NextOk C E r K (Q .normal)) : (Code.region id ops draw).wp P Q a w := by
  cases draw with
  | false => exact wp_region_list (evalOps_sound hE R' G he hK)
  | true =>
    have he : evalDid E ops ops.toList st [] (fun l st => if apartAll ops l = true then K st else none) = some r := he
    obtain ⟨ds, h1, h2, h3⟩ := evalDid_sound he
    simp only [List.reverse_nil, List.nil_append] at h2
    obtain ⟨hap, h2⟩ := if_some h2
    refine wp_region_any hm (draw_sound hE (by simpa using h1) (fun i o d hi hd => h3 i o d (by simpa using hi) hd) hap r (fun γ a w R1 G1 => hK γ _ a w R1 G1 h2) ops.size _ γ a _ (by simp) ?_ (fun j o _ hb => ?_) ?_ G)
    · exact Nat.le_trans (List.length_filter_le _ _) (by simp)
    · simp [Array.getD_eq_getD_getElem?, Array.getElem?_replicate] at hb
      split at hb <;> simp at hb
    · rw [runB_congr (b' := fun k => decide (k < 0 + 0)) fun j _ => by
        simp [Array.getD_eq_getD_getElem?, Array.getElem?_replicate]
        split <;> simp]
      rw [runB_lt]
      exact R'.world rfl rfl rfl rfl

end
end Rv
