/- Code. -/
import Derived.Test.YtlbfhddhojejfaaDoorRvP
import Derived.ScopeJumps
set_option linter.all false
namespace Rv
open Go

section
variable {P : Program} {C : Ctx} {γ : Gam} {w : World} {R : Type} {r : R}

def Ex.toExit : Ex → Exit
  | .normal => .normal
  | .exit id => .exit id
  | .goto l => .goto l
  | .ret => .ret

def KOk (C : Ctx) (E : Env R) (r : R) (K : Kont R) (Q : Exit → Act → World → Prop) : Prop :=
  ∀ ex, NextOk C E r (K ex) (Q ex.toExit)

theorem nmJ_inj : ∀ i j, (nmJ i).1 = (nmJ j).1 → i = j := fun i j e => by simp only [nmJ] at e; omega

theorem abs_here {E : Env R} (hnl : E.nl = C.nl) {sh : Shape} (hp : sh.pins E.nl = true) {st : St} {ab : Abs sh.T} (he : sh.abs st = some ab) {a : Act} (R' : Rel C γ w st a.tmps) (G : Good E a) : ∃ γ', Rel C γ' w (sh.mk' nmJ E.N ab.x) a.tmps := by
  have I := R'.inv
  obtain ⟨γ', R1, _⟩ := abs_sound he R' nmJ_inj I.invW (fun d g ho _ _ => ho.1) (fun k e g c _ hk hl hg => I.own k e g c hk hl hg)
    (fun i hi => by
      obtain ⟨h1, e, h2, h3⟩ := abs_pins he hp i (by omega)
      obtain ⟨e', h4, h5⟩ := I.lent i hi
      rw [h2] at h4
      simp only [Option.some.injEq] at h4
      subst h4
      exact ⟨rfl, _, h1, h5 h3⟩)
  have : st.s.length = E.N := by rw [← R'.size, G.size]
  rw [this] at R1
  exact ⟨γ', R1⟩

theorem goJ_ok {E : Env R} (hnl : E.nl = C.nl) {h : JH R} {ms : List Nat} {F : St → Option R} (hj : ∀ x, h.j ms x = F (h.sh.mk' nmJ E.N x)) {Q : Act → World → Prop} (hF : NextOk C E r F Q) : NextOk C E r (goJ E.nl h ms) Q := fun γ st a w R' G he => by
  unfold goJ at he
  obtain ⟨hp, he⟩ := if_some he
  split at he
  · rename_i ab hab
    obtain ⟨γ', R1⟩ := abs_here hnl hp hab R' G
    rw [hj] at he
    exact hF γ' _ a w R1 G he
  · cases he

def Looped (C : Ctx) (E : Env R) (r : R) (h : LH R) (ms : List Nat) (n : Nat) (a : Act) (w : World) : Prop :=
  ∃ γ x, Rel C γ w (h.sh.mk' nmJ E.N x) a.tmps ∧ Good E a ∧ h.l ms n x = some r

theorem goL_ok {E : Env R} (hnl : E.nl = C.nl) {h : LH R} {ms : List Nat} {n : Nat} {Q : Act → World → Prop} (hQ : ∀ a w, Looped C E r h ms n a w → Q a w) : NextOk C E r (goL E.nl h ms n) Q := fun γ st a w R' G he => by
  unfold goL at he
  obtain ⟨hp, he⟩ := if_some he
  split at he
  · rename_i ab hab
    obtain ⟨γ', R1⟩ := abs_here hnl hp hab R' G
    exact hQ a w ⟨γ', _, R1, G, he⟩
  · cases he

theorem findTail_label : ∀ {c : Code} {l : Nat} {b : Code}, findTail c l = some b → findLabel c l = some (.seq .skip b)
  | .seq a b, l, b', h => by
    simp only [findTail] at h
    split at h
    · rename_i i hi
      have ha : a = .label i := by
        unfold labelOf at hi
        split at hi
        · simp only [Option.some.injEq] at hi; rw [hi]
        · cases hi
      subst ha
      split at h
      · rename_i e
        subst e
        simp only [Option.some.injEq] at h
        subst h
        simp [findLabel]
      · rename_i e
        simp only [findLabel]
        rw [if_neg (by simpa using e)]
        exact findTail_label h
    · split at h
      · rename_i hn
        simp only [findLabel]
        rw [Option.isNone_iff_eq_none.1 hn]
        exact findTail_label h
      · cases h
  | .skip, _, _, h | .label _, _, _, h | .region .., _, _, h | .cond .., _, _, h | .block .., _, _, h | .loop _, _, _, h | .rangeFunc .., _, _, h | .exit _, _, _, h | .scope _, _, _, h | .goto _, _, _, h | .ret, _, _, h | .refuse _, _, _, h => by cases h

theorem findTail_lt : ∀ {c : Code} {l : Nat} {b : Code}, findTail c l = some b → sizeOf b < sizeOf c
  | .seq a b, l, b', h => by
    simp only [findTail] at h
    split at h
    · split at h
      · simp only [Option.some.injEq] at h
        subst h
        simp only [Code.seq.sizeOf_spec]; omega
      · have := findTail_lt h
        simp only [Code.seq.sizeOf_spec]; omega
    · split at h
      · have := findTail_lt h
        simp only [Code.seq.sizeOf_spec]; omega
      · cases h
  | .skip, _, _, h | .label _, _, _, h | .region .., _, _, h | .cond .., _, _, h | .block .., _, _, h | .loop _, _, _, h | .rangeFunc .., _, _, h | .exit _, _, _, h | .scope _, _, _, h | .goto _, _, _, h | .ret, _, _, h | .refuse _, _, _, h => by cases h

theorem labH_some {E : Env R} {a : Code} {h : Nat × LH R} (hh : labH E a = some h) : a = .label h.1 ∧ E.lab h.1 = some h.2 := by
  unfold labH at hh
  split at hh
  · rename_i l hl
    split at hh
    · rename_i g hg
      simp only [Option.some.injEq] at hh
      subst hh
      refine ⟨?_, hg⟩
      unfold labelOf at hl
      split at hl
      · simp only [Option.some.injEq] at hl; rw [hl]
      · cases hl
    · cases hh
  · cases hh

theorem labH_of {E : Env R} {l : Nat} {h : LH R} (hh : E.lab l = some h) : labH E (.label l) = some (l, h) := by
  simp [labH, labelOf, hh]

theorem labH_none {E : Env R} {a : Code} (hh : labH E a = none) (ha : labelOf a = none ∨ True) : ∀ l, a = .label l → E.lab l = none := by
  intro l e
  subst e
  cases h : E.lab l with
  | none => rfl
  | some g => rw [labH_of h] at hh; cases hh

/-- What is asked of the part behind the label, it is asked in the whole. -/
theorem findTail_sites {E : Env R} {l : Nat} {h : LH R} (hl : E.lab l = some h) : ∀ {c b : Code} {K : List Nat → Kont R}, findTail c l = some b → (∀ s, s ∈ sites E c K → s.ok E) →
    (labs b).isEmpty = true ∧ (Site.loop h b (fun ms m => kLab E.nl l h ms m (K ms))).ok E ∧ ∀ s, s ∈ sites E b (fun ms => kLab E.nl l h ms.tail ms.head! (K ms.tail)) → s.ok E
  | .seq x y, b, K, hf, hs => by
    simp only [findTail] at hf
    simp only [sites] at hs
    split at hf
    · rename_i i hi
      have hx : x = .label i := by
        unfold labelOf at hi
        split at hi
        · simp only [Option.some.injEq] at hi; rw [hi]
        · cases hi
      subst hx
      split at hf
      · rename_i e
        subst e
        simp only [Option.some.injEq] at hf
        subst hf
        rw [labH_of hl] at hs
        exact ⟨hs (.flag (labs y).isEmpty) (by simp), hs (.loop h y fun ms m => kLab E.nl i h ms m (K ms)) (by simp), fun s h => hs s (by simp [h])⟩
      · cases hlh : labH E (.label i) with
        | some g =>
          rw [hlh] at hs
          have h1 := hs (.flag (labs y).isEmpty) (by simp)
          have h2 : labs y = [] := by simpa [Site.ok] using h1
          exact absurd hf (by
            have : ∀ {c : Code}, labs c = [] → findTail c l = none := by
              intro c
              induction c with
              | seq a b iha ihb =>
                intro hc
                simp only [labs, List.append_eq_nil_iff] at hc
                simp only [findTail]
                split
                · rename_i j hj
                  exfalso
                  unfold labelOf at hj
                  split at hj
                  · simp [labs] at hc
                  · cases hj
                · split
                  · exact ihb hc.2
                  · rfl
              | _ => intro _; rfl
            rw [this h2]; simp)
        | none =>
          rw [hlh] at hs
          exact findTail_sites hl hf fun s h => hs s (by simp [h])
    · rename_i hi
      split at hf
      · have : labH E x = none := by unfold labH; rw [hi]
        rw [this] at hs
        exact findTail_sites hl hf fun s h => hs s (by simp [h])
      · cases hf
  | .skip, _, _, h, _ | .label _, _, _, h, _ | .region .., _, _, h, _ | .cond .., _, _, h, _ | .block .., _, _, h, _ | .loop _, _, _, h, _ | .rangeFunc .., _, _, h, _ | .exit _, _, _, h, _ | .scope _, _, _, h, _ | .goto _, _, _, h, _ | .ret, _, _, h, _ | .refuse _, _, _, h, _ => by cases h

def LabOk (C : Ctx) (E : Env R) (r : R) (c : Code) (ms : List Nat) (Q : Exit → Act → World → Prop) : Prop :=
  ∀ l h, l ∈ labs c → E.lab l = some h → ∀ n a w, Looped C E r h ms n a w → Q (.goto l) a w

theorem LabOk.of_nil {E : Env R} {c : Code} {ms : List Nat} {Q : Exit → Act → World → Prop} (h : (labs c).isEmpty = true) : LabOk C E r c ms Q := fun l g hl => by
  rw [List.isEmpty_iff.1 h] at hl; simp at hl

theorem evalCode_sound' {E : Env R} (hE : EnvOk P C.L C.nl E) (hm : P.follows .mixedOrders = true) : ∀ (n : Nat) (c : Code), sizeOf c < n → ∀ {Kf : List Nat → Kont R} (ms : List Nat) {Q : Exit → Act → World → Prop}, (∀ s, s ∈ sites E c Kf → s.ok E) → LabOk C E r c ms Q → KOk C E r (Kf ms) Q →
    NextOk C E r (fun st => evalCode E ms c st (Kf ms)) (c.wp P Q) := by
  intro n
  induction n with
  | zero => intro c hc; omega
  | succ n ih =>
  intro c hc Kf ms Q hs hL hK γ st a w R' G he
  cases c with
  | skip => exact wp_skip (hK .normal γ st a w R' G (by simpa [evalCode] using he))
  | label l => exact wp_label (hK .normal γ st a w R' G (by simpa [evalCode] using he))
  | region id ops draw => exact region_sound hE hm R' G (by simpa [evalCode] using he) (hK .normal)
  | seq x y =>
    simp only [evalCode] at he
    simp only [sites] at hs
    cases hlh : labH E x with
    | some h =>
      rw [hlh] at he hs
      obtain ⟨hx, hlab⟩ := labH_some hlh
      subst hx
      refine wp_seq (wp_label ?_)
      show y.wp P Q a w
      refine goL_ok hE.nl (Q := y.wp P Q) (fun a w hLp => ?_) γ st a w R' G he
      obtain ⟨γ, x, R1, G1, hx⟩ := hLp
      have hsite := hs (.loop h.2 y fun ms m => kLab E.nl h.1 h.2 ms m (Kf ms)) (by simp) ms
      cases hn : E.n with
      | zero => rw [hn, hsite.1] at hx; cases hx
      | succ m =>
        rw [hn, hsite.2] at hx
        refine ih y (by simp at hc; omega) (Kf := fun ms => kLab E.nl h.1 h.2 ms.tail ms.head! (Kf ms.tail)) (m :: ms) (fun s h => hs s (by simp [h])) (LabOk.of_nil (hs (.flag (labs y).isEmpty) (by simp))) ?_ γ _ a w R1 G1 hx
        intro ex
        cases ex with
        | goto i =>
          intro γ st a w R' G he
          have he : (if i = h.1 then goL E.nl h.2 ms m st else Kf ms (.goto i) st) = some r := he
          by_cases e : i = h.1
          · subst e
            rw [if_pos rfl] at he
            exact goL_ok hE.nl (fun a w hLp => hL h.1 h.2 (by simp [labs]) hlab m a w hLp) γ st a w R' G he
          · rw [if_neg e] at he
            exact hK (.goto i) γ st a w R' G he
        | normal => exact hK .normal
        | exit id => exact hK (.exit id)
        | ret => exact hK .ret
    | none =>
      rw [hlh] at he hs
      simp only [List.cons_append, List.mem_cons, List.mem_append] at hs
      have hflag := hs _ (.inl rfl)
      have hLx : LabOk C E r x ms (Exit.then (y.wp P Q) Q) := by
        intro l g hl hg
        simp only [Site.ok, Bool.or_eq_true] at hflag
        rcases hflag with h | h
        · obtain ⟨i, hi⟩ := Option.isSome_iff_exists.1 h
          unfold labelOf at hi
          split at hi
          · simp only [labs, List.mem_singleton] at hl
            subst hl
            rw [labH_of hg] at hlh
            cases hlh
          · cases hi
        · rw [List.isEmpty_iff.1 h] at hl; simp at hl
      have hy := ih y (by simp at hc; omega) ms (fun s h => hs s (.inr (.inr h))) (fun l g hl => hL l g (by simp [labs, hl])) hK
      refine wp_seq (ih x (by simp at hc; omega) (Kf := fun ms => kSeq E ms y (fun st => evalCode E ms y st (Kf ms)) (Kf ms)) ms (fun s h => hs s (.inr (.inl (.inl h)))) hLx ?_ γ st a w R' G he)
      intro ex
      cases ex with
      | normal =>
        show NextOk C E r (fun st => match (first y).bind E.join with | some h => goJ E.nl h ms st | none => evalCode E ms y st (Kf ms)) (y.wp P Q)
        cases hj : (first y).bind E.join with
        | none => exact hy
        | some h =>
          have := hs (.join h y Kf) (.inr (.inl (.inr (by rw [hj]; simp))))
          exact goJ_ok hE.nl (fun x => this ms x) hy
      | exit id => exact hK (.exit id)
      | goto l => exact hK (.goto l)
      | ret => exact hK .ret
  | cond cv x y =>
    have hsz := hc
    simp only [Code.cond.sizeOf_spec] at hsz
    simp only [evalCode] at he
    simp only [sites, List.cons_append, List.mem_cons, List.mem_append] at hs
    have hflag := hs _ (.inl rfl)
    simp only [Site.ok, Bool.and_eq_true] at hflag
    split at he
    · rename_i t hcv
      have hv := (R'.opd hcv).1
      have hv : a.eval cv = .bool t := hv
      refine wp_cond hv ?_
      have hx := ih x (by omega) ms (fun s h => hs s (.inr (.inl (.inr h)))) (LabOk.of_nil hflag.1) hK
      have hy := ih y (by omega) ms (fun s h => hs s (.inr (.inr h))) (LabOk.of_nil hflag.2) hK
      split at he
      · rename_i ht
        rw [if_pos ht]
        cases hj : (first x).bind E.join with
        | none => rw [hj] at he; exact hx γ st a w R' G he
        | some h =>
          rw [hj] at he
          have := hs (.join h x Kf) (.inr (.inl (.inl (.inl (by rw [hj]; simp)))))
          exact goJ_ok hE.nl (fun x => this ms x) hx γ st a w R' G he
      · rename_i ht
        rw [if_neg ht]
        cases hj : (first y).bind E.join with
        | none => rw [hj] at he; exact hy γ st a w R' G he
        | some h =>
          rw [hj] at he
          have := hs (.join h y Kf) (.inr (.inl (.inl (.inr (by rw [hj]; simp)))))
          exact goJ_ok hE.nl (fun x => this ms x) hy γ st a w R' G he
    · cases he
  | block id c =>
    simp only [evalCode] at he
    simp only [sites, List.mem_cons] at hs
    refine wp_block (ih c (by simp at hc; omega) (Kf := fun ms => kBlock id (Kf ms)) ms (fun s h => hs s (.inr h)) (LabOk.of_nil (hs _ (.inl rfl))) ?_ γ st a w R' G he)
    intro ex
    cases ex with
    | normal => exact hK .normal
    | exit i =>
      intro γ st a w R' G he
      simp only [kBlock] at he
      show (if i = id then Q .normal a w else Q (.exit i) a w)
      split at he
      · rename_i h; rw [if_pos h]; exact hK .normal γ st a w R' G he
      · rename_i h; rw [if_neg h]; exact hK (.exit i) γ st a w R' G he
    | goto l => exact hK (.goto l)
    | ret => exact hK .ret
  | loop c =>
    simp only [evalCode] at he
    simp only [sites] at hs
    split at he
    · rename_i h hl
      rw [hl] at hs
      simp only [List.mem_cons] at hs
      have hsite := hs _ (.inr (.inl rfl)) ms
      refine goL_ok hE.nl (Q := (Code.loop c).wp P Q) (fun a w hL => ?_) γ st a w R' G he
      refine wp_loop_ghost (Looped C E r h ms) E.n hL fun n a w hn => ?_
      obtain ⟨γ, x, R1, G1, hx⟩ := hn
      cases n with
      | zero => rw [hsite.1] at hx; cases hx
      | succ m =>
        rw [hsite.2] at hx
        refine ih c (by simp at hc; omega) (Kf := fun ms => kLoop E.nl h ms.tail ms.head! (Kf ms.tail)) (m :: ms) (fun s h => hs s (.inr (.inr h))) (LabOk.of_nil (hs _ (.inl rfl))) ?_ γ _ a w R1 G1 hx
        intro ex
        cases ex with
        | normal => exact goL_ok hE.nl fun a w hL => ⟨m, Nat.lt_succ_self m, hL⟩
        | exit id => exact hK (.exit id)
        | goto l => exact hK (.goto l)
        | ret => exact hK .ret
    · cases he
  | exit id => exact wp_exit (hK (.exit id) γ st a w R' G (by simpa [evalCode] using he))
  | goto l => exact wp_goto (hK (.goto l) γ st a w R' G (by simpa [evalCode] using he))
  | ret => exact wp_ret (hK .ret γ st a w R' G (by simpa [evalCode] using he))
  | scope c =>
    simp only [evalCode] at he
    simp only [sites, List.mem_cons] at hs
    have hflag := hs _ (.inl rfl)
    have hs' : ∀ s, s ∈ sites E c (fun ms => kScope (Kf ms)) → s.ok E := fun s h => hs s (.inr h)
    have straight : (∀ l h, l ∈ labs c → E.lab l = some h → False) → (Code.scope c).wp P Q a w := by
      intro hno
      refine wp_scope_straight (ih c (by simp at hc; omega) (Kf := fun ms => kScope (Kf ms)) ms hs' (fun l h hl hg => (hno l h hl hg).elim) ?_ γ st a w R' G he)
      intro ex
      cases ex with
      | normal => exact hK .normal
      | exit id => exact hK (.exit id)
      | goto l => exact fun γ st a w R' G he => by cases he
      | ret => exact hK .ret
    simp only [Site.ok, scopeB] at hflag
    split at hflag
    · rename_i hlabs
      exact straight fun l h hl => by rw [hlabs] at hl; simp at hl
    · rename_i l hlabs
      cases hg : E.lab l with
      | none =>
        refine straight fun i h hi hg' => ?_
        rw [hlabs] at hi
        simp only [List.mem_singleton] at hi
        subst hi
        rw [hg] at hg'; cases hg'
      | some h =>
        obtain ⟨b, hb⟩ := Option.isSome_iff_exists.1 hflag
        obtain ⟨g1, g2, g3⟩ := findTail_sites hg hb hs'
        refine wp_scope_jumps l (fun a w => ∃ n, Looped C E r h ms n a w) (fun a w => leastOf fun n => Looped C E r h ms n a w) (findTail_label hb) ?_ ?_
        · refine ih c (by simp at hc; omega) (Kf := fun ms => kScope (Kf ms)) ms hs' (fun i g hi hg' => ?_) ?_ γ st a w R' G he
          · rw [hlabs] at hi
            simp only [List.mem_singleton] at hi
            subst hi
            rw [hg] at hg'
            simp only [Option.some.injEq] at hg'
            subst hg'
            exact fun n a w hLp => ⟨rfl, n, hLp⟩
          · intro ex
            cases ex with
            | normal => exact hK .normal
            | exit id => exact hK (.exit id)
            | goto l => exact fun γ st a w R' G he => by cases he
            | ret => exact hK .ret
        · intro a w hJ
          have hleast := (leastOf_spec hJ).1
          refine wp_seq (wp_skip ?_)
          show b.wp P _ a w
          generalize hnn : leastOf (fun n => Looped C E r h ms n a w) = n at *
          obtain ⟨γ, x, R1, G1, hx⟩ := hleast
          cases n with
          | zero => rw [(g2 ms).1] at hx; cases hx
          | succ m =>
            rw [(g2 ms).2] at hx
            have hlt := findTail_lt hb
            refine ih b (by simp only [Code.scope.sizeOf_spec] at hc; omega) (Kf := fun ms => kLab E.nl l h ms.tail ms.head! (kScope (Kf ms.tail))) (m :: ms) g3 (LabOk.of_nil g1) ?_ γ _ a w R1 G1 hx
            intro ex
            cases ex with
            | goto i =>
              intro γ st a w R' G he
              have he : (if i = l then goL E.nl h ms m st else none) = some r := he
              obtain ⟨e, he2⟩ := if_some he
              subst e
              refine goL_ok hE.nl (fun a' w' hLp => ?_) γ st a w R' G he2
              exact show i = i ∧ (∃ n, Looped C E r h ms n a' w') ∧ leastOf (fun n => Looped C E r h ms n a' w') < m + 1 from ⟨rfl, ⟨m, hLp⟩, Nat.lt_succ_of_le ((leastOf_spec ⟨m, hLp⟩).2 m hLp)⟩
            | normal => exact hK .normal
            | exit id => exact hK (.exit id)
            | ret => exact hK .ret
    · cases hflag
  | rangeFunc f p x y => cases he
  | refuse why => cases he

theorem evalCode_sound {E : Env R} (hE : EnvOk P C.L C.nl E) (hm : P.follows .mixedOrders = true) (c : Code) {Kf : List Nat → Kont R} (ms : List Nat) {Q : Exit → Act → World → Prop} (hs : ∀ s, s ∈ sites E c Kf → s.ok E) (hL : LabOk C E r c ms Q) (hK : KOk C E r (Kf ms) Q) :
    NextOk C E r (fun st => evalCode E ms c st (Kf ms)) (c.wp P Q) := evalCode_sound' hE hm _ c (Nat.lt_succ_self _) ms hs hL hK

end
end Rv
