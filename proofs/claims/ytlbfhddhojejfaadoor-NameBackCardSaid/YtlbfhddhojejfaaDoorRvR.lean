/- Functions. -/
import Derived.Test.YtlbfhddhojejfaaDoorRvQ
set_option linter.all false
namespace Rv
open Go

def resOne (te : TypeId → Option TI) (st : St) : ResultVar → Option V1
  | .tmp t => opd st (.tmp t)
  | .cell a t => match opd st (.tmp a) with
    | some (.c (.ptr k v off)) => loadK te st t (.c (.ptr k v off)) some
    | _ => none

def resAll (te : TypeId → Option TI) (st : St) : List ResultVar → Option (List V1)
  | [] => some []
  | x :: r => match resOne te st x with
    | some v => match resAll te st r with
      | some l => some (v :: l)
      | none => none
    | none => none

def endSt (te : TypeId → Option TI) (rs : List ResultVar) (sp : Spec) (st : St) : Option sp.r.T :=
  match resAll te st rs with
  | some vs => if vs.length = sp.r.slots.length ∧ sp.r.pins sp.a.boxes.length = true then match sp.r.abs ⟨vs.map .v, st.h⟩ with
    | some a => some a.x
    | none => none
    else none
  | none => none

/-- What a function yields at its end. -/
def endK (te : TypeId → Option TI) (rs : List ResultVar) (sp : Spec) : Kont sp.r.T
  | .normal, st => endSt te rs sp st
  | .ret, st => endSt te rs sp st
  | _, _ => none

/-- A function's state at its beginning. -/
def init (sp : Spec) (N : Nat) (x : sp.a.T) : St :=
  let s := sp.a.mk' nmJ sp.a.slots.length x
  ⟨s.s ++ List.replicate (N - sp.a.slots.length) V.dead, s.h⟩

section
variable {P : Program} {C : Ctx} {γ : Gam} {w : World} {R : Type} {r : R}

def resSem (tmps : Array Value) : ResultVar → Sem Value
  | .tmp t => pure (tmps.getD t undef)
  | .cell b t => do loadVar t (← asAddr (tmps.getD b undef))

theorem resOne_sound {te : TypeId → Option TI} (hte : ∀ t i, te t = some i → TIok P t i) {st : St} {a : Act} (R' : Rel C γ w st a.tmps) {x : ResultVar} {v : V1} (he : resOne te st x = some v) :
    ∃ u, RepV1 C γ st.h w v u ∧ (resSem a.tmps x).run P w = .ok u w := by
  cases x with
  | tmp t =>
    simp only [resOne] at he
    exact ⟨_, (R'.opd he).1, rfl⟩
  | cell b t =>
    simp only [resOne] at he
    split at he
    · rename_i k kv off ho
      have hb := (R'.opd ho).1
      obtain ⟨y, hy, u, hu, hrun⟩ := loadK_sound (P := P) hte R'.inv he hb
      simp only [Option.some.injEq] at hy
      subst hy
      refine ⟨u, hu, ?_⟩
      have h1 := hrun w (Ext.refl w)
      unfold loadK at he
      split at he
      · rename_i k' kv' off' ti he' _
        injection he' with he'
        injection he' with e1 e2 e3
        subst e1 e2 e3
        split at he
        · rename_i l hat
          obtain ⟨e, hk, hve, hbox⟩ := at_some hat
          obtain ⟨g, c, hγ, hv⟩ := hb.2.get hk hve l hbox
          have hv' : a.tmps.getD b undef = _ := hv
          rw [show a.eval (.tmp b) = _ from hv'] at h1
          show (do loadVar t (← asAddr (a.tmps.getD b undef))).run P w = _
          rw [hv']
          exact h1
        · cases he
      · rename_i he' _
        simp at he'
      · rename_i he' _
        simp at he'
      · rename_i he' _
        simp at he'
      · cases he
    · cases he

theorem resAll_sound {te : TypeId → Option TI} (hte : ∀ t i, te t = some i → TIok P t i) {st : St} {a : Act} (R' : Rel C γ w st a.tmps) : ∀ {l : List ResultVar} {vs : List V1}, resAll te st l = some vs →
    ∃ us : List Value, All2 (RepV1 C γ st.h w) vs us ∧ (l.mapM (resSem a.tmps)).run P w = .ok us w
  | [], vs, he => by
    simp only [resAll, Option.some.injEq] at he
    subst he
    exact ⟨[], trivial, rfl⟩
  | x :: l, vs, he => by
    simp only [resAll] at he
    split at he
    · rename_i v hv
      split at he
      · rename_i l' hl
        simp only [Option.some.injEq] at he
        subst he
        obtain ⟨u, h1, h2⟩ := resOne_sound hte R' hv
        obtain ⟨us, h3, h4⟩ := resAll_sound hte R' hl
        refine ⟨u :: us, ⟨h1, h3⟩, ?_⟩
        rw [List.mapM_cons, Sem.run_bind, h2, Result.andThen_ok, Sem.run_bind, h4]
        rfl
      · cases he
    · cases he

theorem results_sound {te : TypeId → Option TI} (hte : ∀ t i, te t = some i → TIok P t i) {st : St} {a : Act} (R' : Rel C γ w st a.tmps) {fn : Func} {vs : List V1} (he : resAll te st fn.results.toList = some vs) :
    ∃ rs : Array Value, All2 (RepV1 C γ st.h w) vs rs.toList ∧ (results fn a.tmps).run P w = .ok (if h : rs.size = 1 then rs[0] else .tuple rs) w := by
  obtain ⟨us, h1, h2⟩ := resAll_sound hte R' he
  refine ⟨us.toArray, h1, ?_⟩
  have hr : results fn a.tmps = (do
      let vs ← fn.results.mapM (resSem a.tmps)
      pure (if h : vs.size = 1 then vs[0] else .tuple vs)) := by
    unfold results
    congr 1
  rw [hr, Array.mapM_eq_mapM_toList]
  simp only [Sem.run_bind, map_eq_pure_bind, h2, Result.andThen_ok, Sem.run_pure]

theorem sat_of {L : World → Prop} {f : FuncId} {fn : Func} {c : Code} {sp : Spec} {E : Nat → Env sp.r.T} (hf : P.funcs[f]? = some fn) (hb : fn.body = some c) (hm : P.follows .mixedOrders = true) (hE : ∀ n, EnvOk P L sp.a.boxes.length (E n)) (hN : ∀ n, (E n).N = fn.ntmps)
    (hle : sp.a.slots.length ≤ fn.ntmps) (hlabs : (labs c).isEmpty = true) (hs : ∀ n s, s ∈ sites (E n) c (fun _ => endK (E n).te fn.results.toList sp) → s.ok (E n))
    (hx : ∀ x y, sp.f x = some y → ∃ n, evalCode (E n) [] c (init sp fn.ntmps x) (endK (E n).te fn.results.toList sp) = some y) : Sat P L f sp := by
  intro x y hy C γ vals hCL hCn R0
  subst hCL
  rw [← hCn] at hE
  obtain ⟨n, hn⟩ := hx x y hy
  have hsz : vals.size = sp.a.slots.length := by
    rw [R0.size]
    show (putSlots _ _ _).1.length = _
    rw [putSlots_len]; simp
  refine calls_of_wp hf hb ?_
  have Ri : Rel C γ C.w0 (init sp fn.ntmps x) (vals ++ Array.replicate (fn.ntmps - vals.size) undef) := by
    have hl : (sp.a.mk' nmJ sp.a.slots.length x).s.length = sp.a.slots.length := by rw [← R0.size]; exact hsz
    refine ⟨?_, fun i v hi => ?_, R0.inv⟩
    · simp only [init, Array.size_append, Array.size_replicate, List.length_append, List.length_replicate, hl, hsz]
    · simp only [init] at hi
      by_cases hlt : i < vals.size
      · rw [List.getElem?_append_left (by rw [hl, ← hsz]; exact hlt)] at hi
        have := R0.slot i v hi
        simpa [Array.getD_eq_getD_getElem?, Array.getElem?_append, hlt, init] using this
      · rw [List.getElem?_append_right (by rw [hl, ← hsz]; omega), List.getElem?_replicate] at hi
        split at hi
        · simp only [Option.some.injEq] at hi
          subst hi
          trivial
        · cases hi
  refine evalCode_sound (C := C) (r := y) (hE n) hm c [] (hs n) (Q := bodyPost P fn _) (LabOk.of_nil hlabs) ?_ γ _ _ C.w0 Ri ⟨?_, rfl⟩ hn
  · have fin : NextOk C (E n) y (endSt (E n).te fn.results.toList sp) (fun a w => a.defers = [] ∧ ∃ v, (results fn a.tmps).run P w = .ok v w ∧ ∃ (γ' : Gam) (rs : Array Value), Ending.returned v = .returned (if h : rs.size = 1 then rs[0] else .tuple rs) ∧ Rel C γ' w (sp.r.mk' nmJ sp.r.slots.length y) rs) := by
      intro γ1 st a w R1 G he
      unfold endSt at he
      split at he
      · rename_i vs hv
        obtain ⟨⟨hlen, hbx⟩, he'⟩ := if_some he
        split at he'
        · rename_i ab hab
          simp only [Option.some.injEq] at he'
          subst he'
          obtain ⟨rs, ha, hrun⟩ := results_sound (hE n).te R1 hv
          have Rr : Rel C γ1 w ⟨vs.map .v, st.h⟩ rs := by
            refine ⟨?_, fun i v hi => ?_, R1.inv⟩
            · have := ha.length
              simp only [List.length_map]
              rw [this]; simp
            · simp only [List.getElem?_map, Option.map_eq_some_iff] at hi
              obtain ⟨v1, h1, rfl⟩ := hi
              obtain ⟨u, hu, hr⟩ := ha.get h1
              have : rs.getD i undef = u := by
                rw [Array.getD_eq_getD_getElem?, ← Array.getElem?_toList, hu]; rfl
              rw [this]; exact hr
          obtain ⟨γ', R2, _⟩ := abs_sound hab Rr nmJ_inj R1.inv.invW (fun d g ho _ _ => ho.1) (fun k e g c _ hk hl hg => R1.inv.own k e g c hk hl hg)
            (fun i hi => by
              obtain ⟨h1, e, h2, h3⟩ := abs_pins hab hbx i (by omega)
              obtain ⟨e', h4, h5⟩ := R1.inv.lent i hi
              simp only at h2
              rw [h2] at h4
              simp only [Option.some.injEq] at h4
              subst h4
              exact ⟨rfl, _, h1, h5 h3⟩)
          have hl2 : (vs.map V.v).length = sp.r.slots.length := by rw [List.length_map]; exact hlen
          rw [hl2] at R2
          exact ⟨G.defers, _, hrun, γ', rs, rfl, R2⟩
        · cases he'
      · cases he
    intro ex
    cases ex with
    | normal => exact fin
    | ret => exact fin
    | exit id => exact fun γ1 st a w R1 G he => by cases he
    | goto l => exact fun γ1 st a w R1 G he => by cases he
  · simp only [Array.size_append, Array.size_replicate, hN n, hsz]
    omega

end
end Rv
