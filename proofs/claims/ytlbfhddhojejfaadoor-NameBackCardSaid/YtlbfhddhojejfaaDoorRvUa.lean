/- Told functions whose arguments may be slices. -/
import Derived.Test.YtlbfhddhojejfaaDoorRvU
set_option linter.all false
namespace Rv
open Go Go.RowKit

def CD.isArg : CD → Bool
  | .int _ | .bool | .str | .ifo _ _ | .sl _ => true
  | _ => false

/-- A slice's value and its elements, wherever they lie. -/
def SlOf (w : World) (t : Ty) (xs : List t.D) (v : Value) : Prop :=
  ∃ A c, v = .slice A xs.length c ∧ xs.length ≤ c ∧ ∀ i x, xs[i]? = some x → ∃ g o ds, A = some ⟨g, o, none⟩ ∧ g < w.heap.size ∧ Rd w (fun _ => True) t x ds ∧ ∀ j v, ds[j]? = some v → w.cell? ⟨g, o + i * t.size + j, none⟩ = some v

def CD.argR (w : World) : (c : CD) → c.T → Value → Prop
  | .sl t, xs, v => SlOf w t xs v
  | c, x, v => v = c.val x

def argsR (w : World) : (l : List CD) → TL l → List Value → Prop
  | [], _, vs => vs = []
  | _ :: _, _, [] => False
  | c :: l, x, v :: vs => c.argR w x.1 v ∧ argsR w l x.2 vs

section
variable {P : Program} {C : Ctx} {γ : Gam} {h : Heap} {w : World}

theorem args_of {nm : Nm} : ∀ {l : List CD} {x : TL l} {m : Nat} {vs : List Value}, l.all CD.isArg = true → All2 (RepC C γ h w) (mkL nm l x m).1 vs → argsR w l x vs
  | [], _, _, vs, _, ha => by
    cases vs with
    | nil => rfl
    | cons _ _ => exact ha.elim
  | c :: r, x, m, vs, hl, ha => by
    simp only [List.all_cons, Bool.and_eq_true] at hl
    cases vs with
    | nil => exact ha.elim
    | cons v vs =>
      simp only [mkL] at ha
      obtain ⟨h1, h2⟩ := ha
      refine ⟨?_, args_of hl.2 h2⟩
      cases c with
      | int k => exact h1
      | bool => exact h1
      | str => exact h1
      | ifo t k =>
        obtain ⟨o, x'⟩ := x
        cases o with
        | none => exact h1
        | some n => exact h1
      | sl t =>
        obtain ⟨_, A, c, hv, hc, hx⟩ := h1
        refine ⟨A, c, hv, hc, fun i y hy => ?_⟩
        obtain ⟨g, o, ds, h3, _, h5, h6, h7⟩ := hx i y hy
        exact ⟨g, o, ds, h3, h5, h6.mono (Nat.le_refl _) (fun _ _ _ => ⟨rfl, trivial⟩), h7⟩
      | _ => cases hl.1

theorem sat_args {L : World → Prop} {f : FuncId} {sp : Spec} {la lr : List CD} (ea : sp.a = flatS la) (er : sp.r = flatS lr) (ha : la.all CD.isArg = true) (hr : lr.all CD.isPlain = true)
    (H : ∀ (x : TL la) (y : TL lr), sp.f (cast (by rw [ea]; show TL la = TL (flatS la).all; rw [flatS_all]) x) = some (cast (by rw [er]; show TL lr = TL (flatS lr).all; rw [flatS_all]) y) → ∀ w vs, L w → argsR w la x vs →
      Calls P f vs.toArray w fun e w' => Below w.heap.size w w' ∧ ∃ rs : Array Value, e = .returned (if h : rs.size = 1 then rs[0] else .tuple rs) ∧ resL lr y rs.toList) : Sat P L f sp := by
  obtain ⟨a, r, g⟩ := sp
  simp only at ea er H
  subst ea er
  intro x y hy C γ vals hCL hCn R
  have hCn : C.nl = 0 := hCn
  have eqT : ∀ l : List CD, (flatS l).T = TL l := fun l => by show TL (flatS l).all = TL l; rw [flatS_all]
  have hsz : vals.size = la.length := by
    rw [R.size]
    show (putSlots _ _ _).1.length = _
    rw [putSlots_len]
    simp [flatS, flatFrom_len]
  have castmk : ∀ (l : List CD) (nm : Nm) (x : (flatS l).T) (m : Nat), mkL nm (flatS l).all x m = mkL nm l (cast (eqT l) x) m := by
    intro l nm x m
    have gen : ∀ (l' : List CD) (e : l' = l) (x : TL l') (h : TL l' = TL l), mkL nm l' x m = mkL nm l (cast h x) m := by
      intro l' e x h; subst e; rfl
    exact gen _ (flatS_all l) x _
  have hvals : argsR C.w0 la (cast (eqT la) x) vals.toList := by
    have hnd : ((flatS la).slots.map (·.1)).Nodup := by
      show ((flatFrom 0 la).map (·.1)).Nodup
      rw [flatFrom_idx]; exact List.nodup_range'
    have hlt : ∀ i, i ∈ (flatS la).slots.map (·.1) → i < (List.replicate (flatS la).slots.length V.dead).length := fun i hi => by
      have hi : i ∈ (flatFrom 0 la).map (·.1) := hi
      rw [flatFrom_idx] at hi
      simp only [List.mem_range'_1] at hi
      simp [flatS, flatFrom_len]; omega
    have hlen : (mkL nmJ (flatS la).all x (flatS la).boxes.length).1.length = ((flatS la).slots.flatMap fun p => p.2.cds).length := by
      rw [(mkL_count _ _ _ _).2.2, flatS_all]
      show _ = ((flatFrom 0 la).flatMap _).length
      rw [flatFrom_all]
    have hb := (putSlots_back (C := C) (γ := γ) (h := ((flatS la).mk' nmJ (flatS la).slots.length x).h) (w := C.w0) (vals := vals) hnd hlt hlen R.slot).1
    rw [castmk] at hb
    have hv := args_of ha hb
    have hf : flatV vals (flatS la).slots = vals.toList := by
      show flatV vals (flatFrom 0 la) = _
      rw [flatV_from, ← hsz, range_getD]
    rw [hf] at hv
    exact hv
  have hw := H (cast (eqT la) x) (cast (eqT lr) y) (by simp only [cast_cast, cast_eq]; exact hy) C.w0 vals.toList (by rw [← hCL]; exact R.inv.laid) hvals
  rw [Array.toArray_toList] at hw
  refine hw.mono fun e w' ⟨hb, rs, he, hres⟩ => ⟨fun _ => none, rs, he, ?_⟩
  have hrows : (mkL nmJ (flatS lr).all y (flatS lr).boxes.length).2.1 = [] := by rw [castmk]; exact plain_rows hr
  have hh : ((flatS lr).mk' nmJ (flatS lr).slots.length y).h = Heap.ofList [] := by
    have : ((flatS lr).mk' nmJ (flatS lr).slots.length y).h = Heap.ofList ([] ++ (mkL nmJ (flatS lr).all y (flatS lr).boxes.length).2.1) := rfl
    rw [this, hrows]; rfl
  have hlr : ∀ {l : List CD} {x : TL l} {vs : List Value}, resL l x vs → vs.length = l.length := by
    intro l
    induction l with
    | nil => intro x vs hr; cases vs with
      | nil => rfl
      | cons _ _ => exact hr.elim
    | cons c l ih => intro x vs hr; cases vs with
      | nil => exact hr.elim
      | cons v vs => simp [ih hr.2]
  have hrs : rs.size = lr.length := by have := hlr hres; simpa using this
  have hcells := res_rep (C := C) (γ := fun _ => none) (h := Heap.ofList []) (w := w') (nm := nmJ) (m := (flatS lr).boxes.length) hres
  rw [← castmk] at hcells
  have hfv : flatV rs (flatS lr).slots = rs.toList := by
    show flatV rs (flatFrom 0 lr) = _
    rw [flatV_from, ← hrs, range_getD]
  have hok : SlotsOk rs (flatS lr).slots := by
    intro i sd hm
    have hm : (i, sd) ∈ flatFrom 0 lr := hm
    have : ∀ (l : List CD) (j : Nat), (i, sd) ∈ flatFrom j l → ∃ c, sd = .c c := by
      intro l
      induction l with
      | nil => intro j hj; simp [flatFrom] at hj
      | cons c l ih =>
        intro j hj
        simp only [flatFrom, List.mem_cons, Prod.mk.injEq] at hj
        rcases hj with hj | hj
        · exact ⟨c, hj.2⟩
        · exact ih _ hj
    obtain ⟨c, rfl⟩ := this lr 0 hm
    trivial
  obtain ⟨h1, h2, _⟩ := putSlots_sound (C := C) (γ := fun _ => none) (h := Heap.ofList []) (w := w') (vals := rs) (sl := (flatS lr).slots) (l := List.replicate (flatS lr).slots.length V.dead) (rest := []) hok (fun i v hi => by
      rw [List.getElem?_replicate] at hi
      split at hi
      · simp only [Option.some.injEq] at hi; subst hi; trivial
      · cases hi) (by rw [hfv, List.append_nil]; exact hcells)
  refine ⟨?_, ?_, ?_⟩
  · show rs.size = (putSlots _ _ _).1.length
    rw [h1, List.length_replicate, hrs]
    simp [flatS, flatFrom_len]
  · rw [hh]; exact h2
  · rw [hh]; exact inv_none R.inv hCn hb

end
end Rv
