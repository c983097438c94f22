/- Told functions of plain arguments and results, out of contracts that are proved elsewhere. -/
import Derived.Test.YtlbfhddhojejfaaDoorRvT
import Derived.Below
import Derived.Lib.LaidTab
set_option linter.all false
namespace Rv
open Go Go.RowKit

/-- Kinds that need no memory. -/
def CD.isPlain : CD → Bool
  | .int _ | .bool | .str | .err | .ifo _ _ => true
  | _ => false

/-- Kinds of arguments: the value is known. -/
def CD.isVal : CD → Bool
  | .int _ | .bool | .str | .ifo _ _ => true
  | _ => false

def CD.val : (c : CD) → c.T → Value
  | .int k, n => .int k n
  | .bool, b => .bool b
  | .str, s => .string (mkS s)
  | .ifo t k, o => match o with
    | none => .nilIface
    | some n => .iface t (.int k n)
  | _, _ => undef

def valsL : (l : List CD) → TL l → List Value
  | [], _ => []
  | c :: r, x => c.val x.1 :: valsL r x.2

def flatFrom : Nat → List CD → List (Nat × SD)
  | _, [] => []
  | i, c :: r => (i, .c c) :: flatFrom (i + 1) r

def flatS (l : List CD) : Shape := ⟨flatFrom 0 l, []⟩

/-- What a plain result is. -/
def CD.res : (c : CD) → c.T → Value → Prop
  | .int k, n, v => v = .int k n
  | .bool, b, v => v = .bool b
  | .str, s, v => v = .string (mkS s)
  | .err, b, v => v.oneCell' = true ∧ (b = true → v = .nilIface) ∧ (b = false → ∃ t x, v = .iface t x)
  | .ifo t k, o, v => match o with
    | none => v = .nilIface
    | some n => v = .iface t (.int k n)
  | _, _, _ => False

def resL : (l : List CD) → TL l → List Value → Prop
  | [], _, [] => True
  | c :: r, x, v :: vs => c.res x.1 v ∧ resL r x.2 vs
  | _, _, _ => False

section
variable {P : Program} {C : Ctx} {γ : Gam} {h : Heap} {w : World}

theorem flatFrom_all : ∀ (l : List CD) (i : Nat), ((flatFrom i l).flatMap fun p => p.2.cds) = l
  | [], _ => rfl
  | c :: r, i => by simp only [flatFrom, List.flatMap_cons]; rw [flatFrom_all r (i + 1)]; rfl

theorem flatFrom_idx : ∀ (l : List CD) (i : Nat), (flatFrom i l).map (·.1) = List.range' i l.length
  | [], _ => rfl
  | c :: r, i => by simp only [flatFrom, List.map_cons, List.length_cons, List.range'_succ]; rw [flatFrom_idx r (i + 1)]

theorem flatFrom_len (l : List CD) (i : Nat) : (flatFrom i l).length = l.length := by
  have := congrArg List.length (flatFrom_idx l i)
  simpa using this

theorem flatS_all (l : List CD) : (flatS l).all = l := by
  unfold Shape.all flatS
  simp [flatFrom_all]

theorem flatV_from {vals : Array Value} : ∀ (l : List CD) (i : Nat), flatV vals (flatFrom i l) = (List.range' i l.length).map fun j => vals.getD j undef
  | [], _ => rfl
  | c :: r, i => by simp only [flatFrom, flatV, List.length_cons, List.range'_succ, List.map_cons]; rw [flatV_from r (i + 1)]

theorem range_getD (vals : Array Value) : (List.range' 0 vals.size).map (fun j => vals.getD j undef) = vals.toList := by
  apply List.ext_getElem
  · simp
  · intro i h1 h2
    have : i < vals.size := by simpa using h2
    simp [Array.getD, this]

theorem vals_of {nm : Nm} : ∀ {l : List CD} {x : TL l} {m : Nat} {vs : List Value}, l.all CD.isVal = true → All2 (RepC C γ h w) (mkL nm l x m).1 vs → vs = valsL l x
  | [], _, _, vs, _, ha => by
    cases vs with
    | nil => rfl
    | cons _ _ => exact ha.elim
  | c :: r, x, m, vs, hl, ha => by
    simp only [List.all_cons, Bool.and_eq_true] at hl
    cases vs with
    | nil => exact ha.elim
    | cons v vs =>
      simp only [mkL] at ha
      obtain ⟨h1, h2⟩ := ha
      have := vals_of hl.2 h2
      subst this
      simp only [valsL]
      congr 1
      cases c with
      | int k => exact h1
      | bool => exact h1
      | str => exact h1
      | ifo t k =>
        obtain ⟨o, x'⟩ := x
        cases o with
        | none => exact h1
        | some n => exact h1
      | _ => cases hl.1

theorem plain_rows {nm : Nm} : ∀ {l : List CD} {x : TL l} {m : Nat}, l.all CD.isPlain = true → (mkL nm l x m).2.1 = []
  | [], _, _, _ => rfl
  | c :: r, x, m, hl => by
    simp only [List.all_cons, Bool.and_eq_true] at hl
    simp only [mkL]
    rw [plain_rows hl.2]
    cases c <;> first | rfl | cases hl.1

theorem res_rep {nm : Nm} : ∀ {l : List CD} {x : TL l} {m : Nat} {vs : List Value}, resL l x vs → All2 (RepC C γ h w) (mkL nm l x m).1 vs
  | [], _, _, [], _ => trivial
  | [], _, _, _ :: _, hr => hr.elim
  | _ :: _, _, _, [], hr => hr.elim
  | c :: r, x, m, v :: vs, hr => by
    simp only [mkL]
    refine ⟨?_, res_rep hr.2⟩
    have := hr.1
    cases c with
    | int k => exact this
    | bool => exact this
    | str => exact this
    | err => exact this
    | ifo t k =>
      obtain ⟨o, x'⟩ := x
      cases o with
      | none => exact this
      | some n => exact this
    | _ => exact this.elim

theorem isVal_plain {c : CD} (h : c.isVal = true) : c.isPlain = true := by cases c <;> first | rfl | cases h

/-- A state that holds nothing. -/
theorem inv_none (I : Inv C γ h C.w0) (hn : C.nl = 0) {w' : World} (hb : Below C.w0.heap.size C.w0 w') : Inv C (fun _ => none) (Heap.ofList []) w' where
  box := fun k e hk => by cases hk
  inj := fun k k' e e' g c c' hk => by cases hk
  own := fun k e g c hk => by cases hk
  frame := fun g hg _ => hb.block g hg
  size := hb.size
  os := hb.os
  tape := hb.tape
  output := hb.output
  new := I.new
  rd := I.rd
  laid := I.stable C.w0 w' I.laid fun g hno => hb.block g (by
    by_cases hlt : g < C.w0.heap.size
    · exact hlt
    · exact absurd (I.new g (by omega)) hno)
  stable := I.stable
  lent := fun i hi => by omega

theorem sat_plain {L : World → Prop} {f : FuncId} {sp : Spec} {la lr : List CD} (ea : sp.a = flatS la) (er : sp.r = flatS lr) (ha : la.all CD.isVal = true) (hr : lr.all CD.isPlain = true)
    (H : ∀ (x : TL la) (y : TL lr), sp.f (cast (by rw [ea]; show TL la = TL (flatS la).all; rw [flatS_all]) x) = some (cast (by rw [er]; show TL lr = TL (flatS lr).all; rw [flatS_all]) y) → ∀ w, L w →
      Calls P f (valsL la x).toArray w fun e w' => Below w.heap.size w w' ∧ ∃ rs : Array Value, e = .returned (if h : rs.size = 1 then rs[0] else .tuple rs) ∧ resL lr y rs.toList) : Sat P L f sp := by
  obtain ⟨a, r, g⟩ := sp
  simp only at ea er H
  subst ea er
  intro x y hy C γ vals hCL hCn R
  have hCn : C.nl = 0 := hCn
  have eqT : ∀ l : List CD, (flatS l).T = TL l := fun l => by show TL (flatS l).all = TL l; rw [flatS_all]
  have hw := H (cast (eqT la) x) (cast (eqT lr) y) (by simp only [cast_cast, cast_eq]; exact hy) C.w0 (by rw [← hCL]; exact R.inv.laid)
  have hsz : vals.size = la.length := by
    rw [R.size]
    show (putSlots _ _ _).1.length = _
    rw [putSlots_len]
    simp [flatS, flatFrom_len]
  have castmk : ∀ (l : List CD) (nm : Nm) (x : (flatS l).T) (m : Nat), mkL nm (flatS l).all x m = mkL nm l (cast (eqT l) x) m := by
    intro l nm x m
    have gen : ∀ (l' : List CD) (e : l' = l) (x : TL l') (h : TL l' = TL l), mkL nm l' x m = mkL nm l (cast h x) m := by
      intro l' e x h; subst e; rfl
    exact gen _ (flatS_all l) x _
  have hvals : vals = (valsL la (cast (eqT la) x)).toArray := by
    have hnd : ((flatS la).slots.map (·.1)).Nodup := by
      show ((flatFrom 0 la).map (·.1)).Nodup
      rw [flatFrom_idx]; exact List.nodup_range'
    have hlt : ∀ i, i ∈ (flatS la).slots.map (·.1) → i < (List.replicate (flatS la).slots.length V.dead).length := fun i hi => by
      have hi : i ∈ (flatFrom 0 la).map (·.1) := hi
      rw [flatFrom_idx] at hi
      simp only [List.mem_range'_1] at hi
      simp [flatS, flatFrom_len]; omega
    have hlen : (mkL nmJ (flatS la).all x (flatS la).boxes.length).1.length = ((flatS la).slots.flatMap fun p => p.2.cds).length := by
      rw [(mkL_count _ _ _ _).2.2, flatS_all]
      show _ = ((flatFrom 0 la).flatMap _).length
      rw [flatFrom_all]
    have hb := (putSlots_back (C := C) (γ := γ) (h := ((flatS la).mk' nmJ (flatS la).slots.length x).h) (w := C.w0) (vals := vals) hnd hlt hlen R.slot).1
    rw [castmk] at hb
    have hv := vals_of ha hb
    have hf : flatV vals (flatS la).slots = vals.toList := by
      show flatV vals (flatFrom 0 la) = _
      rw [flatV_from, ← hsz, range_getD]
    rw [hf] at hv
    rw [← hv]
  rw [hvals]
  refine hw.mono fun e w' ⟨hb, rs, he, hres⟩ => ⟨fun _ => none, rs, he, ?_⟩
  have hrows : (mkL nmJ (flatS lr).all y (flatS lr).boxes.length).2.1 = [] := by rw [castmk]; exact plain_rows hr
  have hh : ((flatS lr).mk' nmJ (flatS lr).slots.length y).h = Heap.ofList [] := by
    have : ((flatS lr).mk' nmJ (flatS lr).slots.length y).h = Heap.ofList ([] ++ (mkL nmJ (flatS lr).all y (flatS lr).boxes.length).2.1) := rfl
    rw [this, hrows]; rfl
  have hlr : ∀ {l : List CD} {x : TL l} {vs : List Value}, resL l x vs → vs.length = l.length := by
    intro l
    induction l with
    | nil => intro x vs hr; cases vs with
      | nil => rfl
      | cons _ _ => exact hr.elim
    | cons c l ih => intro x vs hr; cases vs with
      | nil => exact hr.elim
      | cons v vs => simp [ih hr.2]
  have hrs : rs.size = lr.length := by have := hlr hres; simpa using this
  have hcells := res_rep (C := C) (γ := fun _ => none) (h := Heap.ofList []) (w := w') (nm := nmJ) (m := (flatS lr).boxes.length) hres
  rw [← castmk] at hcells
  have hfv : flatV rs (flatS lr).slots = rs.toList := by
    show flatV rs (flatFrom 0 lr) = _
    rw [flatV_from, ← hrs, range_getD]
  have hok : SlotsOk rs (flatS lr).slots := by
    intro i sd hm
    have hm : (i, sd) ∈ flatFrom 0 lr := hm
    have : ∀ (l : List CD) (j : Nat), (i, sd) ∈ flatFrom j l → ∃ c, sd = .c c := by
      intro l
      induction l with
      | nil => intro j hj; simp [flatFrom] at hj
      | cons c l ih =>
        intro j hj
        simp only [flatFrom, List.mem_cons, Prod.mk.injEq] at hj
        rcases hj with hj | hj
        · exact ⟨c, hj.2⟩
        · exact ih _ hj
    obtain ⟨c, rfl⟩ := this lr 0 hm
    trivial
  obtain ⟨h1, h2, _⟩ := putSlots_sound (C := C) (γ := fun _ => none) (h := Heap.ofList []) (w := w') (vals := rs) (sl := (flatS lr).slots) (l := List.replicate (flatS lr).slots.length V.dead) (rest := []) hok (fun i v hi => by
      rw [List.getElem?_replicate] at hi
      split at hi
      · simp only [Option.some.injEq] at hi; subst hi; trivial
      · cases hi) (by rw [hfv, List.append_nil]; exact hcells)
  refine ⟨?_, ?_, ?_⟩
  · show rs.size = (putSlots _ _ _).1.length
    rw [h1, List.length_replicate, hrs]
    simp [flatS, flatFrom_len]
  · rw [hh]; exact h2
  · rw [hh]; exact inv_none R.inv hCn hb

/- What package variables hold, is held. -/
theorem keepCell {w a b : World} {q : Addr} {u v : Value} (h : w.cell? q = some u) (ha : a.cell? q = some v) (hb : ∀ g, g < w.heap.size → b.heap[g]? = a.heap[g]?) : b.cell? q = some v :=
  (World.cell?_of_block (hb _ (World.block_lt_of_cell? w q h))).trans ha
theorem keepI {w a b : World} {q : Addr} (h : ∃ te pe, w.cell? q = some (.iface te pe)) (ha : ∃ te pe, a.cell? q = some (.iface te pe)) (hb : ∀ g, g < w.heap.size → b.heap[g]? = a.heap[g]?) : ∃ te pe, b.cell? q = some (.iface te pe) := by
  obtain ⟨_, _, h⟩ := h
  obtain ⟨te, pe, ha⟩ := ha
  exact ⟨te, pe, keepCell h ha hb⟩
theorem keepN {w a b : World} {q : Addr} {k : IntKind} (h : ∃ m, w.cell? q = some (.int k m)) (ha : ∃ m, a.cell? q = some (.int k m)) (hb : ∀ g, g < w.heap.size → b.heap[g]? = a.heap[g]?) : ∃ m, b.cell? q = some (.int k m) := by
  obtain ⟨_, h⟩ := h
  obtain ⟨m, ha⟩ := ha
  exact ⟨m, keepCell h ha hb⟩
theorem keepVar {w a b : World} {n : String} {c d : Array Value} (h : w.var? P n = some c) (ha : a.var? P n = some d) (hb : ∀ g, g < w.heap.size → b.heap[g]? = a.heap[g]?) : b.var? P n = some d := by
  unfold World.var? at h ha ⊢
  cases hg : P.globalNamed n with
  | none => simp [hg] at h
  | some g =>
    simp only [hg, Option.bind_some] at h ha ⊢
    have hlt : g < w.heap.size := by
      rcases Nat.lt_or_ge g w.heap.size with h' | h'
      · exact h'
      · simp [Array.getElem?_eq_none h'] at h
    rw [hb g hlt]
    exact ha
theorem keepTab {w a b : World} {n : String} {k : IntKind} {zs : List Int} (h : Lib.TabIs P w n k zs) (ha : Lib.TabIs P a n k zs) (hb : ∀ g, g < w.heap.size → b.heap[g]? = a.heap[g]?) : Lib.TabIs P b n k zs := keepVar h ha hb

end
end Rv
