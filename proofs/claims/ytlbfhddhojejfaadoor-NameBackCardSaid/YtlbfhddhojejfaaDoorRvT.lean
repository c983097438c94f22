/- Tables of types, checked; a function's equations, put together. -/
import Derived.Test.YtlbfhddhojejfaaDoorRvR
import Derived.KernelRfl
set_option linter.all false
namespace Rv
open Go

def plainB : Cell → Value → Bool
  | .int k n, .int j m => decide (k = j) && decide (n = m)
  | .bool b, .bool c => b == c
  | .str s, .string t => decide (t.data.toList = s)
  | .nilS, .slice none 0 0 => true
  | .raw .nilIface, .nilIface => true
  | .raw (.pointer none), .pointer none => true
  | .raw .nilFunc, .nilFunc => true
  | _, _ => false

def plainsB : List Cell → List Value → Bool
  | [], [] => true
  | c :: l, v :: m => plainB c v && plainsB l m
  | _, _ => false

def fieldB (P : Program) (f : Nat × Nat × Bool) (fd : Field) : Bool :=
  decide (fd.offset = f.1) && decide (0 < f.2.1) && (match P.info? fd.type with | some inf => decide (inf.size = f.2.1) | none => false) &&
    (match P.underlying fd.type with | some d => isAggD d == f.2.2 | none => false)

def fieldsB (P : Program) : List (Nat × Nat × Bool) → List Field → Bool
  | [], [] => true
  | f :: l, g :: m => fieldB P f g && fieldsB P l m
  | _, _ => false

def eqFsB (P : Program) (rec : TypeId → Ty → Bool) : List Field → Nat → Ty → Bool
  | [], _, .nil => true
  | f :: fs, off, .pair A B => !(f.name == "_") && decide (f.offset = off) && rec f.type A && (match P.info? f.type with | some inf => decide (inf.size = A.size) | none => false) &&
    (match P.underlying f.type with | some d => isAggD d == A.isAgg | none => false) && eqFsB P rec fs (off + A.size) B
  | _, _, _ => false

def isStructD : Option TypeDesc → Bool
  | some (.struct _) => true
  | _ => false

def eqB (P : Program) : Nat → TypeId → Ty → Bool
  | 0, _, _ => false
  | d + 1, t, T => match T with
    | .int k => match P.underlying t with | some (.int k') => decide (k' = k) | _ => false
    | .bool => match P.underlying t with | some .bool => true | _ => false
    | .str => match P.underlying t with | some .string => true | _ => false
    | .sl _ => false
    | .nil => isStructD (P.underlying t) && !(P.stoodInHeld t) && eqFsB P (eqB P d) (P.fieldsOf t).toList 0 .nil
    | .pair a b => isStructD (P.underlying t) && !(P.stoodInHeld t) && eqFsB P (eqB P d) (P.fieldsOf t).toList 0 (.pair a b)

def checkTI (P : Program) (t : TypeId) (i : TI) : Bool :=
  match P.info? t, P.underlying t with
  | some inf, some d =>
    decide (inf.size = i.size) && decide (inf.bytes = i.bytes) && (match inf.zero with | some z => decide (z.cells.size = i.size) && plainsB i.zero z.cells.toList | none => false) &&
    (isAggD d == i.agg) && (i.fields.isEmpty || match d with | .struct fs => fieldsB P i.fields fs.toList | _ => false) &&
    (match i.elem with | none => true | some e => match d with | .slice e' => decide (e' = e) | _ => false) &&
    (match i.int with | none => true | some k => match d with | .int k' => decide (k' = k) | _ => false) &&
    (!i.str || match d with | .string => true | _ => false) &&
    (match i.ty with | none => true | some T => decide (T.size = i.size) && (T.isAgg == i.agg) && (match T with | .bool => (match d with | .bool => true | _ => false) | _ => true)) &&
    (!i.iface || match d with | .interface _ => true | _ => false) &&
    (match i.eq with | none => true | some T => eqB P 20 t T && !T.hasSl && T.isAgg && !(P.eqGuardType P.depth t)) &&
    (!i.cmp || inf.comparable) && (i.iface || match d with | .interface _ => false | _ => true) &&
    (match i.arr with | none => true | some n => match d with | .array m e => decide (m = n) && (match P.info? e, P.underlying e with | some ie, some de => decide (ie.size = 1) && !isAggD de | _, _ => false) | _ => false)
  | _, _ => false

section
variable {P : Program}

theorem plainB_sound {c : Cell} {v : Value} (h : plainB c v = true) : c.plain = some v := by
  unfold plainB at h
  split at h
  · simp only [Bool.and_eq_true, decide_eq_true_eq] at h
    rw [h.1, h.2]; rfl
  · simp only [beq_iff_eq] at h
    rw [h]; rfl
  · simp only [decide_eq_true_eq] at h
    subst h
    rfl
  · rfl
  · rfl
  · rfl
  · rfl
  · cases h

theorem plainsB_sound : ∀ {l : List Cell} {m : List Value}, plainsB l m = true → All2 (fun c v => c.plain = some v) l m
  | [], [], _ => trivial
  | c :: l, v :: m, h => by
    simp only [plainsB, Bool.and_eq_true] at h
    exact ⟨plainB_sound h.1, plainsB_sound h.2⟩
  | [], _ :: _, h => by cases h
  | _ :: _, [], h => by cases h

theorem fieldsB_sound : ∀ {l : List (Nat × Nat × Bool)} {m : List Field}, fieldsB P l m = true → All2 (fun (f : Nat × Nat × Bool) (fd : Field) => fd.offset = f.1 ∧ 0 < f.2.1 ∧ (∃ inf, P.info? fd.type = some inf ∧ inf.size = f.2.1) ∧
    ∃ d, P.underlying fd.type = some d ∧ isAggD d = f.2.2) l m
  | [], [], _ => trivial
  | f :: l, g :: m, h => by
    simp only [fieldsB, Bool.and_eq_true] at h
    refine ⟨?_, fieldsB_sound h.2⟩
    have h := h.1
    unfold fieldB at h
    simp only [Bool.and_eq_true, decide_eq_true_eq] at h
    obtain ⟨⟨⟨h1, h2⟩, h3⟩, h4⟩ := h
    refine ⟨h1, h2, ?_, ?_⟩
    · split at h3
      · rename_i inf hi
        exact ⟨inf, hi, by simpa using h3⟩
      · cases h3
    · split at h4
      · rename_i d hd
        exact ⟨d, hd, by simpa using h4⟩
      · cases h4
  | [], _ :: _, h => by cases h
  | _ :: _, [], h => by cases h

theorem structD_fields {t : TypeId} (h : isStructD (P.underlying t) = true) : P.underlying t = some (.struct (P.fieldsOf t)) := by
  unfold isStructD at h
  split at h
  · rename_i fs hu
    rw [hu]
    simp [Program.fieldsOf, hu]
  · cases h

theorem eqFsB_sound {rb : TypeId → Ty → Bool} {rp : TypeId → Ty → Prop} (hr : ∀ t T, rb t T = true → rp t T) : ∀ {fs : List Field} {off : Nat} {T : Ty}, eqFsB P rb fs off T = true → EqFs P rp fs off T
  | [], off, .nil, _ => trivial
  | f :: fs, off, .pair A B, h => by
    simp only [eqFsB, Bool.and_eq_true, decide_eq_true_eq, Bool.not_eq_true'] at h
    obtain ⟨⟨⟨⟨⟨h1, h2⟩, h3⟩, h4⟩, h5⟩, h6⟩ := h
    refine ⟨h1, h2, hr _ _ h3, ?_, ?_, eqFsB_sound hr h6⟩
    · split at h4
      · rename_i inf hi; exact ⟨inf, hi, by simpa using h4⟩
      · cases h4
    · split at h5
      · rename_i d hd; exact ⟨d, hd, by simpa using h5⟩
      · cases h5
  | [], _, .int _, h | [], _, .bool, h | [], _, .str, h | [], _, .sl _, h | [], _, .pair _ _, h => by cases h
  | _ :: _, _, .int _, h | _ :: _, _, .bool, h | _ :: _, _, .str, h | _ :: _, _, .sl _, h | _ :: _, _, .nil, h => by cases h

theorem eqB_sound : ∀ {d : Nat} {t : TypeId} {T : Ty}, eqB P d t T = true → EqOk P d t T
  | 0, _, _, h => by cases h
  | d + 1, t, T, h => by
    cases T with
    | int k =>
      simp only [eqB] at h
      split at h
      · rename_i k' hu
        have : k' = k := by simpa using h
        subst this
        exact hu
      · cases h
    | bool =>
      simp only [eqB] at h
      split at h
      · rename_i hu; exact hu
      · cases h
    | str =>
      simp only [eqB] at h
      split at h
      · rename_i hu; exact hu
      · cases h
    | sl t => cases h
    | nil =>
      simp only [eqB, Bool.and_eq_true, Bool.not_eq_true'] at h
      exact ⟨structD_fields h.1.1, h.1.2, eqFsB_sound (fun t T hh => eqB_sound hh) h.2⟩
    | pair a b =>
      simp only [eqB, Bool.and_eq_true, Bool.not_eq_true'] at h
      exact ⟨structD_fields h.1.1, h.1.2, eqFsB_sound (fun t T hh => eqB_sound hh) h.2⟩

theorem checkTI_sound {t : TypeId} {i : TI} (h : checkTI P t i = true) : TIok P t i := by
  unfold checkTI at h
  split at h
  · rename_i inf d hi hd
    simp only [Bool.and_eq_true, decide_eq_true_eq] at h
    obtain ⟨⟨⟨⟨⟨⟨⟨⟨⟨⟨⟨⟨⟨h1, h2⟩, h3⟩, h4⟩, h5⟩, h6⟩, h7⟩, h8⟩, h9⟩, h10⟩, h11⟩, h12⟩, h13⟩, h14⟩ := h
    refine ⟨?_, ⟨d, hd, by simpa using h4⟩, ?_, ?_, ?_, ?_, ?_, ?_, ?_, ?_, ?_, ?_, ?_⟩
    · split at h3
      · rename_i z hz
        simp only [Bool.and_eq_true, decide_eq_true_eq] at h3
        exact ⟨inf, hi, h1, h2, z, hz, h3.1, plainsB_sound h3.2⟩
      · cases h3
    · simp only [Bool.or_eq_true, List.isEmpty_iff] at h5
      rcases h5 with h5 | h5
      · exact .inl h5
      · split at h5
        · rename_i fs
          exact .inr ⟨fs, hd, fieldsB_sound h5⟩
        · cases h5
    · intro e he
      rw [he] at h6
      simp only at h6
      split at h6
      · rename_i e'
        have : e' = e := by simpa using h6
        rw [hd, this]
      · cases h6
    · intro k hk
      rw [hk] at h7
      simp only at h7
      split at h7
      · rename_i k'
        have : k' = k := by simpa using h7
        rw [hd, this]
      · cases h7
    · intro hs
      rw [hs] at h8
      simp only [Bool.not_true, Bool.false_or] at h8
      split at h8
      · exact hd
      · cases h8
    · intro T hT
      rw [hT] at h9
      simp only [Bool.and_eq_true, decide_eq_true_eq] at h9
      exact ⟨h9.1.1, by simpa using h9.1.2⟩
    · intro hT
      rw [hT] at h9
      simp only [Bool.and_eq_true, decide_eq_true_eq] at h9
      have h := h9.2
      split at h
      · exact hd
      · cases h
    · intro hi
      rw [hi] at h10
      simp only [Bool.not_true, Bool.false_or] at h10
      split at h10
      · exact ⟨_, hd⟩
      · cases h10
    · intro hc
      rw [hc] at h12
      exact ⟨inf, hi, by simpa using h12⟩
    · intro hni ms hms
      rw [hni] at h13
      rw [hd] at hms
      simp only [Option.some.injEq] at hms
      subst hms
      simp at h13
    · intro T hT
      rw [hT] at h11
      simp only [Bool.and_eq_true, Bool.not_eq_true'] at h11
      exact ⟨eqB_sound h11.1.1.1, h11.1.1.2, h11.1.2, h11.2⟩
    · intro n hn
      rw [hn] at h14
      simp only at h14
      split at h14
      · rename_i m e
        simp only [Bool.and_eq_true, decide_eq_true_eq] at h14
        obtain ⟨hm, h14⟩ := h14
        split at h14
        · rename_i ie de hie hde
          simp only [Bool.and_eq_true, decide_eq_true_eq, Bool.not_eq_true'] at h14
          refine ⟨e, by rw [hd, hm], fun w => ?_, fun w => ?_⟩
          · simp [Go.sizeOf, typeInfo, hie, h14.1]
          · have : (Go.isAgg e).run P w = .ok (isAggD de) w := by
              simp only [Go.isAgg, Sem.run_bind, run_underlying hde, Result.andThen_ok]
              cases de <;> rfl
            rw [h14.2] at this
            exact this
        · cases h14
      · cases h14
  · cases h

/-- A table of types. -/
def teOf (l : List (TypeId × TI)) : TypeId → Option TI := fun t => (l.find? fun p => p.1 == t).map (·.2)

theorem teOf_ok {l : List (TypeId × TI)} (h : (l.all fun p => checkTI P p.1 p.2) = true) : ∀ t i, teOf l t = some i → TIok P t i := by
  intro t i he
  unfold teOf at he
  simp only [Option.map_eq_some_iff] at he
  obtain ⟨p, hp, rfl⟩ := he
  have h1 := List.find?_some hp
  have h2 := List.mem_of_find?_eq_some hp
  simp only [beq_iff_eq] at h1
  subst h1
  exact checkTI_sound (List.all_eq_true.1 h p h2)

/-- A table of told functions: by name, and by the functions that are among the arguments. -/
def specOf (l : List ((FuncId × List FuncId) × Spec)) : FuncId → List FuncId → Option Spec := fun f ids => (l.find? fun p => p.1.1 == f && p.1.2 == ids).map (·.2)

theorem specOf_ok {L : World → Prop} {l : List ((FuncId × List FuncId) × Spec)} (h : ∀ p, p ∈ l → Sat P L p.1.1 p.2 ∧ Enterable P p.1.1) : ∀ f ids sp, specOf l f ids = some sp → Sat P L f sp ∧ Enterable P f := by
  intro f ids sp he
  unfold specOf at he
  simp only [Option.map_eq_some_iff] at he
  obtain ⟨p, hp, rfl⟩ := he
  have h1 := List.find?_some hp
  have h2 := List.mem_of_find?_eq_some hp
  simp only [Bool.and_eq_true, beq_iff_eq] at h1
  obtain ⟨rfl, _⟩ := h1
  exact h p h2

theorem specs_nil {L : World → Prop} : ∀ p, p ∈ ([] : List ((FuncId × List FuncId) × Spec)) → Sat P L p.1.1 p.2 ∧ Enterable P p.1.1 := fun p hp => by simp at hp

theorem specs_cons {L : World → Prop} {f : FuncId} {ids : List FuncId} {sp : Spec} {l : List ((FuncId × List FuncId) × Spec)} (h1 : Sat P L f sp) (h2 : Enterable P f) (h : ∀ p, p ∈ l → Sat P L p.1.1 p.2 ∧ Enterable P p.1.1) : ∀ p, p ∈ ((f, ids), sp) :: l → Sat P L p.1.1 p.2 ∧ Enterable P p.1.1 := fun p hp => by
  rcases List.mem_cons.1 hp with rfl | hp
  · exact ⟨h1, h2⟩
  · exact h p hp

/-- What yields nothing is told of whatever function. -/
theorem sat_none {L : World → Prop} {f : FuncId} {sp : Spec} (h : ∀ x, sp.f x = none) : Sat P L f sp := fun x y hy => by rw [h x] at hy; cases hy

/-- With as much fuel as it takes. -/
theorem sat_fuel {L : World → Prop} {f : FuncId} {a r : Shape} {F : Nat → a.T → Option r.T} {B : a.T → Nat} (h : ∀ q, Sat P L f ⟨a, r, F q⟩) : Sat P L f ⟨a, r, fun x => F (B x) x⟩ := fun x y hy => h (B x) x y hy

structure Eqn where
  T : Type
  a : T
  b : T

def Eqn.ok (e : Eqn) : Prop := e.a = e.b

variable {R : Type}

def Site.lhs (E : Env R) : Site R → List ((T : Type) × T)
  | .join h _ _ => [⟨List Nat → h.sh.T → Option R, h.j⟩]
  | .loop h _ _ => [⟨List Nat → h.sh.T → Option R, fun ms x => h.l ms 0 x⟩, ⟨List Nat → Nat → h.sh.T → Option R, fun ms m x => h.l ms (m + 1) x⟩]
  | .flag b => [⟨Bool, b⟩]

def Site.rhs (E : Env R) : Site R → List ((T : Type) × T)
  | .join h b K => [⟨List Nat → h.sh.T → Option R, fun ms x => evalCode E ms b (h.sh.mk' nmJ E.N x) (K ms)⟩]
  | .loop h c K => [⟨List Nat → h.sh.T → Option R, fun _ _ => none⟩, ⟨List Nat → Nat → h.sh.T → Option R, fun ms m x => evalCode E (m :: ms) c (h.sh.mk' nmJ E.N x) (K ms m)⟩]
  | .flag _ => [⟨Bool, true⟩]

theorem site_ok {E : Env R} {s : Site R} (h : s.lhs E = s.rhs E) : s.ok E := by
  cases s with
  | join h0 b K =>
    simp only [Site.lhs, Site.rhs, List.cons.injEq, and_true] at h
    have h1 := eq_of_heq (Sigma.mk.inj h).2
    intro ms x
    rw [h1]
  | loop h0 c K =>
    simp only [Site.lhs, Site.rhs, List.cons.injEq, and_true] at h
    have h1 := eq_of_heq (Sigma.mk.inj h.1).2
    have h2 := eq_of_heq (Sigma.mk.inj h.2).2
    intro ms
    exact ⟨fun x => congrFun (congrFun h1 ms) x, fun m x => congrFun (congrFun (congrFun h2 ms) m) x⟩
  | flag b =>
    simp only [Site.lhs, Site.rhs, List.cons.injEq, and_true] at h
    exact eq_of_heq (Sigma.mk.inj h).2

theorem sites_ok {E : Env R} {l : List (Site R)} (h : l.map (Site.lhs E) = l.map (Site.rhs E)) : ∀ s, s ∈ l → s.ok E := by
  induction l with
  | nil => intro s hs; simp at hs
  | cons a l ih =>
    simp only [List.map_cons, List.cons.injEq] at h
    intro s hs
    rcases List.mem_cons.1 hs with rfl | hs
    · exact site_ok h.1
    · exact ih h.2 s hs

/-- What is asked of a function's body. -/
def funcOf (P : Program) (f : FuncId) : Func := (P.funcs[f]?).getD default
def bodyOf (P : Program) (f : FuncId) : Code := (funcOf P f).body.getD .skip
def resOf (P : Program) (f : FuncId) : List ResultVar := (funcOf P f).results.toList

theorem enter_of {P : Program} {f : FuncId} (h : ((P.funcs[f]?).map fun fn => fn.body.isSome && !(fn.name == "runtime.NumGoroutine")) = some true) : Enterable P f := by
  cases hf : P.funcs[f]? with
  | none => rw [hf] at h; cases h
  | some fn =>
    rw [hf] at h
    simp only [Option.map_some, Option.some.injEq, Bool.and_eq_true, Bool.not_eq_true'] at h
    exact ⟨fn, hf, h.1, h.2⟩

/-- A function, by the kernel's equations. -/
theorem sat_by {P : Program} {L : World → Prop} {f : FuncId} {sp : Spec} {E : Nat → Env sp.r.T} (hm : P.follows .mixedOrders = true) (hen : Enterable P f) (hte : ∀ n t i, (E n).te t = some i → TIok P t i) (hspec : ∀ n g ids s, (E n).spec g ids = some s → Sat P L g s ∧ Enterable P g) (hnl : ∀ n, (E n).nl = sp.a.boxes.length) (hmaps : ∀ n, MapsOk P L (E n).maps)
    (hN : ∀ n, (E n).N = (funcOf P f).ntmps) (hle : sp.a.slots.length ≤ (funcOf P f).ntmps) (hlabs : (labs (bodyOf P f)).isEmpty = true) {g : Nat → sp.a.T → Option sp.r.T} (B : sp.a.T → Nat)
    (hs : ∀ n, (sites (E n) (bodyOf P f) (fun _ => endK (E n).te (resOf P f) sp)).map (Site.lhs (E n)) = (sites (E n) (bodyOf P f) (fun _ => endK (E n).te (resOf P f) sp)).map (Site.rhs (E n)))
    (hx : ∀ n, (fun x => evalCode (E n) [] (bodyOf P f) (init sp (funcOf P f).ntmps x) (endK (E n).te (resOf P f) sp)) = g n) (hsp : ∀ x, sp.f x = g (B x) x) : Sat P L f sp := by
  obtain ⟨fn, hf, hb, _⟩ := hen
  have e1 : funcOf P f = fn := by simp [funcOf, hf]
  cases hc : fn.body with
  | none => rw [hc] at hb; cases hb
  | some c =>
    have e2 : bodyOf P f = c := by simp [bodyOf, e1, hc]
    rw [e1] at hN hle
    rw [e2] at hlabs
    unfold resOf at hs hx
    simp only [e1, e2] at hs hx
    refine sat_of (E := E) hf hc hm (fun n => ⟨hte n, hspec n, hnl n, hmaps n⟩) hN hle hlabs (fun n => sites_ok (hs n)) fun x y hy => ⟨B x, ?_⟩
    rw [hsp] at hy
    have h1 := congrFun (hx (B x)) x
    exact Eq.trans h1 hy

end
end Rv
