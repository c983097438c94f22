/- A law's row, out of its call. -/
import Derived.Test.YtlbfhddhojejfaaDoorRvV
import Derived.LaidHandle
import Derived.LaidLaws
import Derived.Shelf.Vars
import Derived.ChangeOld
import Derived.Lib.LaidTab
import Derived.Stop.Joined
set_option linter.all false
namespace Rv
open Go Go.RowKit Go.ChangeShapes Go.WideShapes

section
variable {H : Type} {enc : TypeId × Value → H} {P : Program}

/-- The listed variables, one by one. -/
theorem laidVars_at {w : World} : ∀ {l : List (String × DataW Unit)} {ps : List MemPlace}, DataW.LaidVars P w l ps → ∀ n d, (n, d) ∈ l →
    ∃ g t cs fuel p, P.globalNamed n = some g ∧ (P.globals[g]?).map (·.type) = some t ∧ w.var? P n = some cs ∧ DataW.trod (fun _ => ()) P w 0 (fun _ => true) false fuel t cs.toList = some (d, p)
  | [], _, _, n, d, hm => by cases hm
  | (n', d') :: l, ps, h, n, d, hm => by
    obtain ⟨g, t, cs, fuel, p, q, h1, h2, h3, h4, h5, _⟩ := h
    rcases List.mem_cons.1 hm with e | hm
    · cases e
      exact ⟨g, t, cs, fuel, p, h1, h2, h3, h4⟩
    · exact laidVars_at h5 n d hm

theorem laid_at {w : World} {l : List (String × DataW Unit)} (h : laidMetH P l w) {n : String} {d : DataW Unit} (hm : (n, d) ∈ l.filter fun x => x.2.handleName?.isNone) :
    ∃ g t cs fuel p, P.globalNamed n = some g ∧ (P.globals[g]?).map (·.type) = some t ∧ w.var? P n = some cs ∧ DataW.trod (fun _ => ()) P w 0 (fun _ => true) false fuel t cs.toList = some (d, p) := by
  have hl : laidMet P (l.filter fun x => x.2.handleName?.isNone) w := by
    unfold laidMetH at h
    split at h
    · rename_i hf
      have : l.filter (fun x => x.2.handleName?.isNone) = l := by
        rw [List.filter_eq_self]
        intro a ha
        have := List.filter_eq_nil_iff.1 hf a ha
        cases hh : a.2.handleName? with
        | none => rfl
        | some _ => rw [hh] at this; simp at this
      rw [this]; exact h
    · exact h.1
  obtain ⟨ps, hv, _⟩ := hl
  exact laidVars_at hv n d hm

/-- A listed table of whole numbers. -/
theorem laid_tab {w : World} {l : List (String × DataW Unit)} (h : laidMetH P l w) {n : String} {k : IntKind} {zs : List Int} (hm : (n, Lib.tabData k zs) ∈ l.filter fun x => x.2.handleName?.isNone)
    {g : Nat} {t e : TypeId} {m : Nat} (hg : P.globalNamed n = some g) (hty : (P.globals[g]?).map (·.type) = some t) (ht : P.underlying t = some (.array m e)) (he : P.underlying e = some (.int k)) (hce : P.cellsOf e = 1) (hct : P.cellsOf t = m) : Lib.TabIs P w n k zs := by
  obtain ⟨g', t', cs, fuel, p, hg', ht', hvar, hd⟩ := laid_at h hm
  obtain rfl := Option.some.inj (hg.symm.trans hg')
  obtain rfl := Option.some.inj (hty.symm.trans ht')
  unfold Lib.TabIs
  rw [hvar, ← Lib.cells_of_tab ht he hce hct hd]

/-- A listed variable that holds an interface value. -/
theorem laid_iface {w : World} {l : List (String × DataW Unit)} (h : laidMetH P l w) {n ty : String} {x : DataW Unit} (hm : (n, DataW.iface ty x) ∈ l.filter fun x => x.2.handleName?.isNone)
    {g : Nat} {t : TypeId} {ms} (hg : P.globalNamed n = some g) (hty : (P.globals[g]?).map (·.type) = some t) (ht : P.underlying t = some (.interface ms)) : ∃ te pe, w.cell? ⟨g, 0, none⟩ = some (.iface te pe) := by
  obtain ⟨g', t', cs, fuel, p, hg', ht', hvar, hd⟩ := laid_at h hm
  obtain rfl := Option.some.inj (hg.symm.trans hg')
  obtain rfl := Option.some.inj (hty.symm.trans ht')
  cases fuel with
  | zero => simp [DataW.trod] at hd
  | succ fuel =>
    unfold DataW.trod at hd
    rw [ht] at hd
    have hc : ∃ u v, cs.toList = [.iface u v] := by
      split at hd <;> first | (simp_all; done) | exact ⟨_, _, by assumption⟩ | (cases hd; done) | skip
    obtain ⟨u, v, hc⟩ := hc
    refine ⟨u, v, ?_⟩
    have := World.var?_cell hg hvar 0
    rw [Array.eq_one_of_toList hc] at this
    simpa using this

theorem below_trodAll (hl : laidOutB P = true) {W W' : World} : ∀ {ts : List TypeId} {vs : List Value} {ds : List (DataW H)} {p : List MemPlace}, DataW.TrodAll enc P W 0 (fun _ => true) true ts vs ds p → (∀ t ∈ ts, P.readableRec t = true ∧ t < P.types.size) →
    Below W.heap.size W W' → DataW.TrodAll enc P W' 0 (fun b => decide (b < W.heap.size)) true ts vs ds p
  | [], [], [], p, h, _, _ => h
  | t :: ts, v :: vs, d :: ds, p, h, hr, hb => by
    obtain ⟨p1, q1, ht, hrest, hp⟩ := h
    refine ⟨p1, q1, ?_, below_trodAll hl hrest (fun t ht => hr t (by simp [ht])) hb, hp⟩
    obtain ⟨h1, h2⟩ := hr t (by simp)
    refine Below.trod hl h1 h2 ht hb ?_
    obtain ⟨n, hn⟩ := ht
    exact DataW.trod_lt n _ _ _ hn
  | [], [], _ :: _, _, h, _, _ => h.elim
  | [], _ :: _, _, _, h, _, _ => by cases h
  | _ :: _, [], _, _, h, _, _ => by cases h
  | _ :: _, _ :: _, [], _, h, _, _ => by cases h

theorem law_lifted {C : Checked} {os : Os} {f : FuncId} {fn : Func} {s : ChangeSpec} {laid : List (String × DataW Unit)} (own : ownKnob C.prog.godebug = none) (started : os.Started) (noInit : C.prog.inits.idxOf? f = none) (hfn : C.prog.funcs[f]? = some fn)
    (hlo : laidOutB C.prog = true) (hread : ∀ t ∈ fn.params.toList, C.prog.readableRec t = true ∧ t < C.prog.types.size) {bT : TypeId} (hres : fn.resultTypes = #[bT]) (hbT : C.prog.underlying bT = some .bool)
    (hvars : s.vars = []) (hspec : ∀ ds : List (DataW H), ds.length = fn.params.toList.length → s.fn H (ds ++ []) = { results := [.lit (.bool true)], args := ds })
    (witness : ∃ (w : World) (tape : Tape) (i : Input), w.os = os ∧ (w.forCall tape i).Shaped C.prog ∧ i.vars = [] ∧ Input.okWide C.prog (w.forCall tape i) .any w.heap.size f i ∧
      ((s.pre enc C.prog fn [] false (w.forCall tape i).memory i.args ∧ laidMetH C.prog laid (w.forCall tape i).memory) ∧ sizedMet enc C.prog fn (OpenSpec.ofChange s) false (w.forCall tape i).memory i.args) ∧ ({} : Assume).holds C.prog (lone (Frame.enter C.prog f i.args .normal) [] (w.forCall tape i)))
    (hcall : ∀ (W : World) (base : Nat) (args : Array Value) (ds : List (DataW H)) (p : List MemPlace), (∀ (j : Nat) t v, fn.params.toList[j]? = some t → args[j]? = some v → Value.okWide C.prog W .any base t v) →
      DataW.TrodAll enc C.prog W 0 (fun _ => true) true fn.params.toList args.toList ds p → (DataW.weightsEach C.prog fn.params.toList ds).all (· ≤ reachBytes) = true → laidMetH C.prog laid W → W.ShapedOpen C.prog →
      Calls C.prog f args W fun e w' => e = .returned (.bool true) ∧ Below W.heap.size W w') :
    ReturnsInHanded {} C os f .any (fun w args => (s.pre enc C.prog fn [] false w args ∧ laidMetH C.prog laid w) ∧ sizedMet enc C.prog fn (OpenSpec.ofChange s) false w args) (s.post enc C.prog fn false true false false) := by
  refine returnsInHanded_of_calls own started noInit witness ?_
  intro w tape i _ hsh _ hok hpre hholds
  obtain ⟨_, _, _, fn', hfn', _, _, _, _, hval⟩ := hok
  have e : fn' = fn := Option.some.inj (hfn'.symm.trans hfn)
  subst e
  obtain ⟨⟨⟨ds, gs, before, hw, _⟩, hx⟩, hz⟩ := hpre
  have hw' := DataW.Whole.of_heap (w' := w.forCall tape i) (by rfl) hw
  have hx' : laidMetH C.prog laid (w.forCall tape i) := laidMetH.of_heap (w := (w.forCall tape i).memory) (by rfl) hx
  have hz' := hz.weights hw
  obtain ⟨p, q, hA, hV, hbef, hfz, hnd⟩ := hw'
  rw [hvars] at hV
  obtain ⟨rfl, rfl⟩ := trodVars_none hV
  have hlen : ds.length = fn'.params.toList.length := by
    have : ∀ {ts : List TypeId} {vs : List Value} {ds : List (DataW H)} {p : List MemPlace}, DataW.TrodAll enc C.prog (w.forCall tape i) 0 (fun _ => true) true ts vs ds p → ds.length = ts.length := by
      intro ts
      induction ts with
      | nil => intro vs ds p h; cases vs with
        | nil => cases ds with
          | nil => rfl
          | cons _ _ => exact h.elim
        | cons _ _ => cases h
      | cons t ts ih => intro vs ds p h; cases vs with
        | nil => cases h
        | cons v vs => cases ds with
          | nil => cases h
          | cons d ds => obtain ⟨_, _, _, hr, _⟩ := h; simp [ih hr]
    exact this hA
  have hwt : (DataW.weightsEach C.prog fn'.params.toList ds).all (· ≤ reachBytes) = true := by
    have hvt : (OpenSpec.ofChange s).bare.plain.varTypes C.prog = [] := by simp [OpenSpec.ofChange, OpenSpec.bare, ChangeSpec.plain, DataSpec.varTypes, hvars]
    rw [hvt, List.append_nil, List.append_nil] at hz'
    exact hz'
  refine (hcall (w.forCall tape i) w.heap.size i.args ds p (fun j t v h1 h2 => hval j t v (by rw [← Array.getElem?_toList]; exact h1) h2) hA hwt hx' hsh).mono fun e W' ⟨he, bel⟩ => ?_
  subst he
  refine ChangeSpec.post_blind ?_
  have hs := hspec ds hlen
  refine ⟨ds, [], before, [], p, [], ⟨p, [], hA, by rw [hvars]; exact rfl, hbef, hfz, hnd⟩, ?_, ?_, ?_, bel.frame _, fun h => by cases h⟩
  · rw [hs, hres]
    exact trodAll_mk1 (shut_bool hbT _)
  · rw [hs]
    exact below_trodAll hlo hA hread bel
  · rw [hs, hvars]; rfl

end
end Rv
