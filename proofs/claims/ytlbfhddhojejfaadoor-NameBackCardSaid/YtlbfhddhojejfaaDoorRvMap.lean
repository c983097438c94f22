/- A map in a package variable, of strings to whole numbers, which nobody writes. -/
import Derived.Test.YtlbfhddhojejfaaDoorRvW
import Derived.WideShapes
import Derived.StringKeys
set_option linter.all false
namespace Rv
open Go Go.RowKit Go.WideShapes

/-- What a row of entries answers at a key: 0 where there is none. -/
def mapAt : List (Str × Int) → Str → Int × Bool
  | [], _ => (0, false)
  | x :: r, s => if s = x.1 then (x.2, true) else mapAt r s

def MapHolds (k : IntKind) (F : Str → Int × Bool) (es : Array MapEntry) : Prop :=
  ∀ s : Str, (Instr.findNow .string (.string (mkS s)) es.toList 0 = some none ∧ F s = (0, false)) ∨ ∃ j n, Instr.findNow .string (.string (mkS s)) es.toList 0 = some (some (j, .int k n)) ∧ F s = (n, true)

/-- Variable g holds the map of block ad, which answers as F says. -/
def MapVar (w : World) (g ad : Nat) (k : IntKind) (F : Str → Int × Bool) : Prop :=
  w.cell? ⟨g, 0, none⟩ = some (.map (some ad)) ∧ ∃ es clock, w.heap[ad]? = some (.map es clock) ∧ MapHolds k F es

theorem keepMap {w a b : World} {g ad : Nat} {k : IntKind} {F : Str → Int × Bool} (h : MapVar w g ad k F) (ha : MapVar a g ad k F) (hb : ∀ g, g < w.heap.size → b.heap[g]? = a.heap[g]?) : MapVar b g ad k F := by
  obtain ⟨h1, es, clock, h2, _⟩ := h
  obtain ⟨a1, es', clock', a2, a3⟩ := ha
  refine ⟨keepCell h1 a1 hb, es', clock', ?_, a3⟩
  rw [hb ad (Array.getElem?_eq_some_iff.1 h2).1]
  exact a2

section
variable {P : Program}

theorem mapVar_load {w : World} {g ad : Nat} {k : IntKind} {F : Str → Int × Bool} {T kt et : TypeId} (hT : P.underlying T = some (.map kt et)) (h : MapVar w g ad k F) : (Instr.loadAt T (.pointer (some ⟨g, 0, none⟩))).run P w = .ok (.map (some ad)) w := by
  have hl : (load ⟨g, 0, none⟩).run P w = .ok (.map (some ad)) w := by rw [run_load, h.1]
  have ha : (isAgg T).run P w = .ok false w := by simp only [isAgg, Sem.run_bind, run_underlying hT, Result.andThen_ok]; rfl
  simp only [Instr.loadAt, Instr.sureAddr, loadVar, Sem.run_bind, Sem.run_pure, Result.andThen_ok, ha, Bool.false_eq_true, if_false]
  exact hl

theorem mapVar_look {w : World} {g ad : Nat} {k : IntKind} {F : Str → Int × Bool} {T kt et : TypeId} (hT : P.underlying T = some (.map kt et)) (hk : P.underlying kt = some .string) (hz : (P.info? et).bind (·.zero) = some (.int k 0)) (h : MapVar w g ad k F) (s : Str) (ok : Bool) :
    (Instr.lookup T (.map (some ad)) (.string (mkS s)) ok).run P w = .ok (if ok = true then .tuple #[.int k (F s).1, .bool (F s).2] else .int k (F s).1) w := by
  obtain ⟨h1, es, clock, h2, h3⟩ := h
  have hz' : (zeroValue et).run P w = .ok (.int k 0) w := by
    cases hi : P.info? et with
    | none => rw [hi] at hz; cases hz
    | some inf =>
      rw [hi, Option.bind_some] at hz
      simp [zeroValue, typeInfo, hi, hz]
  have hik : MapKept.IsKey .string (.string (mkS s)) := trivial
  rcases h3 s with ⟨hf, hF⟩ | ⟨j, n, hf, hF⟩
  · rw [hF]
    simp [Instr.lookup, run_underlying hT, MapKept.run_getObj_map h2, MapKept.run_checkKey hk hik, MapKept.run_findKey hk hf, hz', Result.andThen]
  · rw [hF]
    simp [Instr.lookup, run_underlying hT, MapKept.run_getObj_map h2, MapKept.run_checkKey hk hik, MapKept.run_findKey hk hf, Result.andThen]

theorem mapAt_none : ∀ {l : List (Str × Int)} {s : Str}, (∀ x ∈ l, x.1 ≠ s) → mapAt l s = (0, false)
  | [], _, _ => rfl
  | x :: l, s, h => by
    unfold mapAt
    rw [if_neg (fun e => h x (by simp) e.symm)]
    exact mapAt_none fun y hy => h y (by simp [hy])

theorem mapAt_mem : ∀ {l : List (Str × Int)} {x : Str × Int}, (l.map (·.1)).Nodup → x ∈ l → mapAt l x.1 = (x.2, true)
  | [], _, _, h => by cases h
  | y :: l, x, hn, h => by
    unfold mapAt
    simp only [List.map_cons, List.nodup_cons] at hn
    rcases List.mem_cons.1 h with rfl | h
    · rw [if_pos rfl]
    · have hne : x.1 ≠ y.1 := fun e => hn.1 (e ▸ List.mem_map_of_mem h)
      rw [if_neg hne]
      exact mapAt_mem hn.2 h

/-- A row of entries as the claim's words tell it. -/
def mapRow (k : IntKind) (l : List (Str × Int)) : List (Lit × DataW Unit) := l.map fun x => (.string x.1, .lit (.int k x.2))

theorem mapHolds_of {w : World} {base fuel : Nat} {sp : Nat → Bool} {held : Bool} {T kt et : TypeId} {k : IntKind} {l : List (Str × Int)} {c : Value} {p : List MemPlace} (hT : P.underlying T = some (.map kt et)) (hk : P.underlying kt = some .string) (he : P.underlying et = some (.int k))
    (hn : (l.map (·.1)).Nodup) (h : DataW.trod (fun _ => ()) P w base sp held (fuel + 1) T [c] = some (.map (mapRow k l), p)) :
    ∃ ad es clock, c = .map (some ad) ∧ w.heap[ad]? = some (.map es clock) ∧ MapHolds k (mapAt l) es := by
  unfold DataW.trod at h
  rw [hT] at h
  cases c with
  | map r =>
    cases r with
    | none => simp at h
    | some ad =>
      simp only at h
      split at h
      case h_2 => cases h
      rename_i es clock hb
      refine ⟨ad, es, clock, rfl, hb, ?_⟩
      split at h
      case isFalse => cases h
      obtain ⟨entries, hm, h⟩ := Option.bind_eq_some_iff.1 h
      split at h
      case isFalse => cases h
      simp only [Option.some.injEq, Prod.mk.injEq, DataW.map.injEq] at h
      have hperm := sorted_perm (entries.map (·.1))
      rw [h.1] at hperm
      have hx : ∀ (x : MapEntry) (q : (Lit × DataW Unit) × List MemPlace), ((keyOf P kt x.key).bind fun key => if x.val.formed P et then (DataW.trod (fun _ => ()) P w base sp held fuel et x.val.cells.toList).map fun y => ((key, y.1), y.2) else none) = some q →
          ∃ s : Str, x.key = .string (mkS s) ∧ q.1.1 = .string s ∧ ∀ n, q.1.2 = .lit (.int k n) → x.val = .int k n := by
        intro x q hq
        obtain ⟨key, hkey, hq⟩ := Option.bind_eq_some_iff.1 hq
        obtain ⟨s, hs1, hs2, _⟩ := WideMaps.string_of_keyOf hk hkey
        split at hq
        case isFalse => cases hq
        rename_i hf
        obtain ⟨y, hy, rfl⟩ := Option.map_eq_some_iff.1 hq
        refine ⟨s.data.toList, by rw [hs1]; rfl, hs2, fun n hn => ?_⟩
        have hyn : y.1 = .lit (.int k n) := hn
        cases fuel with
        | zero => simp [DataW.trod] at hy
        | succ fuel =>
          unfold DataW.trod at hy
          rw [he] at hy
          cases hv : x.val with
          | int k' m =>
            rw [hv] at hy
            simp only [Value.cells] at hy
            split at hy
            · rename_i hc
              simp only [Option.some.injEq] at hy
              subst hy
              cases hyn
              rw [hc.1]
            · cases hy
          | agg cs => rw [hv] at hf; simp [Value.formed, he] at hf
          | tuple cs => rw [hv] at hf; simp [Value.formed] at hf
          | _ => rw [hv] at hy; simp [Value.cells] at hy
      have hks : ∀ x ∈ es.toList, MapKept.IsKey .string x.key := fun x hxm => by
        obtain ⟨q, hq⟩ := mapM_each hm x hxm
        obtain ⟨s, hs, _⟩ := hx x q hq
        rw [hs]
        trivial
      intro s
      rcases MapKept.findNow_spec (d := .string) (k := .string (mkS s)) trivial es.toList 0 hks with ⟨h1, h2⟩ | ⟨j, e, h1, h2, h3⟩
      · refine .inl ⟨h1, mapAt_none fun x hxl hxs => ?_⟩
        have hmem : ((.string x.1, .lit (.int k x.2)) : Lit × DataW Unit) ∈ entries.map (·.1) := hperm.subset (List.mem_map.2 ⟨x, hxl, rfl⟩)
        obtain ⟨q, hq, hqe⟩ := List.mem_map.1 hmem
        obtain ⟨m, hmm, hfm⟩ := mapM_mem hm q hq
        obtain ⟨s', hs1, hs2, _⟩ := hx m q hfm
        rw [hqe] at hs2
        have : x.1 = s' := by simpa using hs2
        exact h2 m hmm (by rw [hs1, ← this, hxs])
      · obtain ⟨q, hq⟩ := mapM_each hm e (List.mem_of_getElem? h2)
        have hqm : q ∈ entries := List.mem_of_getElem? ((mapM_some_get hm j e h2).symm.trans hq)
        obtain ⟨s', hs1, hs2, hs3⟩ := hx e q hq
        have hqs : q.1 ∈ mapRow k l := hperm.symm.subset (List.mem_map.2 ⟨q, hqm, rfl⟩)
        obtain ⟨x, hxl, hxe⟩ := List.mem_map.1 hqs
        have hs : s' = s := by
          rw [hs1] at h3
          have h4 := congrArg (fun v => match v with | .string b => b.data.toList | _ => []) h3
          exact h4
        subst hs
        have hxs : x.1 = s' := by
          have := hs2
          rw [← hxe] at this
          simpa using this
        refine .inr ⟨0 + j, x.2, ?_, ?_⟩
        · rw [h1, hs3 x.2 (by rw [← hxe])]
        · rw [← hxs]; exact mapAt_mem hn hxl
  | _ => simp at h

/-- A listed variable that holds a map. -/
theorem laid_map {w : World} {l : List (String × DataW Unit)} (h : laidMetH P l w) {n : String} {k : IntKind} {r : List (Str × Int)} (hm : (n, DataW.map (mapRow k r)) ∈ l.filter fun x => x.2.handleName?.isNone)
    {g : Nat} {T kt et : TypeId} (hg : P.globalNamed n = some g) (hty : (P.globals[g]?).map (·.type) = some T) (hT : P.underlying T = some (.map kt et)) (hk : P.underlying kt = some .string) (he : P.underlying et = some (.int k)) (hn : (r.map (·.1)).Nodup) : ∃ ad, MapVar w g ad k (mapAt r) := by
  obtain ⟨g', t', cs, fuel, p, hg', ht', hvar, hd⟩ := laid_at h hm
  obtain rfl := Option.some.inj (hg.symm.trans hg')
  obtain rfl := Option.some.inj (hty.symm.trans ht')
  cases fuel with
  | zero => simp [DataW.trod] at hd
  | succ fuel =>
    have hc : ∃ c, cs.toList = [c] := by
      unfold DataW.trod at hd
      rw [hT] at hd
      split at hd <;> first | (simp_all; done) | exact ⟨_, by assumption⟩ | (cases hd; done) | skip
    obtain ⟨c, hc⟩ := hc
    rw [hc] at hd
    obtain ⟨ad, es, clock, rfl, h1, h2⟩ := mapHolds_of hT hk he hn hd
    refine ⟨ad, ?_, es, clock, h1, h2⟩
    have := World.var?_cell hg hvar 0
    rw [Array.eq_one_of_toList hc] at this
    simpa using this

end
end Rv
