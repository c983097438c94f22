/- What is known of types; operations that yield a value: what the evaluator says of them holds of the machine. -/
import Derived.Test.YtlbfhddhojejfaaDoorRvB
import Derived.Laws.Cells
import Derived.Laws.Slices
import Derived.Laws.Strings
import Derived.Laws.StructEq
import Derived.WalkKit
set_option linter.all false
namespace Rv
open Go

def isAggD : TypeDesc → Bool
  | .struct _ | .array _ _ => true
  | _ => false

def Ty.isAgg : Ty → Bool
  | .nil | .pair _ _ => true
  | _ => false

/-- The value of a cell that needs no memory. -/
def Cell.plain : Cell → Option Value
  | .int k n => some (.int k n)
  | .bool b => some (.bool b)
  | .str s => some (.string (mkS s))
  | .nilS => some (.slice none 0 0)
  | .raw .nilIface => some .nilIface
  | .raw (.pointer none) => some (.pointer none)
  | .raw .nilFunc => some .nilFunc
  | _ => none

/-- '==' of a type of plain parts compares these parts. -/
def EqFs (P : Program) (rec : TypeId → Ty → Prop) : List Field → Nat → Ty → Prop
  | [], _, .nil => True
  | f :: fs, off, .pair A B => (f.name == "_") = false ∧ f.offset = off ∧ rec f.type A ∧ (∃ inf, P.info? f.type = some inf ∧ inf.size = A.size) ∧ (∃ d, P.underlying f.type = some d ∧ isAggD d = A.isAgg) ∧ EqFs P rec fs (off + A.size) B
  | _, _, _ => False

def EqOk (P : Program) : Nat → TypeId → Ty → Prop
  | 0, _, _ => False
  | d + 1, t, T => match T with
    | .int k => P.underlying t = some (.int k)
    | .bool => P.underlying t = some .bool
    | .str => P.underlying t = some .string
    | .sl _ => False
    | .nil => P.underlying t = some (.struct (P.fieldsOf t)) ∧ P.stoodInHeld t = false ∧ EqFs P (EqOk P d) (P.fieldsOf t).toList 0 .nil
    | .pair a b => P.underlying t = some (.struct (P.fieldsOf t)) ∧ P.stoodInHeld t = false ∧ EqFs P (EqOk P d) (P.fieldsOf t).toList 0 (.pair a b)

structure TIok (P : Program) (t : TypeId) (i : TI) : Prop where
  info : ∃ inf, P.info? t = some inf ∧ inf.size = i.size ∧ inf.bytes = i.bytes ∧ ∃ z, inf.zero = some z ∧ z.cells.size = i.size ∧ All2 (fun c v => c.plain = some v) i.zero z.cells.toList
  desc : ∃ d, P.underlying t = some d ∧ isAggD d = i.agg
  fields : i.fields = [] ∨ ∃ fs : Array Field, P.underlying t = some (.struct fs) ∧ All2 (fun (f : Nat × Nat × Bool) (fd : Field) => fd.offset = f.1 ∧ 0 < f.2.1 ∧ (∃ inf, P.info? fd.type = some inf ∧ inf.size = f.2.1) ∧
    ∃ d, P.underlying fd.type = some d ∧ isAggD d = f.2.2) i.fields fs.toList
  elem : ∀ e, i.elem = some e → P.underlying t = some (.slice e)
  int : ∀ k, i.int = some k → P.underlying t = some (.int k)
  str : i.str = true → P.underlying t = some .string
  ty : ∀ T, i.ty = some T → T.size = i.size ∧ T.isAgg = i.agg
  bool : i.ty = some .bool → P.underlying t = some .bool
  iface : i.iface = true → ∃ ms, P.underlying t = some (.interface ms)
  cmp : i.cmp = true → ∃ inf, P.info? t = some inf ∧ inf.comparable = true
  notIface : i.iface = false → ∀ ms, P.underlying t ≠ some (.interface ms)
  eq : ∀ T, i.eq = some T → EqOk P 20 t T ∧ T.hasSl = false ∧ T.isAgg = true ∧ P.eqGuardType P.depth t = false
  arr : ∀ n, i.arr = some n → ∃ e, P.underlying t = some (.array n e) ∧ (∀ w, (Go.sizeOf e).run P w = .ok 1 w) ∧ ∀ w, (Go.isAgg e).run P w = .ok false w

section
variable {P : Program} {t : TypeId} {i : TI}
theorem TIok.sizeOf (h : TIok P t i) (w : World) : (Go.sizeOf t).run P w = .ok i.size w := by
  obtain ⟨inf, h1, h2, _⟩ := h.info
  simp [Go.sizeOf, typeInfo, h1, h2]
theorem TIok.isAgg (h : TIok P t i) (w : World) : (Go.isAgg t).run P w = .ok i.agg w := by
  obtain ⟨d, h1, h2⟩ := h.desc
  rw [← h2]
  simp only [Go.isAgg, Sem.run_bind, run_underlying h1, Result.andThen_ok]
  cases d <;> rfl
end

def Ext (w w' : World) : Prop := w.heap.size ≤ w'.heap.size ∧ ∀ g, g < w.heap.size → w'.heap[g]? = w.heap[g]?

theorem Ext.refl (w : World) : Ext w w := ⟨Nat.le_refl _, fun _ _ => rfl⟩
theorem Ext.trans {a b c : World} (h : Ext a b) (k : Ext b c) : Ext a c :=
  ⟨Nat.le_trans h.1 k.1, fun g hg => (k.2 g (Nat.lt_of_lt_of_le hg h.1)).trans (h.2 g hg)⟩
theorem Ext.cell {w w' : World} (h : Ext w w') {a : Addr} {v : Value} (hc : w.cell? a = some v) : w'.cell? a = some v :=
  (World.cell?_of_block (h.2 a.block (World.block_lt_of_cell? w a hc))).trans hc

theorem add_eq (g o j : Nat) : (⟨g, o, none⟩ : Addr).add j = ⟨g, o + j, none⟩ := by
  unfold Addr.add; split
  · subst_vars; rfl
  · rfl

section
variable {P : Program} {C : Ctx} {γ : Gam} {h : Heap} {w : World}

theorem RepC.one {c : Cell} {v : Value} (hr : RepC C γ h w c v) : v.oneCell' = true := by
  cases c with
  | int k n => rw [show v = _ from hr]; rfl
  | bool b => rw [show v = _ from hr]; rfl
  | str s => rw [show v = _ from hr]; rfl
  | nilS => rw [show v = _ from hr]; rfl
  | raw u => rw [hr.1]; exact hr.2
  | err b => exact hr.1
  | ifo t k o =>
    cases o with
    | none => rw [show v = _ from hr]; rfl
    | some n => rw [show v = _ from hr]; rfl
  | dead => exact hr
  | _ => exact hr.1

theorem DepNow.mk {d : Dep} {p : Prop} (hd : h.depOk d = true) (hp : p) : DepNow h d p := by
  cases d with
  | none => exact hp
  | some x =>
    obtain ⟨k, v, dv⟩ := x
    simp only [Heap.depOk] at hd
    split at hd
    · rename_i e he
      simp only [decide_eq_true_eq] at hd
      exact ⟨e, he, by omega, fun _ => ⟨by omega, fun _ => hp⟩⟩
    · cases hd

theorem cells_one {v : Value} (h : v.oneCell' = true) : v.cells = #[v] := by cases v <;> first | rfl | simp [Value.oneCell'] at h

theorem RepV1.cells {x : V1} {v : Value} (hr : RepV1 C γ h w x v) : All2 (RepC C γ h w) x.cells v.cells.toList := by
  cases x with
  | c x =>
    rw [cells_one (RepC.one hr)]
    exact ⟨hr, trivial⟩
  | agg cs =>
    obtain ⟨vs, hv, ha⟩ := hr
    rw [hv]
    exact ha

theorem Rd.cells : ∀ {t : Ty} {x : t.D} {ds : List Value}, Rd w (okb C γ h none) t x ds → All2 (RepC C γ h w) (t.cells none x) ds
  | .int _, _, _, e => by rw [e]; exact ⟨rfl, trivial⟩
  | .bool, _, _, e => by rw [e]; exact ⟨rfl, trivial⟩
  | .str, _, _, e => by rw [e]; exact ⟨rfl, trivial⟩
  | .sl _, _, _, hr => by
    obtain ⟨A, c, e, rest⟩ := hr
    subst e
    exact ⟨⟨rfl, RdS.iff.2 ⟨A, c, rfl, rest⟩⟩, trivial⟩
  | .nil, _, _, e => by rw [e]; exact trivial
  | .pair _ _, _, _, ⟨_, _, e, h1, h2⟩ => by rw [e]; exact h1.cells.append h2.cells

theorem ofConst_rep {v : Value} {x : V1} (he : ofConst v = some x) : RepV1 C γ h w x v := by
  cases v with
  | int k n => simp only [ofConst, Option.some.injEq] at he; subst he; rfl
  | bool b => simp only [ofConst, Option.some.injEq] at he; subst he; rfl
  | string s => simp only [ofConst, Option.some.injEq] at he; subst he; rfl
  | slice a n c =>
    cases a with
    | some a => simp [ofConst] at he
    | none =>
      cases n with
      | succ n => simp [ofConst] at he
      | zero => cases c with
        | succ c => simp [ofConst] at he
        | zero => simp only [ofConst, Option.some.injEq] at he; subst he; rfl
  | nilIface => simp only [ofConst, Option.some.injEq] at he; subst he; exact ⟨rfl, rfl⟩
  | pointer a =>
    cases a with
    | some a => simp [ofConst] at he
    | none => simp only [ofConst, Option.some.injEq] at he; subst he; exact ⟨rfl, rfl⟩
  | nilFunc => simp only [ofConst, Option.some.injEq] at he; subst he; exact ⟨rfl, rfl⟩
  | _ => simp [ofConst] at he

theorem ofConst_live {v : Value} {x : V1} (he : ofConst v = some x) : x ≠ .c .dead := by
  intro hd; subst hd
  unfold ofConst at he
  split at he <;> simp at he

theorem Rel.opd {st : St} {a : Act} (R : Rel C γ w st a.tmps) {x : Operand} {v : V1} (he : opd st x = some v) : RepV1 C γ st.h w v (a.eval x) ∧ v ≠ .c .dead := by
  cases x with
  | tmp t =>
    simp only [Rv.opd] at he
    split at he
    · simp at he
    · rename_i x hs hx
      simp only [Option.some.injEq] at he
      subst he
      exact ⟨R.slot t _ hx, fun e => hs (e ▸ rfl)⟩
    · simp at he
  | const v => exact ⟨ofConst_rep he, ofConst_live he⟩
  | func f =>
    simp only [Rv.opd, Option.some.injEq] at he
    subst he
    exact ⟨⟨rfl, rfl⟩, by simp⟩
  | global g => simp [Rv.opd] at he

/-- A load, out of cells that are there. -/
theorem load_gen {t : TypeId} {i : TI} (hi : TIok P t i) {w' : World} {g off : Nat} {ds : List Value} (hl : ds.length = i.size) (hc : ∀ j u, ds[j]? = some u → w'.cell? ⟨g, off + j, none⟩ = some u) {cs : List Cell}
    (ha : All2 (RepC C γ h w) cs ds) {x : V1} (hm : mkV i.agg cs = some x) : ∃ val, (loadVar t ⟨g, off, none⟩).run P w' = .ok val w' ∧ RepV1 C γ h w x val ∧
      (∀ w'', (∀ j u, ds[j]? = some u → w''.cell? ⟨g, off + j, none⟩ = some u) → (loadVar t ⟨g, off, none⟩).run P w'' = .ok val w'') := by
  cases hag : i.agg with
  | true =>
    rw [hag] at hm
    simp only [mkV, if_true, Option.some.injEq] at hm
    subst hm
    have key : ∀ w'', (∀ j u, ds[j]? = some u → w''.cell? ⟨g, off + j, none⟩ = some u) → (loadVar t ⟨g, off, none⟩).run P w'' = .ok (.agg ds.toArray) w'' := by
      intro w'' hc
      have hlc : (loadCells ⟨g, off, none⟩ ds.length).run P w'' = .ok ds.toArray w'' := run_loadCells_list (P := P) w'' ⟨g, off, none⟩ ds fun j u e => by rw [add_eq]; exact hc j u e
      simp only [loadVar, Sem.run_bind, hi.isAgg, hag, Result.andThen_ok, if_true, hi.sizeOf, ← hl, hlc, Sem.run_pure]
    exact ⟨.agg ds.toArray, key w' hc, ⟨ds, rfl, ha⟩, key⟩
  | false =>
    rw [hag] at hm
    simp only [mkV, Bool.false_eq_true, if_false] at hm
    cases cs with
    | nil => simp at hm
    | cons c r =>
      cases r with
      | cons _ _ => simp at hm
      | nil =>
        simp only [Option.some.injEq] at hm
        subst hm
        cases ds with
        | nil => exact ha.elim
        | cons u r => cases r with
          | cons _ _ => exact ha.2.elim
          | nil =>
            have key : ∀ w'', (∀ j u', [u][j]? = some u' → w''.cell? ⟨g, off + j, none⟩ = some u') → (loadVar t ⟨g, off, none⟩).run P w'' = .ok u w'' := by
              intro w'' hc
              have h0 : w''.cell? ⟨g, off, none⟩ = some u := hc 0 u rfl
              simp only [loadVar, Sem.run_bind, hi.isAgg, hag, Result.andThen_ok, Bool.false_eq_true, if_false, run_load, h0]
            exact ⟨u, key w' hc, ha.1, key⟩

theorem part_gen {t : TypeId} {sz : Nat} {ag : Bool} (hinf : ∃ inf, P.info? t = some inf ∧ inf.size = sz) (hag : ∃ d, P.underlying t = some d ∧ isAggD d = ag) {off : Nat} {cs : List Cell} {vs : List Value} (ha : All2 (RepC C γ h w) cs vs)
    (hle : off + sz ≤ cs.length) {x : V1} (hm : mkV ag ((cs.drop off).take sz) = some x) (w' : World) : ∃ val, (part t vs.toArray off).run P w' = .ok val w' ∧ RepV1 C γ h w x val ∧ ∀ w'', (part t vs.toArray off).run P w'' = .ok val w'' := by
  obtain ⟨inf, h1, h2⟩ := hinf
  obtain ⟨d, h3, h4⟩ := hag
  have hsz : ∀ w', (Go.sizeOf t).run P w' = .ok sz w' := fun w' => by simp [Go.sizeOf, typeInfo, h1, h2]
  have hia : ∀ w', (Go.isAgg t).run P w' = .ok ag w' := fun w' => by
    rw [← h4]
    simp only [Go.isAgg, Sem.run_bind, run_underlying h3, Result.andThen_ok]
    cases d <;> rfl
  have hp := (ha.drop off).take sz
  cases ag with
  | true =>
    simp only [mkV, if_true, Option.some.injEq] at hm
    subst hm
    have key : ∀ w', (part t vs.toArray off).run P w' = .ok (.agg ((vs.drop off).take sz).toArray) w' := fun w' => by
      simp only [part, Sem.run_bind, hia, Result.andThen_ok, if_true, hsz, Sem.run_pure]
      congr 2
      apply Array.ext'
      simp [List.extract_eq_take_drop]
    exact ⟨_, key w', ⟨_, rfl, hp⟩, key⟩
  | false =>
    simp only [mkV, Bool.false_eq_true, if_false] at hm
    revert hm hp
    generalize hcs : (cs.drop off).take sz = l
    generalize hvs : (vs.drop off).take sz = m
    intro hp hm
    cases l with
    | nil => simp at hm
    | cons c r =>
      cases r with
      | cons _ _ => simp at hm
      | nil =>
        simp only [Option.some.injEq] at hm
        subst hm
        cases m with
        | nil => exact hp.elim
        | cons u r => cases r with
          | cons _ _ => exact hp.2.elim
          | nil =>
            have hu : vs[off]? = some u := by
              have : ((vs.drop off).take sz)[0]? = some u := by rw [hvs]; rfl
              rw [List.getElem?_take] at this
              split at this
              · simpa using this
              · cases this
            have key : ∀ w', (part t vs.toArray off).run P w' = .ok u w' := fun w' => by
              simp only [part, Sem.run_bind, hia, Result.andThen_ok, Bool.false_eq_true, if_false, List.getElem?_toArray, hu, Sem.run_pure]
            exact ⟨u, key w', hp.1, key⟩

end

end Rv
