/- Operations that yield a value: what the evaluator says of them holds of the machine. -/
import Derived.Test.YtlbfhddhojejfaaDoorRvC
import Derived.Lib.Strings
import Derived.Laws.Concat
set_option linter.all false
namespace Rv
open Go

section
variable {P : Program} {C : Ctx} {γ : Gam} {h : Heap} {w : World} {R : Type} {r : R}

theorem orNone_some {α : Type} {x : Option α} {K : α → Option R} (h : orNone x K = some r) : ∃ a, x = some a ∧ K a = some r := by
  cases x with
  | none => simp [orNone] at h
  | some a => exact ⟨a, rfl, h⟩

theorem if_some {c : Prop} [Decidable c] {x : Option R} (h : (if c then x else none) = some r) : c ∧ x = some r := by
  split at h
  · exact ⟨‹_›, h⟩
  · cases h

theorem if_none {c : Prop} [Decidable c] {x : Option R} (h : (if c then none else x) = some r) : ¬ c ∧ x = some r := by
  split at h
  · cases h
  · exact ⟨‹_›, h⟩

theorem mkS_size (s : Str) : (mkS s).size = s.length := rfl

theorem toList_mkS (s : Str) : (mkS s).toList = s := ByteArray.toList_eq (mkS s)

theorem mkS_extract (s : Str) (l h : Nat) : (mkS s).extract l h = mkS ((s.take h).drop l) := by
  apply ByteArray.ext
  apply Array.ext'
  rw [Lib.extract_data, List.drop_take]
  rfl

/-- What a comparison or a sum of plain values comes to, wherever it is asked. -/
def Fixed (P : Program) (s : Sem Value) (C : Ctx) (γ : Gam) (h : Heap) (w : World) (x : V1) : Prop := ∃ val, RepV1 C γ h w x val ∧ ∀ w', s.run P w' = .ok val w'

theorem binI_sound {op : BinOp} {k : IntKind} {x y : Int} {K : V1 → Option R} (hs : op ≠ .shl) (hs' : op ≠ .shr) (he : binI op k x y (fun c => K (.c c)) = some r) (t : TypeId) :
    ∃ c, K c = some r ∧ Fixed P (binOp op t (.int k x) (.int k y)) C γ h w c := by
  cases op with
  | shl => exact absurd rfl hs
  | shr => exact absurd rfl hs'
  | quo => simp only [binI] at he; obtain ⟨hy, he⟩ := if_none he; exact ⟨_, he, _, rfl, fun w' => by simp [binOp, Op.intDiv, hy]⟩
  | rem => simp only [binI] at he; obtain ⟨hy, he⟩ := if_none he; exact ⟨_, he, _, rfl, fun w' => by simp [binOp, Op.intDiv, hy]⟩
  | eql => exact ⟨_, he, _, rfl, fun w' => by simp [binOp, Op.intCmp]; rfl⟩
  | neq => exact ⟨_, he, _, rfl, fun w' => by simp [binOp, Op.intCmp]; rfl⟩
  | _ => exact ⟨_, he, _, rfl, fun w' => by simp [binOp, Op.intArith, Op.intBits, Op.intCmp, bitsI]⟩

theorem shI_sound {op : BinOp} {k k' : IntKind} {x y : Int} {K : V1 → Option R} (hs : op = .shl ∨ op = .shr) (he : shI op k x y (fun c => K (.c c)) = some r) (t : TypeId) :
    ∃ c, K c = some r ∧ Fixed P (binOp op t (.int k x) (.int k' y)) C γ h w c := by
  rcases hs with rfl | rfl <;> simp only [shI] at he <;> obtain ⟨hy, he⟩ := if_none he <;> refine ⟨_, he, _, rfl, fun w' => ?_⟩ <;> simp [binOp, Op.shift, hy]

theorem strEq (x y : Str) : (x == y) = decide (x = y) := by rw [Bool.eq_iff_iff]; simp

theorem binS_sound {op : BinOp} {x y : Str} {K : V1 → Option R} (he : binS op x y (fun c => K (.c c)) = some r) (t : TypeId) :
    ∃ c, K c = some r ∧ Fixed P (binOp op t (.string (mkS x)) (.string (mkS y))) C γ h w c := by
  cases op with
  | add =>
    simp only [binS] at he
    obtain ⟨hle, he⟩ := if_some he
    refine ⟨_, he, .string (mkS x ++ mkS y), ?_, fun w' => ?_⟩
    · show Value.string _ = Value.string _
      congr 1
    · have : (binOp .add t (.string (mkS x)) (.string (mkS y))) = Op.stringOp .add (mkS x) (mkS y) := by simp [binOp]
      rw [this]
      exact run_string_add_sum w' (mkS x) (mkS y) hle
  | eql => exact ⟨_, he, _, rfl, fun w' => by simp [binOp, Op.stringOp, toList_mkS, strEq]⟩
  | neq => exact ⟨_, he, _, rfl, fun w' => by simp [binOp, Op.stringOp, toList_mkS, strEq]⟩
  | lss => exact ⟨_, he, _, rfl, fun w' => by simp [binOp, Op.stringOp, toList_mkS]⟩
  | geq => exact ⟨_, he, _, rfl, fun w' => by simp [binOp, Op.stringOp, toList_mkS]⟩
  | leq => exact ⟨_, he, _, rfl, fun w' => by simp [binOp, Op.stringOp, toList_mkS, strEq]⟩
  | gtr => exact ⟨_, he, _, rfl, fun w' => by simp [binOp, Op.stringOp, toList_mkS, strEq]⟩
  | _ => simp [binS] at he

theorem eqGuard_plain {op : BinOp} {t : TypeId} {x y : Operand} {a b : Value} (h1 : a.oneCell' = true) (h2 : a ≠ .nilIface) (w' : World) : (eqGuard op t x y a b).run P w' = .ok () w' := by
  cases a <;> first | (simp [Value.oneCell'] at h1; done) | (exact absurd rfl h2) | (cases op <;> rfl)

/-- The values of a plain datum, cell by cell. -/
def Ty.vals : (t : Ty) → t.D → List Value
  | .int k, n => [.int k n]
  | .bool, b => [.bool b]
  | .str, s => [.string (mkS s)]
  | .sl _, _ => []
  | .nil, _ => []
  | .pair a b, x => a.vals x.1 ++ b.vals x.2

def Ty.val (t : Ty) (x : t.D) : Value := if t.isAgg = true then .agg (t.vals x).toArray else (t.vals x).headD undef

theorem vals_len : ∀ {t : Ty} {x : t.D}, t.hasSl = false → (t.vals x).length = t.size
  | .int _, _, _ => rfl
  | .bool, _, _ => rfl
  | .str, _, _ => rfl
  | .sl _, _, h => by simp [Ty.hasSl] at h
  | .nil, _, _ => rfl
  | .pair a b, x, h => by
    simp only [Ty.hasSl, Bool.or_eq_false_iff] at h
    simp only [Ty.vals, List.length_append, Ty.size, vals_len h.1, vals_len h.2]

theorem parse_vals : ∀ {t : Ty} {l : List Cell} {x : t.D} {rest : List Cell} {vs : List Value}, t.parse l = some (x, rest) → t.hasSl = false → All2 (RepC C γ h w) l vs → ∃ v2, vs = t.vals x ++ v2 ∧ All2 (RepC C γ h w) rest v2
  | .int k, l, x, rest, vs, he, _, ha => by
    cases l with
    | nil => cases he
    | cons c l =>
      cases c with
      | int j n =>
        simp only [Ty.parse] at he
        obtain ⟨hk, he⟩ := if_some he
        simp only [Option.some.injEq, Prod.mk.injEq] at he
        obtain ⟨rfl, rfl⟩ := he
        subst hk
        cases vs with
        | nil => exact ha.elim
        | cons v vs => exact ⟨vs, by rw [show v = _ from ha.1]; rfl, ha.2⟩
      | _ => cases he
  | .bool, l, x, rest, vs, he, _, ha => by
    cases l with
    | nil => cases he
    | cons c l =>
      cases c with
      | bool b =>
        simp only [Ty.parse, Option.some.injEq, Prod.mk.injEq] at he
        obtain ⟨rfl, rfl⟩ := he
        cases vs with
        | nil => exact ha.elim
        | cons v vs => exact ⟨vs, by rw [show v = _ from ha.1]; rfl, ha.2⟩
      | _ => cases he
  | .str, l, x, rest, vs, he, _, ha => by
    cases l with
    | nil => cases he
    | cons c l =>
      cases c with
      | str b =>
        simp only [Ty.parse, Option.some.injEq, Prod.mk.injEq] at he
        obtain ⟨rfl, rfl⟩ := he
        cases vs with
        | nil => exact ha.elim
        | cons v vs => exact ⟨vs, by rw [show v = _ from ha.1]; rfl, ha.2⟩
      | _ => cases he
  | .sl _, _, _, _, _, _, hs, _ => by simp [Ty.hasSl] at hs
  | .nil, l, x, rest, vs, he, _, ha => by
    simp only [Ty.parse, Option.some.injEq, Prod.mk.injEq] at he
    obtain ⟨_, rfl⟩ := he
    exact ⟨vs, rfl, ha⟩
  | .pair a b, l, x, rest, vs, he, hs, ha => by
    simp only [Ty.hasSl, Bool.or_eq_false_iff] at hs
    simp only [Ty.parse] at he
    split at he
    · rename_i x1 r1 h1
      split at he
      · rename_i y1 r2 h2
        simp only [Option.some.injEq, Prod.mk.injEq] at he
        obtain ⟨rfl, rfl⟩ := he
        obtain ⟨v2, rfl, h3⟩ := parse_vals h1 hs.1 ha
        obtain ⟨v3, rfl, h4⟩ := parse_vals h2 hs.2 h3
        exact ⟨v3, by simp [Ty.vals], h4⟩
      · cases he
    · cases he

theorem ofCells_vals {t : Ty} {l : List Cell} {x : t.D} {vs : List Value} (he : t.ofCells l = some x) (hs : t.hasSl = false) (ha : All2 (RepC C γ h w) l vs) : vs = t.vals x := by
  unfold Ty.ofCells at he
  split at he
  · rename_i y h1
    simp only [Option.some.injEq] at he
    subst he
    obtain ⟨v2, rfl, h2⟩ := parse_vals h1 hs ha
    cases v2 with
    | nil => simp
    | cons _ _ => exact h2.elim
  · cases he

theorem part_run {t : TypeId} {A : Ty} (hsl : A.hasSl = false) (h1 : ∃ inf, P.info? t = some inf ∧ inf.size = A.size) (h2 : ∃ d, P.underlying t = some d ∧ isAggD d = A.isAgg) (x : A.D) (p r : List Value) (w' : World) :
    (part t (p ++ (A.vals x ++ r)).toArray p.length).run P w' = .ok (A.val x) w' := by
  obtain ⟨inf, hi, hsz⟩ := h1
  obtain ⟨d, hd, hg⟩ := h2
  have hagg : (Go.isAgg t).run P w' = .ok A.isAgg w' := by
    rw [← hg]
    simp only [Go.isAgg, Sem.run_bind, run_underlying hd, Result.andThen_ok]
    cases d <;> rfl
  have hsize : (Go.sizeOf t).run P w' = .ok A.size w' := by simp [Go.sizeOf, typeInfo, hi, hsz]
  unfold part
  rw [Sem.run_bind, hagg, Result.andThen_ok]
  cases hA : A.isAgg with
  | true =>
    simp only [if_true, Sem.run_bind, hsize, Result.andThen_ok, Sem.run_pure]
    congr 1
    unfold Ty.val
    rw [if_pos hA]
    congr 1
    have hl := vals_len (t := A) (x := x) hsl
    rw [List.extract_toArray]
    congr 1
    simp [List.extract, ← hl]
  | false =>
    simp only [Bool.false_eq_true, if_false]
    have hv : ∃ v, A.vals x = [v] := by
      cases A with
      | int k => exact ⟨_, rfl⟩
      | bool => exact ⟨_, rfl⟩
      | str => exact ⟨_, rfl⟩
      | sl t => simp [Ty.hasSl] at hsl
      | nil => cases hA
      | pair a b => cases hA
    obtain ⟨v, hv⟩ := hv
    have : (p ++ (A.vals x ++ r)).toArray[p.length]? = some v := by
      rw [hv]; simp
    rw [this]
    unfold Ty.val
    rw [if_neg (by rw [hA]; simp), hv]
    rfl

theorem eqFs_sound {D : Nat} {rec : TypeId → Ty → Prop} (hrec : ∀ t A, rec t A → A.hasSl = false → ∀ (x y : A.D) (w' : World), (Op.equalIn D t (A.val x) (A.val y)).run P w' = .ok (A.eqv x y) w') :
    ∀ (fs : List Field) (off : Nat) (T : Ty), EqFs P rec fs off T → T.hasSl = false → ∀ (x y : T.D) (p q : List Value), p.length = off → q.length = off → ∀ w' : World, (Op.eqFields D (p ++ T.vals x).toArray (q ++ T.vals y).toArray fs).run P w' = .ok (T.eqv x y) w'
  | [], off, .nil, _, _, _, _, _, _, _, _, _ => by simp [Op.eqFields, Ty.eqv, Sem.run_pure]
  | f :: fs, off, .pair A B, h, hsl, x, y, p, q, hp, hq, w' => by
    simp only [Ty.hasSl, Bool.or_eq_false_iff] at hsl
    obtain ⟨hn, ho, hr, hi, hd, hrest⟩ := h
    have hn' : f.name ≠ "_" := fun e => by simp [e] at hn
    have ih := eqFs_sound hrec fs (off + A.size) B hrest hsl.2 x.2 y.2 (p ++ A.vals x.1) (q ++ A.vals y.1) (by rw [List.length_append, hp, vals_len hsl.1]) (by rw [List.length_append, hq, vals_len hsl.1]) w'
    simp only [Op.eqFields, if_pos hn']
    have g1 := part_run hsl.1 hi hd x.1 p (B.vals x.2) w'
    have g2 := part_run hsl.1 hi hd y.1 q (B.vals y.2) w'
    rw [hp] at g1
    rw [hq] at g2
    rw [ho, Sem.run_bind]
    simp only [Ty.vals]
    rw [g1, Result.andThen_ok, Sem.run_bind, g2, Result.andThen_ok, Sem.run_bind, hrec _ _ hr hsl.1, Result.andThen_ok]
    simp only [Ty.eqv]
    cases hb : A.eqv x.1 y.1 with
    | false => simp [Sem.run_pure]
    | true =>
      simp only [Bool.not_true, Bool.false_eq_true, if_false, Bool.true_and]
      rw [← List.append_assoc, ← List.append_assoc]
      exact ih
  | [], _, .int _, h, _, _, _, _, _, _, _, _ | [], _, .bool, h, _, _, _, _, _, _, _, _ | [], _, .str, h, _, _, _, _, _, _, _, _ | [], _, .sl _, h, _, _, _, _, _, _, _, _ | [], _, .pair _ _, h, _, _, _, _, _, _, _, _ => h.elim
  | _ :: _, _, .int _, h, _, _, _, _, _, _, _, _ | _ :: _, _, .bool, h, _, _, _, _, _, _, _, _ | _ :: _, _, .str, h, _, _, _, _, _, _, _, _ | _ :: _, _, .sl _, h, _, _, _, _, _, _, _, _ | _ :: _, _, .nil, h, _, _, _, _, _, _, _, _ => h.elim

theorem eqIn_sound : ∀ (d : Nat) (t : TypeId) (T : Ty), EqOk P d t T → T.hasSl = false → ∀ D, d ≤ D → ∀ (x y : T.D) (w' : World), (Op.equalIn D t (T.val x) (T.val y)).run P w' = .ok (T.eqv x y) w'
  | 0, _, _, h, _, _, _, _, _, _ => h.elim
  | d + 1, t, T, h, hsl, D, hD, x, y, w' => by
    obtain ⟨D, rfl⟩ : ∃ D', D = D' + 1 := ⟨D - 1, by omega⟩
    have hrec : ∀ t A, EqOk P d t A → A.hasSl = false → ∀ (x y : A.D) (w' : World), (Op.equalIn D t (A.val x) (A.val y)).run P w' = .ok (A.eqv x y) w' := fun t A hA hs x y w' => eqIn_sound d t A hA hs D (by omega) x y w'
    cases T with
    | int k => exact run_equalIn_int w' D t k k x y h
    | bool => exact run_equalIn_bool' w' D t x y h
    | str =>
      have := run_equalIn_string w' D t (mkS x) (mkS y) h
      rw [toList_mkS, toList_mkS] at this
      refine Eq.trans this ?_
      congr 1
      show (x == y) = decide (x = y)
      by_cases e : x = y <;> simp [e]
    | sl t => exact h.elim
    | nil =>
      obtain ⟨h1, h2, h3⟩ := h
      exact (run_equalIn_agg w' D t _ _ h1 h2).trans (eqFs_sound hrec _ 0 .nil h3 hsl x y [] [] rfl rfl w')
    | pair a b =>
      obtain ⟨h1, h2, h3⟩ := h
      exact (run_equalIn_agg w' D t _ _ h1 h2).trans (eqFs_sound hrec _ 0 (.pair a b) h3 hsl x y [] [] rfl rfl w')

theorem isBool_under {te : TypeId → Option TI} (hte : ∀ t i, te t = some i → TIok P t i) {t : TypeId} (hh : isBool te t = true) : P.underlying t = some .bool := by
  unfold isBool at hh
  split at hh
  · rename_i ti hti
    split at hh
    · rename_i hty
      exact (hte t ti hti).bool hty
    · cases hh
  · cases hh

theorem eqI_nil {d : Nat} {t : TypeId} {ms} (h : P.underlying t = some (.interface ms)) (w' : World) : (Op.equalIn (d + 1) t .nilIface .nilIface).run P w' = .ok true w' := by
  simp [Op.equalIn, run_underlying h]
theorem eqI_some {d : Nat} {t tt : TypeId} {ms} {v : Value} (h : P.underlying t = some (.interface ms)) (w' : World) : (Op.equalIn (d + 1) t (.iface tt v) .nilIface).run P w' = .ok false w' := by
  simp [Op.equalIn, run_underlying h]

theorem eqI_nilsome {d : Nat} {t tt : TypeId} {ms} {v : Value} (h : P.underlying t = some (.interface ms)) (w' : World) : (Op.equalIn (d + 1) t .nilIface (.iface tt v)).run P w' = .ok false w' := by
  simp [Op.equalIn, run_underlying h]
theorem eqI_both {d : Nat} {t tt : TypeId} {ms} {k : IntKind} {a b : Int} {inf : TypeInfo} (h : P.underlying t = some (.interface ms)) (hi : P.info? tt = some inf) (hc : inf.comparable = true) (hk : P.underlying tt = some (.int k)) (w' : World) :
    (Op.equalIn (d + 1 + 1) t (.iface tt (.int k a)) (.iface tt (.int k b))).run P w' = .ok (a == b) w' := by
  rw [Op.equalIn]
  simp only [Sem.run_bind, run_underlying h, Result.andThen_ok, ne_eq, not_true_eq_false, if_false]
  simp only [typeInfo, Sem.run_bind, run_program, Result.andThen_ok, hi, Sem.run_pure, hc, Bool.not_true, Bool.false_eq_true, if_false]
  exact run_equalIn_int w' d tt k k a b hk

theorem isIface_under {te : TypeId → Option TI} (hte : ∀ t i, te t = some i → TIok P t i) {t : TypeId} (hh : isIface te t = true) : ∃ ms, P.underlying t = some (.interface ms) := by
  unfold isIface at hh
  split at hh
  · rename_i ti hti; exact (hte _ _ hti).iface hh
  · cases hh

theorem cmpKind_under {te : TypeId → Option TI} (hte : ∀ t i, te t = some i → TIok P t i) {t : TypeId} {k : IntKind} (hh : cmpKind te t = some k) : P.underlying t = some (.int k) ∧ ∃ inf, P.info? t = some inf ∧ inf.comparable = true := by
  unfold cmpKind at hh
  split at hh
  · rename_i ti hti
    obtain ⟨hc, hi⟩ := if_some hh
    exact ⟨(hte _ _ hti).int _ hi, (hte _ _ hti).cmp hc⟩
  · cases hh

theorem ifo_eq {te : TypeId → Option TI} (hte : ∀ t i, te t = some i → TIok P t i) {t tt : TypeId} {k : IntKind} {o : Option Int} {m : Int} {x y : Operand} (hX : isIface te t = true) (hk : cmpKind te tt = some k) {va : Value} (ha : match o with | none => va = .nilIface | some n => va = .iface tt (.int k n)) (w' : World) :
    (∀ op, (eqGuard op t x y va (.iface tt (.int k m))).run P w' = .ok () w') ∧ (Op.equal t va (.iface tt (.int k m))).run P w' = .ok (decide (o = some m)) w' := by
  obtain ⟨ms, hms⟩ := isIface_under hte hX
  obtain ⟨hu, inf, hi, hc⟩ := cmpKind_under hte hk
  cases o with
  | none =>
    rw [show va = _ from ha]
    refine ⟨fun op => by cases op <;> rfl, ?_⟩
    exact (eqI_nilsome (d := 9999) hms w').trans (by simp)
  | some n =>
    rw [show va = _ from ha]
    refine ⟨fun op => by cases op <;> rfl, ?_⟩
    refine (eqI_both (d := 9998) hms hi hc hu w').trans ?_
    congr 1
    by_cases e : n = m <;> simp [e]

theorem ifo_nil {tt : TypeId} {k : IntKind} {o : Option Int} {va : Value} (ha : match o with | none => va = .nilIface | some n => va = .iface tt (.int k n)) : (o.isNone = true → va = .nilIface) ∧ (o.isNone = false → ∃ t x, va = .iface t x) := by
  cases o with
  | none => exact ⟨fun _ => ha, fun e => by simp at e⟩
  | some n => exact ⟨fun e => by simp at e, fun _ => ⟨_, _, ha⟩⟩

theorem nilTest_run {te : TypeId → Option TI} (hte : ∀ t i, te t = some i → TIok P t i) {t : TypeId} {x y : Operand} (hh : isNilTest te t y = true) {b : Bool} {va : Value} (ha : (b = true → va = .nilIface) ∧ (b = false → ∃ t x, va = .iface t x)) (w' : World) :
    (eqGuard .eql t x y va .nilIface).run P w' = .ok () w' ∧ (eqGuard .neq t x y va .nilIface).run P w' = .ok () w' ∧ (Op.equal t va .nilIface).run P w' = .ok b w' := by
  unfold isNilTest at hh
  simp only [Bool.and_eq_true] at hh
  obtain ⟨hi, hy⟩ := hh
  split at hi
  · rename_i ti hti
    obtain ⟨ms, hms⟩ := (hte t ti hti).iface hi
    cases y with
    | const v =>
      cases b with
      | true =>
        rw [ha.1 rfl]
        refine ⟨?_, ?_, eqI_nil (d := 9999) hms w'⟩
        · simp [eqGuard]
        · simp [eqGuard]
      | false =>
        obtain ⟨tt, xx, rfl⟩ := ha.2 rfl
        refine ⟨?_, ?_, eqI_some (d := 9999) hms w'⟩
        · simp [eqGuard]
        · simp [eqGuard]
    | _ => cases hy
  · cases hi

theorem binK_sound {te : TypeId → Option TI} (hte : ∀ t i, te t = some i → TIok P t i) {op : BinOp} {t : TypeId} {a b : V1} {K : V1 → Option R} {x y : Operand} (he : binK (isBool te t) (isNilTest te t y) (isIface te t) (cmpKind te) (eqTy te t) op a b K = some r) {va vb : Value} (ha : RepV1 C γ h w a va) (hb : RepV1 C γ h w b vb) :
    ∃ c, K c = some r ∧ Fixed P (do eqGuard op t x y va vb; binOp op t va vb) C γ h w c := by
  have fin : ∀ {va : Value}, va.oneCell' = true → va ≠ .nilIface → (∃ c, K c = some r ∧ Fixed P (binOp op t va vb) C γ h w c) → ∃ c, K c = some r ∧ Fixed P (do eqGuard op t x y va vb; binOp op t va vb) C γ h w c := by
    rintro va h1 h2 ⟨c, hc, val, hv, hr⟩
    exact ⟨c, hc, val, hv, fun w' => by rw [Sem.run_bind, eqGuard_plain h1 h2, Result.andThen_ok]; exact hr w'⟩
  have agg : ∀ {xs ys : List Cell} {T : Ty} {K' : Bool → Option R} {va vb : Value}, eqTy te t = some T → eqAgg T xs ys K' = some r → RepV1 C γ h w (.agg xs) va → RepV1 C γ h w (.agg ys) vb →
      ∃ b, K' b = some r ∧ ∃ us vs : Array Value, va = .agg us ∧ vb = .agg vs ∧ P.eqGuardType P.depth t = false ∧ ∀ w', (Op.equalIn 10000 t (.agg us) (.agg vs)).run P w' = .ok b w' := by
    intro xs ys T K' va vb hT he ha hb
    obtain ⟨us, rfl, hu⟩ := ha
    obtain ⟨vs, rfl, hv⟩ := hb
    unfold eqTy at hT
    split at hT
    · rename_i ti hti
      obtain ⟨h1, h2, h3, h4⟩ := (hte t ti hti).eq T hT
      unfold eqAgg at he
      split at he
      · rename_i x y hx hy
        have e1 := ofCells_vals hx h2 hu
        have e2 := ofCells_vals hy h2 hv
        refine ⟨_, he, _, _, rfl, rfl, h4, fun w' => ?_⟩
        have := eqIn_sound 20 t T h1 h2 10000 (by omega) x y w'
        unfold Ty.val at this
        rw [if_pos h3, if_pos h3] at this
        rw [e1, e2]
        exact this
      · cases he
    · cases hT
  unfold binK at he
  split at he
  · rw [show va = _ from ha]; rw [show vb = _ from hb]; rw [show vb = _ from hb] at fin
    exact fin rfl (by simp) (shI_sound (.inl rfl) he t)
  · rw [show va = _ from ha]; rw [show vb = _ from hb]; rw [show vb = _ from hb] at fin
    exact fin rfl (by simp) (shI_sound (.inr rfl) he t)
  · rename_i h1 h2
    obtain ⟨hk, he2⟩ := if_some he
    subst hk
    rw [show va = _ from ha]; rw [show vb = _ from hb]; rw [show vb = _ from hb] at fin
    exact fin rfl (by simp) (binI_sound h1 h2 he2 t)
  · rw [show va = _ from ha]; rw [show vb = _ from hb]; rw [show vb = _ from hb] at fin
    exact fin rfl (by simp) (binS_sound he t)
  · obtain ⟨hB, he⟩ := if_some he
    rw [show va = _ from ha]; rw [show vb = _ from hb]; rw [show vb = _ from hb] at fin
    exact fin rfl (by simp) ⟨_, he, _, rfl, fun w' => run_eql_bool w' t _ _ (isBool_under hte hB)⟩
  · obtain ⟨hB, he⟩ := if_some he
    rw [show va = _ from ha]; rw [show vb = _ from hb]; rw [show vb = _ from hb] at fin
    exact fin rfl (by simp) ⟨_, he, _, rfl, fun w' => run_neq_bool w' t _ _ (isBool_under hte hB)⟩
  · obtain ⟨hI, he⟩ := if_some he
    have hvb : vb = .nilIface := hb.1
    subst hvb
    exact ⟨_, he, _, rfl, fun w' => by
      have h := nilTest_run (P := P) (x := x) hte hI ha.2 w'
      rw [Sem.run_bind, h.1, Result.andThen_ok]
      simp only [binOp, Sem.run_bind, h.2.2, Result.andThen_ok, Sem.run_pure]⟩
  · obtain ⟨hI, he⟩ := if_some he
    have hvb : vb = .nilIface := hb.1
    subst hvb
    exact ⟨_, he, _, rfl, fun w' => by
      have h := nilTest_run (P := P) (x := x) hte hI ha.2 w'
      rw [Sem.run_bind, h.2.1, Result.andThen_ok]
      simp only [binOp, Sem.run_bind, h.2.2, Result.andThen_ok, Sem.run_pure]⟩
  · rename_i tt k o
    obtain ⟨hI, he⟩ := if_some he
    have hvb : vb = .nilIface := hb.1
    subst hvb
    exact ⟨_, he, _, rfl, fun w' => by
      have h := nilTest_run (P := P) (x := x) hte hI (b := o.isNone) (va := va) (ifo_nil ha) w'
      rw [Sem.run_bind, h.1, Result.andThen_ok]
      simp only [binOp, Sem.run_bind, h.2.2, Result.andThen_ok, Sem.run_pure]⟩
  · rename_i tt k o
    obtain ⟨hI, he⟩ := if_some he
    have hvb : vb = .nilIface := hb.1
    subst hvb
    exact ⟨_, he, _, rfl, fun w' => by
      have h := nilTest_run (P := P) (x := x) hte hI (b := o.isNone) (va := va) (ifo_nil ha) w'
      rw [Sem.run_bind, h.2.1, Result.andThen_ok]
      simp only [binOp, Sem.run_bind, h.2.2, Result.andThen_ok, Sem.run_pure]⟩
  · rename_i t1 k1 o t2 k2 m
    obtain ⟨⟨hX, e1, e2, hk⟩, he2⟩ := if_some he
    subst e1 e2
    have hvb : vb = .iface t1 (.int k1 m) := hb
    subst hvb
    exact ⟨_, he2, _, rfl, fun w' => by
      have h := ifo_eq (P := P) (x := x) (y := y) (m := m) hte hX hk (va := va) ha w'
      rw [Sem.run_bind, h.1, Result.andThen_ok]
      cases o with
      | none => rw [show va = _ from ha] at h ⊢; simp only [binOp, Sem.run_bind, h.2, Result.andThen_ok, Sem.run_pure]
      | some n => rw [show va = _ from ha] at h ⊢; simp only [binOp, Sem.run_bind, h.2, Result.andThen_ok, Sem.run_pure]⟩
  · rename_i t1 k1 o t2 k2 m
    obtain ⟨⟨hX, e1, e2, hk⟩, he2⟩ := if_some he
    subst e1 e2
    have hvb : vb = .iface t1 (.int k1 m) := hb
    subst hvb
    exact ⟨_, he2, _, rfl, fun w' => by
      have h := ifo_eq (P := P) (x := x) (y := y) (m := m) hte hX hk (va := va) ha w'
      rw [Sem.run_bind, h.1, Result.andThen_ok]
      cases o with
      | none => rw [show va = _ from ha] at h ⊢; simp only [binOp, Sem.run_bind, h.2, Result.andThen_ok, Sem.run_pure]
      | some n => rw [show va = _ from ha] at h ⊢; simp only [binOp, Sem.run_bind, h.2, Result.andThen_ok, Sem.run_pure]⟩
  · split at he
    · rename_i hT
      obtain ⟨b, hk, us, vs, rfl, rfl, hg, hrun⟩ := agg hT he ha hb
      exact ⟨_, hk, _, rfl, fun w' => by rw [Sem.run_bind, run_eqGuard_agg w' _ _ _ _ _ _ hg, Result.andThen_ok, run_eql_struct, hrun, Result.andThen_ok]⟩
    · cases he
  · split at he
    · rename_i hT
      obtain ⟨b, hk, us, vs, rfl, rfl, hg, hrun⟩ := agg hT he ha hb
      exact ⟨_, hk, _, rfl, fun w' => by rw [Sem.run_bind, run_eqGuard_agg w' _ _ _ _ _ _ hg, Result.andThen_ok, run_neq_struct, hrun, Result.andThen_ok]⟩
    · cases he
  · cases he

theorem unK_sound {op : UnOp} {a : V1} {K : V1 → Option R} (he : unK op a K = some r) {va : Value} (ha : RepV1 C γ h w a va) : ∃ c, K c = some r ∧ Fixed P (Op.unary op va) C γ h w c := by
  unfold unK at he
  split at he
  · rw [show va = _ from ha]; exact ⟨_, he, _, rfl, fun w' => by simp [Op.unary]⟩
  · rw [show va = _ from ha]; exact ⟨_, he, _, rfl, fun w' => by simp [Op.unary, Op.intArith]⟩
  · rw [show va = _ from ha]; exact ⟨_, he, _, rfl, fun w' => by simp [Op.unary, Op.intBits, bitsI]⟩
  · cases he

def OptRep (C : Ctx) (γ : Gam) (h : Heap) (w : World) : Option V1 → Option Value → Prop
  | none, none => True
  | some x, some v => RepV1 C γ h w x v
  | _, _ => False

theorem boundsK_sound {isSlice : Bool} {n cap : Nat} (hn : n ≤ cap) {lo hi mx : Option V1} {vl vh vm : Option Value} (hl : OptRep C γ h w lo vl) (hh : OptRep C γ h w hi vh) (hm : OptRep C γ h w mx vm) {K : Nat → Nat → Option R}
    (he : boundsK n lo hi mx K = some r) : ∃ l hh m, K l hh = some r ∧ l ≤ hh ∧ hh ≤ n ∧ hh ≤ m ∧ m ≤ cap ∧ (mx = none → m = cap) ∧ (lo = none → l = 0) ∧ ∀ w', (Instr.sliceBounds isSlice n cap vl vh vm).run P w' = .ok (l, hh, m) w' := by
  unfold boundsK at he
  cases mx with
  | none =>
    cases vm with
    | some _ => exact hm.elim
    | none =>
      cases hi with
      | none =>
        cases vh with
        | some _ => exact hh.elim
        | none =>
          cases lo with
          | none =>
            cases vl with
            | some _ => exact hl.elim
            | none => exact ⟨0, n, cap, he, Nat.zero_le _, Nat.le_refl _, hn, Nat.le_refl _, fun _ => rfl, fun _ => rfl, fun w' => by simp [Instr.sliceBounds]⟩
          | some x =>
            cases vl with
            | none => exact hl.elim
            | some v =>
              cases x with
              | agg cs => simp at he
              | c x => cases x with
                | int k i =>
                  obtain ⟨hc, he⟩ := if_some he
                  rw [show v = _ from hl]
                  refine ⟨i.toNat, n, cap, he, by omega, Nat.le_refl _, hn, Nat.le_refl _, fun _ => rfl, (fun e => by cases e), fun w' => ?_⟩
                  simp [Instr.sliceBounds, run_sliceBound w' k i n _ hc.1 hc.2]
                | _ => simp at he
      | some x =>
        cases vh with
        | none => exact hh.elim
        | some vh =>
          cases x with
          | agg cs => simp at he
          | c x => cases x with
            | int k j =>
              obtain ⟨hc, he⟩ := if_some he
              rw [show vh = _ from hh]
              cases lo with
              | none =>
                cases vl with
                | some _ => exact hl.elim
                | none =>
                  refine ⟨0, j.toNat, cap, he, Nat.zero_le _, by omega, by omega, Nat.le_refl _, fun _ => rfl, fun _ => rfl, fun w' => ?_⟩
                  simp [Instr.sliceBounds, run_sliceBound w' k j cap _ hc.1 (by omega)]
              | some x =>
                cases vl with
                | none => exact hl.elim
                | some v =>
                  cases x with
                  | agg cs => simp at he
                  | c x => cases x with
                    | int k' i =>
                      obtain ⟨hc', he⟩ := if_some he
                      rw [show v = _ from hl]
                      refine ⟨i.toNat, j.toNat, cap, he, by omega, by omega, by omega, Nat.le_refl _, fun _ => rfl, (fun e => by cases e), fun w' => ?_⟩
                      simp [Instr.sliceBounds, run_sliceBound w' k j cap _ hc.1 (by omega), run_sliceBound w' k' i j.toNat _ hc'.1 (by omega)]
                    | _ => simp at he
            | _ => simp at he
  | some x =>
    cases vm with
    | none => exact hm.elim
    | some vm =>
      cases x with
      | agg cs => simp at he
      | c x => cases x with
        | int k m =>
          obtain ⟨hcm, he⟩ := if_some he
          rw [show vm = _ from hm]
          cases hi with
          | none => simp at he
          | some x =>
            cases vh with
            | none => exact hh.elim
            | some vh =>
              cases x with
              | agg cs => simp at he
              | c x => cases x with
                | int kh j =>
                  obtain ⟨hc, he⟩ := if_some he
                  rw [show vh = _ from hh]
                  cases lo with
                  | none =>
                    cases vl with
                    | some _ => exact hl.elim
                    | none =>
                      refine ⟨0, j.toNat, m.toNat, he, Nat.zero_le _, by omega, by omega, by omega, (fun e => by cases e), fun _ => rfl, fun w' => ?_⟩
                      simp [Instr.sliceBounds, run_sliceBound w' k m cap _ hcm.1 (by omega), run_sliceBound w' kh j m.toNat _ hc.1 (by omega)]
                  | some x =>
                    cases vl with
                    | none => exact hl.elim
                    | some v =>
                      cases x with
                      | agg cs => simp at he
                      | c x => cases x with
                        | int k' i =>
                          obtain ⟨hc', he⟩ := if_some he
                          rw [show v = _ from hl]
                          refine ⟨i.toNat, j.toNat, m.toNat, he, by omega, by omega, by omega, by omega, (fun e => by cases e), (fun e => by cases e), fun w' => ?_⟩
                          simp [Instr.sliceBounds, run_sliceBound w' k m cap _ hcm.1 (by omega), run_sliceBound w' kh j m.toNat _ hc.1 (by omega), run_sliceBound w' k' i j.toNat _ hc'.1 (by omega)]
                        | _ => simp at he
                | _ => simp at he
        | _ => simp at he

theorem elemSize_sound {te : TypeId → Option TI} (hte : ∀ t i, te t = some i → TIok P t i) {t : TypeId} {n : Nat} (he : elemSize te t = some n) : ∃ e i, te e = some i ∧ i.size = n ∧ P.underlying t = some (.slice e) := by
  unfold elemSize at he
  split at he
  · rename_i e h1
    split at he
    · rename_i ti h2
      simp only [Option.some.injEq] at he
      cases h0 : te t with
      | none => simp [h0] at h1
      | some i0 =>
        simp only [h0, Option.bind_some] at h1
        exact ⟨e, ti, h2, he, (hte t i0 h0).elem e h1⟩
    · cases he
  · cases he

theorem isStr_sound {te : TypeId → Option TI} (hte : ∀ t i, te t = some i → TIok P t i) {t : TypeId} (he : isStr te t = true) : P.underlying t = some .string := by
  unfold isStr at he
  split at he
  · rename_i ti h; exact (hte t ti h).str he
  · cases he

theorem elem_eq {t e : TypeId} (h : P.underlying t = some (.slice e)) : P.underlying t = some (.slice (P.elem t)) := by
  rw [h]; simp [Program.elem, h]

theorem elem_of {t e : TypeId} (h : P.underlying t = some (.slice e)) : P.elem t = e := by simp [Program.elem, h]

end
end Rv
