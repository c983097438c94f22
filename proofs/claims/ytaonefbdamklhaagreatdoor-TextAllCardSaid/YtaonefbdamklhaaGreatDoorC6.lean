/- Texts put together. -/
import Derived.Test.YtaonefbdamklhaaGreatDoorC5
import Derived.Test.YtaonefbdamklhaaGreatDoorProg
import Derived.Maps.RangeWalk
import Derived.Shelf.RegionOpenPlain
import Derived.Deep.LoopGhost
import Derived.Laws.EntriesVeiled
import Derived.WideMake
import Derived.Carry
import Derived.Lib.Join
import Derived.Lib.Split
import Derived.Lib.SplitLaws
import Derived.Test.YtaonefbdamklhaaGreatDoorC1
import Derived.Lib.LaidTab
import Derived.Lib.AppendIntMem
import Derived.Shelf.Strings.SlTrimAscii
set_option linter.all false
namespace Rv
open Go Go.RowKit Go.Proofs
noncomputable section
set_option maxRecDepth 1000000
noncomputable abbrev SP : Program := Tryz.prog
abbrev opW (w : World) (t : TypeId) (v : Value) (f1 f2 : FuncId) : World :=
 (w.alloc (.cells #[v] t)).alloc (.cells #[.func (.func f1) #[] #[.pointer (some ⟨w.heap.size, 0, none⟩)], .func (.func f2) #[] #[.pointer (some ⟨w.heap.size, 0, none⟩)]] 90)
abbrev opV (B : Nat) (f1 f2 : FuncId) : Value := .agg #[.func (.func f1) #[] #[.pointer (some ⟨B, 0, none⟩)], .func (.func f2) #[] #[.pointer (some ⟨B, 0, none⟩)]]
theorem results_cell {fn : Func} {u : Tmp} {t : TypeId} (h : fn.results = #[.cell u t]) {tmps : Array Value} {a : Addr} {P : Program} {w : World} {v : Value} (ha : tmps.getD u undef = .pointer (some a)) (hv : (loadVar t a).run P w = .ok v w) :
  (results fn tmps).run P w = .ok v w := by
 have e : asAddr (tmps.getD u undef) = pure a := by rw [ha]; rfl
 unfold results
 rw [h]
 simp only [List.mapM_toArray, List.mapM_cons, List.mapM_nil, e]
 simp [hv, Result.andThen]
theorem reg_walk (g : FuncId) (w : World) : Calls SP 73 #[.func (.func g) #[] #[]] w fun e w' =>
  e = .returned (opV w.heap.size 119 120) ∧ w' = opW w 118 (.func (.func g) #[] #[]) 119 120 := by
 go_enter Tryz.func73, Tryz.ntmps73
 go_wp2
 refine bodyPost_ret (v := opV w.heap.size 119 120) (results_cell rfl rfl ?_) rfl ⟨rfl, rfl⟩
 go_simp
theorem num_walk (s : ByteArray) (w : World) : Calls SP 77 #[.string s] w fun e w' =>
  e = .returned (opV w.heap.size 121 123) ∧ w' = opW w 9 (.string s) 121 123 := by
 go_enter Tryz.func77, Tryz.ntmps77
 go_wp2
 refine bodyPost_ret (v := opV w.heap.size 121 123) (results_cell rfl rfl ?_) rfl ⟨rfl, rfl⟩
 go_simp
noncomputable abbrev TMo : TypeId := 120
theorem put_gen {P : Program} {mt kt vt : TypeId} (hm : P.underlying mt = some (.map kt vt)) (hk : P.underlying kt = some (.int .i64)) {W : World} {B : Nat} {es : Array MapEntry} {cl : Nat} {n : Int} {val : Value} (hB : B = W.heap.size) (hf : Instr.findNow (.int .i64) (.int .i64 n) es.toList 0 = some none) :
  (Instr.mapUpdate mt (.map (some B)) (.int .i64 n) val).run P (W.alloc (.map es cl)) = .ok () (W.alloc (.map (es.push { key := .int .i64 n, val := val, born := cl }) (cl + 1))) := by
 subst hB
 have hb : (W.alloc (.map es cl)).heap[W.heap.size]? = some (.map es cl) := by
  show (W.heap.push (.map es cl))[W.heap.size]? = _
  exact Array.getElem?_push_size
 have hc : (Instr.checkKey false 10000 kt (.int .i64 n)).run P (W.alloc (.map es cl)) = .ok () (W.alloc (.map es cl)) := MapKept.run_checkKey (k := .int .i64 n) hk (by simp [MapKept.IsKey]) false 9999
 generalize hX : W.alloc (.map es cl) = X at hb hc ⊢
 have h1 : (Instr.mapUpdate mt (.map (some W.heap.size)) (.int .i64 n) val).run P X = .ok () { X with heap := X.heap.setIfInBounds W.heap.size (.map (es.push { key := .int .i64 n, val := val, born := cl }) (cl + 1)) } := by
  unfold Instr.mapUpdate
  rw [Sem.run_bind, run_underlying hm]
  simp only [Result.andThen_ok]
  rw [Sem.run_bind, MapKept.run_getObj_map hb]
  simp only [Result.andThen_ok]
  rw [Sem.run_bind, hc]
  simp only [Result.andThen_ok]
  rw [Sem.run_bind, MapKept.run_findKey hk hf]
  simp only [Result.andThen_ok]
  exact MapKept.run_setObj_map _ hb
 rw [h1]
 subst hX
 have h2 : (W.heap.push (.map es cl)).setIfInBounds W.heap.size (.map (es.push { key := .int .i64 n, val := val, born := cl }) (cl + 1)) = W.heap.push (.map (es.push { key := .int .i64 n, val := val, born := cl }) (cl + 1)) := by
  apply Array.ext'
  rw [Array.toList_setIfInBounds, Array.toList_push, Array.toList_push, List.set_append_right _ _ (by simp)]
  simp
 show Result.ok () { (W.alloc (.map es cl)) with heap := (W.heap.push (.map es cl)).setIfInBounds W.heap.size _ } = _
 rw [h2]
 rfl
theorem look_gen {P : Program} {mt kt vt : TypeId} (hm : P.underlying mt = some (.map kt vt)) (hk : P.underlying kt = some (.int .i64)) {W : World} {B : Nat} {es : Array MapEntry} {cl i : Nat} {n : Int} {val : Value} (hb : W.heap[B]? = some (.map es cl)) (hf : Instr.findNow (.int .i64) (.int .i64 n) es.toList 0 = some (some (i, val))) :
  (Instr.lookup mt (.map (some B)) (.int .i64 n) false).run P W = .ok val W := by
 have hc : ∀ b, (Instr.checkKey b 10000 kt (.int .i64 n)).run P W = .ok () W := fun b => MapKept.run_checkKey (k := .int .i64 n) hk (by simp [MapKept.IsKey]) b 9999
 simp [Instr.lookup, run_underlying hm, MapKept.run_getObj_map hb, hc, MapKept.run_findKey hk hf, Result.andThen]
theorem put_int {W : World} {B : Nat} {es : Array MapEntry} {cl : Nat} {n : Int} {val : Value} (hB : B = W.heap.size) (hf : Instr.findNow (.int .i64) (.int .i64 n) es.toList 0 = some none) :
  (Instr.mapUpdate TMo (.map (some B)) (.int .i64 n) val).run SP (W.alloc (.map es cl)) = .ok () (W.alloc (.map (es.push { key := .int .i64 n, val := val, born := cl }) (cl + 1))) :=
 put_gen Tryz.underlying120 Tryz.underlying3 hB hf
theorem look_int {W : World} {B : Nat} {es : Array MapEntry} {cl i : Nat} {n : Int} {val : Value} (hb : W.heap[B]? = some (.map es cl)) (hf : Instr.findNow (.int .i64) (.int .i64 n) es.toList 0 = some (some (i, val))) :
  (Instr.lookup TMo (.map (some B)) (.int .i64 n) false).run SP W = .ok val W :=
 look_gen Tryz.underlying120 Tryz.underlying3 hb hf
end
end Rv
namespace Rv
open Go Go.RowKit Go.Proofs
noncomputable section
set_option maxRecDepth 1000000
def HidO (p : Prop) : Prop := p
theorem hidO {p : Prop} (h : p) : HidO p := h
theorem HidO.out {p : Prop} (h : HidO p) : p := h
def pushL : World → List Obj → World
 | w, [] => w
 | w, o :: l => pushL (w.alloc o) l
theorem pushL_heap : ∀ (l : List Obj) (w : World), (pushL w l).heap.size = w.heap.size + l.length ∧ (∀ i, i < w.heap.size → (pushL w l).heap[i]? = w.heap[i]?) ∧ ∀ i, (pushL w l).heap[w.heap.size + i]? = if i < l.length then l[i]? else none
 | [], w => ⟨by simp [pushL], fun i hi => rfl, fun i => by simp [pushL]⟩
 | o :: l, w => by
  obtain ⟨h1, h2, h3⟩ := pushL_heap l (w.alloc o)
  have hs : (w.alloc o).heap.size = w.heap.size + 1 := by show (w.heap.push o).size = _; simp
  have ho : ∀ i, i < w.heap.size → (w.alloc o).heap[i]? = w.heap[i]? := fun i hi => by
   show (w.heap.push o)[i]? = _
   rw [Array.getElem?_push, if_neg (by omega)]
  have hn : (w.alloc o).heap[w.heap.size]? = some o := by
   show (w.heap.push o)[w.heap.size]? = _
   exact Array.getElem?_push_size
  refine ⟨by simp only [pushL]; rw [h1, hs]; simp; omega, fun i hi => ?_, fun i => ?_⟩
  ·simp only [pushL]
   rw [h2 i (by omega), ho i hi]
  ·simp only [pushL]
   cases i with
   | zero => rw [Nat.add_zero, h2 _ (by omega), hn]; simp
   | succ i =>
    have := h3 i
    rw [hs] at this
    rw [show w.heap.size + (i + 1) = w.heap.size + 1 + i by omega, this]
    simp
theorem sz (w : World) (o : Obj) : (w.alloc o).heap.size = w.heap.size + 1 := by show (w.heap.push o).size = _; simp
def fn2 (B : Nat) (f1 f2 : FuncId) : Obj := .cells #[.func (.func f1) #[] #[.pointer (some ⟨B, 0, none⟩)], .func (.func f2) #[] #[.pointer (some ⟨B, 0, none⟩)]] 90
def opsL (B : Nat) : List Obj := [
 .cells #[.func (.func 74) #[] #[]] 118, fn2 B 119 120, fn2 B 119 120,
 .cells #[.func (.func 75) #[] #[]] 118, fn2 (B + 3) 119 120, fn2 (B + 3) 119 120,
 .cells #[.func (.func 76) #[] #[]] 118, fn2 (B + 6) 119 120, fn2 (B + 6) 119 120,
 .cells #[.string ⟨#[]⟩] 9, fn2 (B + 9) 121 123, fn2 (B + 9) 121 123,
 .cells #[.func (.func 78) #[] #[], .func (.func 79) #[] #[]] 90]
abbrev OT : Ty := .pair .fn (.pair .fn .nil)
def regF (g : FuncId) : OT.D := ((119, [.cf (g, [])]), (120, [.cf (g, [])]), ())
def numF (s : Str) : OT.D := ((121, [.c0 (.cs s)]), (123, [.c0 (.cs s)]), ())
def opA : OT.D := regF 74
def opB : OT.D := regF 75
def opC : OT.D := regF 76
def opE : OT.D := numF []
def opQ : OT.D := numF [61]
def opN : OT.D := ((78, []), (79, []), ())
def opsR (k o : Int) : List OT.D :=
 if k = 1 then (if o = 0 then [opA, opC] else [opA, opB, opC]) else
 if k = 2 then (if o = 0 then [opA, opE] else [opA, opB, opE]) else
 if k = 3 ∨ k = 4 then [opA] else
 if k = 5 then [opA, opB, opE] else
 if k = 6 then [opC] else
 if k = 7 ∨ k = 9 then [opE] else
 if k = 8 then [opA, opQ] else
 if k = 10 then [opN] else []
theorem flat_at {t : Ty} {w : World} {ok : Nat → Prop} : ∀ {xs : List t.D} {dss : List (List Value)} {i : Nat} {x : t.D}, All2 (fun x ds => Rd w ok t x ds) xs dss → xs[i]? = some x → ∃ ds, Rd w ok t x ds ∧ ∀ j v, ds[j]? = some v → dss.flatten[i * t.size + j]? = some v
 | [], _, i, x, _, h => by simp at h
 | _ :: _, [], _, _, h, _ => h.elim
 | y :: xs, ds :: dss, 0, x, h, hx => by
  simp only [List.getElem?_cons_zero, Option.some.injEq] at hx
  subst hx
  refine ⟨ds, h.1, fun j v hj => ?_⟩
  have := (List.getElem?_eq_some_iff.1 hj).1
  rw [List.flatten_cons, Nat.zero_mul, Nat.zero_add, List.getElem?_append_left this]; exact hj
 | y :: xs, ds :: dss, i + 1, x, h, hx => by
  obtain ⟨d, h1, h2⟩ := flat_at h.2 (i := i) (by simpa using hx)
  refine ⟨d, h1, fun j v hj => ?_⟩
  have hl := h.1.length
  rw [List.flatten_cons, List.getElem?_append_right (by rw [hl, Nat.succ_mul]; omega), hl]
  rw [show (i + 1) * t.size + j - t.size = i * t.size + j by rw [Nat.succ_mul]; omega]
  exact h2 j v hj
theorem rd_row {t : Ty} {w : World} {ok : Nat → Prop} {g : Nat} {cs : Array Value} {T : TypeId} {xs : List t.D} {dss : List (List Value)} (hg : w.heap[g]? = some (.cells cs T (0, 0))) (hok : ok g) (hd : All2 (fun x ds => Rd w ok t x ds) xs dss) (hc : cs.toList = dss.flatten) {n : Nat} (hn : n = xs.length) :
  Rd w ok (.sl t) xs [.slice (some ⟨g, 0, none⟩) n n] := by
 subst hn
 refine ⟨_, _, rfl, Nat.le_refl _, fun i x hx => ?_⟩
 obtain ⟨ds, h1, h2⟩ := flat_at hd hx
 refine ⟨g, 0, ds, rfl, hok, (Array.getElem?_eq_some_iff.1 hg).1, h1, fun j v hj => ?_⟩
 have := h2 j v hj
 unfold World.cell?
 simp only [hg, Nat.zero_add]
 rw [← hc] at this
 simpa using this
structure OpsAt (B : Nat) (w : World) : Prop where
 at_ : ∀ i, i < 13 → w.heap[B + i]? = (opsL B)[i]?
 lt : B + 13 ≤ w.heap.size
theorem OpsAt.cell {B : Nat} {w : World} (H : OpsAt B w) {i : Nat} (hi : i < 13) {v : Value} {t : TypeId} (h : (opsL B)[i]? = some (.cells #[v] t (0, 0))) : w.cell? ⟨B + i, 0, none⟩ = some v := by
 have := (H.at_ i hi).trans h
 unfold World.cell?
 simp only [this]
 rfl
theorem OpsAt.reg {B : Nat} {w : World} (H : OpsAt B w) {i : Nat} {g : FuncId} (hi : i < 13) (h : (opsL B)[i]? = some (.cells #[.func (.func g) #[] #[]] 118 (0, 0))) : Rd w (fun g => B ≤ g) OT (regF g) [fnV 119 [B + i], fnV 120 [B + i]] := by
 have hc : CapAt w (fun g => B ≤ g) (B + i) (.cf (g, [])) := ⟨Nat.le_add_right _ _, by have := H.lt; omega, [], H.cell hi h, trivial⟩
 exact ⟨[_], [_], rfl, ⟨[B + i], rfl, hc, trivial⟩, [_], [], rfl, ⟨[B + i], rfl, hc, trivial⟩, rfl⟩
theorem rd_num {B g : Nat} {w : World} {s : Str} (h : w.cell? ⟨g, 0, none⟩ = some (.string (mkS s))) (hB : B ≤ g) (hg : g < w.heap.size) : Rd w (fun g => B ≤ g) OT (numF s) [fnV 121 [g], fnV 123 [g]] := by
 have hc : CapAt w (fun g => B ≤ g) g (.c0 (.cs s)) := ⟨hB, hg, h⟩
 exact ⟨[_], [_], rfl, ⟨[g], rfl, hc, trivial⟩, [_], [], rfl, ⟨[g], rfl, hc, trivial⟩, rfl⟩
theorem OpsAt.num {B : Nat} {w : World} (H : OpsAt B w) : Rd w (fun g => B ≤ g) OT opE [fnV 121 [B + 9], fnV 123 [B + 9]] := rd_num (H.cell (i := 9) (by omega) rfl) (by omega) (by have := H.lt; omega)
theorem rd_nam {ok : Nat → Prop} {w : World} : Rd w ok OT opN [fnV 78 [], fnV 79 []] := ⟨[_], [_], rfl, ⟨[], rfl, trivial⟩, [_], [], rfl, ⟨[], rfl, trivial⟩, rfl⟩
theorem below_push : ∀ (l : List Obj) {w0 w : World}, Below w0.heap.size w0 w → w0.heap.size ≤ w.heap.size → Below w0.heap.size w0 (pushL w l)
 | [], _, _, h, _ => h
 | o :: l, _, w, h, hs => below_push l (h.alloc hs o) (by rw [sz]; omega)
theorem wpOp_of' {P : Program} {ops : Array Oper} {Q : Exit → Act → World → Prop} {K : Act → World → Prop} {a : Act} {w : World} {i : Nat} {o : Oper} (ho : ops[i]? = some o) (hg : o.guard = none) (h : o.wp P a w K Q) : wpOp P ops Q i K a w := by
 unfold wpOp
 rw [ho]
 have : Region.wanted o (yielded ops a.tmps) = true := by simp [Region.wanted, hg]
 simp only [this, if_true]
 exact Or.inl h
theorem ld_two {X : World} {g : Nat} {u v : Value} (h0 : X.cell? ⟨g, 0, none⟩ = some u) (h1 : X.cell? ⟨g, 1, none⟩ = some v) : (Instr.loadAt 90 (.pointer (some ⟨g, 0, none⟩))).run SP X = .ok (.agg #[u, v]) X := by go_simp
theorem ld_op {X : World} {g : Nat} {u v : Value} (h0 : X.cell? ⟨g, 0, none⟩ = some u) (h1 : X.cell? ⟨g, 1, none⟩ = some v) {a : Act} {o : Oper} {t : Tmp} (ho : o.op = .load 90 (.tmp t)) (ht : a.eval (.tmp t) = .pointer (some ⟨g, 0, none⟩)) : (execOp a.eval o).run SP X = .ok (.value (.agg #[u, v])) X := by
 have h := ld_two h0 h1
 simp [execOp, ho, ht, h, Result.andThen]
theorem enter_num : ∀ args w, (callFunc 77 args).run SP w = .ok (.enter 77 args) w := enters_of Tryz.func77 (by kernel_rfl) rfl
theorem ld_drew {X : World} {g : Nat} {u v : Value} (h0 : X.cell? ⟨g, 0, none⟩ = some u) (h1 : X.cell? ⟨g, 1, none⟩ = some v) {a : Act} {o : Oper} {t : Tmp} (ho : o.op = .load 90 (.tmp t)) (ht : a.eval (.tmp t) = .pointer (some ⟨g, 0, none⟩)) : (execOp a.eval o).run SP X.drew = .ok (.value (.agg #[u, v])) X.drew :=
 ld_op (X := X.drew) h0 h1 ho ht
theorem call_num {X : World} {a : Act} {o : Oper} {s : ByteArray} {t : TypeId} (ho : o.op = .call { callee := .value (.func 77), args := #[.const (.string s)], argTypes := #[t] }) : (execOp a.eval o).run SP X = .ok (.enter 77 #[.string s]) X := by
 have hf : a.eval (.func 77) = .func (.func 77) #[] #[] := rfl
 have hc : ∀ v, a.eval (.const v) = v := fun _ => rfl
 simp [execOp, ho, resolve, Deferred.ofValue, invoke, hf, hc, enter_num]
theorem num_op {X : World} {a : Act} {o : Oper} {s : ByteArray} {t : TypeId} (ho : o.op = .call { callee := .value (.func 77), args := #[.const (.string s)], argTypes := #[t] }) {K : Act → World → Prop} {Q : Exit → Act → World → Prop}
  (hK : K (a.put o.dst (opV X.heap.size 121 123)) (opW X 9 (.string s) 121 123)) : o.wp SP a X K Q := by
 unfold Oper.wp
 rw [call_num ho, Oper.upon_enter]
 refine (num_walk s X).mono ?_
 rintro e w' ⟨rfl, rfl⟩
 exact hK
theorem cell_old2 {X : World} {o1 o2 : Obj} {a : Addr} {v : Value} (h : X.cell? a = some v) (hs : a.block < X.heap.size) : ((X.drew.alloc o1).alloc o2).cell? a = some v := by
 rw [← h]
 refine World.cell?_of_block ?_
 show ((X.heap.push o1).push o2)[a.block]? = X.heap[a.block]?
 rw [Array.getElem?_push, if_neg (by rw [Array.size_push]; omega), Array.getElem?_push, if_neg (by omega)]
structure OpsW (w W : World) : Prop where
 size : W.heap.size = w.heap.size + 13
 at_ : ∀ i, i < 13 → W.heap[w.heap.size + i]? = (opsL w.heap.size)[i]?
 below : Below w.heap.size w W
theorem OpsW.at2 {w W : World} (h : OpsW w W) : ∀ (l : List Obj), OpsAt w.heap.size (pushL W l) ∧ Below w.heap.size w (pushL W l) := fun l => by
 obtain ⟨h1, h2, _⟩ := pushL_heap l W
 have hs := h.size
 exact ⟨⟨fun i hi => by rw [h2 _ (by omega)]; exact h.at_ i hi, by omega⟩, below_push l h.below (by omega)⟩
theorem push_last (W : World) (l : List Obj) (o : Obj) : (pushL W (l ++ [o])).heap[W.heap.size + l.length]? = some o := by
 rw [(pushL_heap _ W).2.2]; simp
abbrev OpsPost (k o : Int) (w : World) (e : Ending) (w' : World) : Prop := Below w.heap.size w w' ∧ ∃ v, e = .returned v ∧ Rd w' (fun g => w.heap.size ≤ g) (.sl OT) (opsR k o) [v]
theorem ops_end {w W : World} (h : OpsW w W) (l : List Obj) {cs : Array Value} {T : TypeId} {xs : List OT.D} {dss : List (List Value)} {g n : Nat} (hg : g = W.heap.size + l.length) (hn : n = xs.length) (hc : cs.toList = dss.flatten)
  (hd : OpsAt w.heap.size (pushL W (l ++ [.cells cs T (0, 0)])) → All2 (fun x ds => Rd (pushL W (l ++ [.cells cs T (0, 0)])) (fun g => w.heap.size ≤ g) OT x ds) xs dss) :
  Below w.heap.size w (pushL W (l ++ [.cells cs T (0, 0)])) ∧ ∃ v, Ending.returned (.slice (some ⟨g, 0, none⟩) n n) = .returned v ∧ Rd (pushL W (l ++ [.cells cs T (0, 0)])) (fun g => w.heap.size ≤ g) (.sl OT) xs [v] := by
 obtain ⟨h1, h2⟩ := h.at2 (l ++ [.cells cs T (0, 0)])
 subst hg
 have hs := h.size
 exact ⟨h2, _, rfl, rd_row (push_last W l _) (by omega) (hd h1) hc hn⟩
abbrev opsQ (w W : World) (mo : Obj) : List Obj := [mo, .cells #[.string ⟨#[61]⟩] 9, .cells #[.func (.func 121) #[] #[.pointer (some ⟨W.heap.size + 1, 0, none⟩)], .func (.func 123) #[] #[.pointer (some ⟨W.heap.size + 1, 0, none⟩)]] 90]
theorem ops_end8 {w W : World} (h : OpsW w W) (o : Int) (mo : Obj) : OpsPost 8 o w (.returned (.slice (some ⟨W.heap.size + 1 + 1 + 1, 0, none⟩) 2 2))
  (pushL W (opsQ w W mo ++ [.cells #[.func (.func 119) #[] #[.pointer (some ⟨w.heap.size, 0, none⟩)], .func (.func 120) #[] #[.pointer (some ⟨w.heap.size, 0, none⟩)], .func (.func 121) #[] #[.pointer (some ⟨W.heap.size + 1, 0, none⟩)], .func (.func 123) #[] #[.pointer (some ⟨W.heap.size + 1, 0, none⟩)]] 90])).drew := by
 have hs := h.size
 obtain ⟨h1, v, h2, h3⟩ := ops_end h (opsQ w W mo) (cs := #[.func (.func 119) #[] #[.pointer (some ⟨w.heap.size, 0, none⟩)], .func (.func 120) #[] #[.pointer (some ⟨w.heap.size, 0, none⟩)], .func (.func 121) #[] #[.pointer (some ⟨W.heap.size + 1, 0, none⟩)], .func (.func 123) #[] #[.pointer (some ⟨W.heap.size + 1, 0, none⟩)]]) (T := 90) (xs := [opA, opQ]) (dss := [[_, _], [_, _]]) (g := W.heap.size + 1 + 1 + 1) (n := 2) rfl rfl rfl fun H => ⟨H.reg (i := 0) (by omega) rfl, rd_num (s := [61]) (by
  unfold World.cell?
  have := (pushL_heap (opsQ w W mo ++ [.cells #[.func (.func 119) #[] #[.pointer (some ⟨w.heap.size, 0, none⟩)], .func (.func 120) #[] #[.pointer (some ⟨w.heap.size, 0, none⟩)], .func (.func 121) #[] #[.pointer (some ⟨W.heap.size + 1, 0, none⟩)], .func (.func 123) #[] #[.pointer (some ⟨W.heap.size + 1, 0, none⟩)]] 90]) W).2.2 1
  rw [if_pos (by simp)] at this
  simp only [this]
  rfl) (by omega) (by rw [(pushL_heap _ _).1]; simp), trivial⟩
 refine ⟨h1.drew, v, h2, h3.mono (Nat.le_refl _) fun g hg _ => ⟨rfl, hg⟩⟩
set_option maxHeartbeats 4000000 in
theorem ops_walk (k o : Int) (w : World) : Calls SP 45 #[.int .i64 k, .int .i64 o] w (OpsPost k o w) := by
 go_enter Tryz.func45, Tryz.ntmps45
 go_wp2_with (first
  | (go_at_call 73; refine (reg_walk _ _).mono ?_; rintro e wa ⟨rfl, rfl⟩)
  | (go_at_call 77; refine (num_walk _ _).mono ?_; rintro e wa ⟨rfl, rfl⟩)
  )
 simp only [opW, sz]
 show Oper.upon SP _ _ _ _ ((Sem.run SP (Instr.makeMap 120 none) (pushL w (opsL w.heap.size))).andThen _)
 obtain ⟨W, hW⟩ : ∃ W, W = pushL w (opsL w.heap.size) := ⟨_, rfl⟩
 rw [← hW]
 have hs : W.heap.size = w.heap.size + 13 := by rw [hW, (pushL_heap _ _).1]; rfl
 have hat : ∀ i, W.heap[w.heap.size + i]? = if i < 13 then (opsL w.heap.size)[i]? else none := fun i => by rw [hW, (pushL_heap _ _).2.2]; rfl
 have hold : ∀ i, i < w.heap.size → W.heap[i]? = w.heap[i]? := fun i hi => by rw [hW]; exact (pushL_heap _ _).2.1 i hi
 have hob : ∀ (ob : Obj) (i : Nat), i < 13 → (W.alloc ob).heap[w.heap.size + i]? = (opsL w.heap.size)[i]? := fun ob i hi => by
  show (W.heap.push ob)[_]? = _
  rw [Array.getElem?_push, if_neg (by omega), hat i, if_pos hi]
 have cc : ∀ (ob : Obj) (i : Nat) (cs : Array Value) (t : TypeId) (j : Nat) (v : Value), i < 13 → (opsL w.heap.size)[i]? = some (.cells cs t (0, 0)) → cs[j]? = some v → (W.alloc ob).cell? ⟨w.heap.size + i, j, none⟩ = some v := fun ob i cs t j v hi hc hv => by
  have h := (hob ob i hi).trans hc
  unfold World.cell?
  simp only [h]
  exact hv
 have a0 : ∀ ob, (W.alloc ob).cell? ⟨w.heap.size + 2, 0, none⟩ = some (.func (.func 119) #[] #[.pointer (some ⟨w.heap.size, 0, none⟩)]) := fun ob => cc ob 2 _ _ 0 _ (by omega) rfl rfl
 have a1 : ∀ ob, (W.alloc ob).cell? ⟨w.heap.size + 2, 1, none⟩ = some (.func (.func 120) #[] #[.pointer (some ⟨w.heap.size, 0, none⟩)]) := fun ob => cc ob 2 _ _ 1 _ (by omega) rfl rfl
 have b0 : ∀ ob, (W.alloc ob).cell? ⟨w.heap.size + 5, 0, none⟩ = some (.func (.func 119) #[] #[.pointer (some ⟨w.heap.size + 3, 0, none⟩)]) := fun ob => cc ob 5 _ _ 0 _ (by omega) rfl rfl
 have b1 : ∀ ob, (W.alloc ob).cell? ⟨w.heap.size + 5, 1, none⟩ = some (.func (.func 120) #[] #[.pointer (some ⟨w.heap.size + 3, 0, none⟩)]) := fun ob => cc ob 5 _ _ 1 _ (by omega) rfl rfl
 have c0 : ∀ ob, (W.alloc ob).cell? ⟨w.heap.size + 8, 0, none⟩ = some (.func (.func 119) #[] #[.pointer (some ⟨w.heap.size + 6, 0, none⟩)]) := fun ob => cc ob 8 _ _ 0 _ (by omega) rfl rfl
 have c1 : ∀ ob, (W.alloc ob).cell? ⟨w.heap.size + 8, 1, none⟩ = some (.func (.func 120) #[] #[.pointer (some ⟨w.heap.size + 6, 0, none⟩)]) := fun ob => cc ob 8 _ _ 1 _ (by omega) rfl rfl
 have e0 : ∀ ob, (W.alloc ob).cell? ⟨w.heap.size + 11, 0, none⟩ = some (.func (.func 121) #[] #[.pointer (some ⟨w.heap.size + 9, 0, none⟩)]) := fun ob => cc ob 11 _ _ 0 _ (by omega) rfl rfl
 have e1 : ∀ ob, (W.alloc ob).cell? ⟨w.heap.size + 11, 1, none⟩ = some (.func (.func 123) #[] #[.pointer (some ⟨w.heap.size + 9, 0, none⟩)]) := fun ob => cc ob 11 _ _ 1 _ (by omega) rfl rfl
 have n0 : ∀ ob, (W.alloc ob).cell? ⟨w.heap.size + 12, 0, none⟩ = some (.func (.func 78) #[] #[]) := fun ob => cc ob 12 _ _ 0 _ (by omega) rfl rfl
 have n1 : ∀ ob, (W.alloc ob).cell? ⟨w.heap.size + 12, 1, none⟩ = some (.func (.func 79) #[] #[]) := fun ob => cc ob 12 _ _ 1 _ (by omega) rfl rfl
 have HW := hidO (p := OpsW w W) ⟨hs, fun i hi => by rw [hat i, if_pos hi], by rw [hW]; exact below_push _ (Below.refl _ _) (Nat.le_refl _)⟩
 clear hW hs hat hold hob cc
 rw [run_makeMap]; simp only [Result.andThen_ok]
 go_wp2
 rw [put_int rfl (by rfl)]; simp only [Result.andThen_ok]
 go_wp2
 rw [put_int rfl (by rfl)]; simp only [Result.andThen_ok]
 rcases (show k = 1 ∨ k = 2 ∨ k = 3 ∨ k = 4 ∨ k = 5 ∨ k = 6 ∨ k = 7 ∨ k = 8 ∨ k = 9 ∨ k = 10 ∨ (k ≠ 1 ∧ k ≠ 2 ∧ k ≠ 3 ∧ k ≠ 4 ∧ k ≠ 5 ∧ k ≠ 6 ∧ k ≠ 7 ∧ k ≠ 8 ∧ k ≠ 9 ∧ k ≠ 10) by omega) with rfl | rfl | rfl | rfl | rfl | rfl | rfl | rfl | rfl | rfl | hk
 ·by_cases ho : o = 0
  ·subst ho
   go_wp2
   rw [look_int (show (W.heap.push _)[W.heap.size]? = _ from Array.getElem?_push_size) rfl]; simp only [Result.andThen_ok]
   go_wp2
   go_ret
   exact ops_end HW.out [_] rfl rfl (dss := [[_, _], [_, _]]) rfl fun H => ⟨H.reg (i := 0) (by omega) rfl, H.reg (i := 6) (by omega) rfl, trivial⟩
  ·go_wp2
   rw [look_int (show (W.heap.push _)[W.heap.size]? = _ from Array.getElem?_push_size) rfl]; simp only [Result.andThen_ok]
   go_wp2
   go_ret
   have e : opsR 1 o = [opA, opB, opC] := by simp [opsR, ho]
   unfold OpsPost
   rw [e]
   exact ops_end HW.out [_] rfl rfl (dss := [[_, _], [_, _], [_, _]]) rfl fun H => ⟨H.reg (i := 0) (by omega) rfl, H.reg (i := 3) (by omega) rfl, H.reg (i := 6) (by omega) rfl, trivial⟩
 ·by_cases ho : o = 0
  ·subst ho
   go_wp2
   rw [look_int (show (W.heap.push _)[W.heap.size]? = _ from Array.getElem?_push_size) rfl]; simp only [Result.andThen_ok]
   go_wp2
   go_ret
   exact ops_end HW.out [_] rfl rfl (dss := [[_, _], [_, _]]) rfl fun H => ⟨H.reg (i := 0) (by omega) rfl, H.num, trivial⟩
  ·go_wp2
   rw [look_int (show (W.heap.push _)[W.heap.size]? = _ from Array.getElem?_push_size) rfl]; simp only [Result.andThen_ok]
   go_wp2
   go_ret
   have e : opsR 2 o = [opA, opB, opE] := by simp [opsR, ho]
   unfold OpsPost
   rw [e]
   exact ops_end HW.out [_] rfl rfl (dss := [[_, _], [_, _], [_, _]]) rfl fun H => ⟨H.reg (i := 0) (by omega) rfl, H.reg (i := 3) (by omega) rfl, H.num, trivial⟩
 ·go_wp2
  go_ret
  exact ops_end HW.out [_] rfl rfl (dss := [[_, _]]) rfl fun H => ⟨H.reg (i := 0) (by omega) rfl, trivial⟩
 ·go_wp2
  go_ret
  exact ops_end HW.out [_] rfl rfl (dss := [[_, _]]) rfl fun H => ⟨H.reg (i := 0) (by omega) rfl, trivial⟩
 ·go_wp2
  go_ret
  exact ops_end HW.out [_] rfl rfl (dss := [[_, _], [_, _], [_, _]]) rfl fun H => ⟨H.reg (i := 0) (by omega) rfl, H.reg (i := 3) (by omega) rfl, H.num, trivial⟩
 ·go_wp2
  go_ret
  exact ops_end HW.out [_] rfl rfl (dss := [[_, _]]) rfl fun H => ⟨H.reg (i := 6) (by omega) rfl, trivial⟩
 ·go_wp2
  go_ret
  exact ops_end HW.out [_] rfl rfl (dss := [[_, _]]) rfl fun H => ⟨H.num, trivial⟩
 ·go_wp2_with fail
  have mixed : SP.follows .mixedOrders = true := by kernel_rfl
  refine wp_region_any (by kernel_rfl) ?_
  change wpAny _ _ _ _ _ _ _ (World.drew (W.alloc _))
  refine wpAny_ready (rs := [0, 1]) (by kernel_rfl) (by simp) ?_
  refine AllReady.cons rfl (fun K hK => ?_) (AllReady.cons rfl (fun K hK => ?_) AllReady.nil)
  ·rw [if_pos (by rfl)]
   refine (wp_value (ld_drew (a0 _) (a1 _) (by rfl) (by rfl)) (hK _ _ ?_))
   clear hK K
   refine wpAny_ready (rs := [1]) (by kernel_rfl) (by simp) ?_
   refine AllReady.cons rfl (fun K hK => ?_) AllReady.nil
   rw [if_pos (by rfl)]
   refine (num_op (by rfl) (hK _ _ ?_))
   clear hK K
   refine wpAny_ready (rs := [2]) (by kernel_rfl) (by simp) ?_
   refine AllReady.cons rfl (fun K hK => ?_) AllReady.nil
   rw [if_pos (by rfl)]
   go_simp
   refine hK _ _ ?_
   clear hK K
   refine wpAny_ready (rs := [3]) (by kernel_rfl) (by simp) ?_
   refine AllReady.cons rfl (fun K hK => ?_) AllReady.nil
   rw [if_pos (by rfl)]
   go_simp
   refine hK _ _ ?_
   clear hK K
   refine wpAny_done (by kernel_rfl) ?_ _
   go_wp2
   go_ret
   have e : (W.alloc (.map #[{ key := .int .i64 1, val := .agg #[.func (.func 119) #[] #[.pointer (some ⟨w.heap.size + 6, 0, none⟩)], .func (.func 120) #[] #[.pointer (some ⟨w.heap.size + 6, 0, none⟩)]], born := 0 }, { key := .int .i64 2, val := .agg #[.func (.func 121) #[] #[.pointer (some ⟨w.heap.size + 9, 0, none⟩)], .func (.func 123) #[] #[.pointer (some ⟨w.heap.size + 9, 0, none⟩)]], born := 1 }] 2)).drew.heap.size = W.heap.size + 1 := sz W _
   simp only [opW, e]
   exact ops_end8 HW.out o _
  ·rw [if_pos (by rfl)]
   refine (num_op (by rfl) (hK _ _ ?_))
   clear hK K
   refine wpAny_ready (rs := [0]) (by kernel_rfl) (by simp) ?_
   refine AllReady.cons rfl (fun K hK => ?_) AllReady.nil
   rw [if_pos (by rfl)]
   refine (wp_value (ld_op (cell_old2 (a0 _) (by have := HW.out.size; simp; omega)) (cell_old2 (a1 _) (by have := HW.out.size; simp; omega)) (by rfl) (by rfl)) (hK _ _ ?_))
   clear hK K
   refine wpAny_ready (rs := [2]) (by kernel_rfl) (by simp) ?_
   refine AllReady.cons rfl (fun K hK => ?_) AllReady.nil
   rw [if_pos (by rfl)]
   go_simp
   refine hK _ _ ?_
   clear hK K
   refine wpAny_ready (rs := [3]) (by kernel_rfl) (by simp) ?_
   refine AllReady.cons rfl (fun K hK => ?_) AllReady.nil
   rw [if_pos (by rfl)]
   go_simp
   refine hK _ _ ?_
   clear hK K
   refine wpAny_done (by kernel_rfl) ?_ _
   go_wp2
   go_ret
   exact ops_end8 HW.out o _
 ·go_wp2
  go_ret
  exact ops_end HW.out [_] rfl rfl (dss := [[_, _]]) rfl fun H => ⟨H.num, trivial⟩
 ·go_wp2
  go_ret
  exact ops_end HW.out [_] rfl rfl (dss := [[_, _]]) rfl fun H => ⟨rd_nam, trivial⟩
 ·obtain ⟨h1, h2, h3, h4, h5, h6, h7, h8, h9, h10⟩ := hk
  go_wp2
  go_ret
  have e : opsR k o = [] := by simp [opsR, h1, h2, h3, h4, h5, h6, h7, h8, h9, h10]
  unfold OpsPost
  rw [e]
  obtain ⟨_, hb⟩ := HW.out.at2 [_]
  exact ⟨hb, _, rfl, none, 0, rfl, Nat.le_refl _, fun i x hx => by simp at hx⟩
end
end Rv
namespace Rv
open Go Go.RowKit Go.Proofs
noncomputable section
set_option maxRecDepth 1000000
theorem occ_one {c : UInt8} (s : Str) (i : Nat) : Lib.occAt s [c] i = true ↔ s[i]? = some c := by
 unfold Lib.occAt
 have hh : s[i]? = (s.drop i).head? := by rw [List.head?_drop]
 rw [hh]
 cases s.drop i with
 | nil => exact ⟨fun h => (by cases h), fun h => (by cases h)⟩
 | cons b t =>
  show (c == b && true) = true ↔ some b = some c
  rw [Bool.and_true, beq_iff_eq, Option.some.injEq]
  exact ⟨Eq.symm, Eq.symm⟩
theorem splitR_none {c : UInt8} : ∀ (s : Str), (∀ j : Nat, s[j]? ≠ some c) → L.splitR c s = [s]
 | [], _ => rfl
 | b :: s, h => by
  have h0 := h 0
  have hb : ¬ b = c := fun e => h0 (by simp [e])
  unfold L.splitR
  rw [if_neg hb, splitR_none s fun j => by have := h (j + 1); simpa using this]
theorem splitR_first {c : UInt8} : ∀ (i : Nat) (s : Str), s[i]? = some c → (∀ j : Nat, j < i → s[j]? ≠ some c) → L.splitR c s = s.take i :: L.splitR c (s.drop (i + 1))
 | _, [], h, _ => by simp at h
 | 0, b :: s, h, _ => by
  simp only [List.getElem?_cons_zero, Option.some.injEq] at h
  subst h
  show (if b = b then [] :: L.splitR b s else _) = _
  rw [if_pos rfl]; rfl
 | i + 1, b :: s, h, hn => by
  have hb : ¬ b = c := fun e => hn 0 (by omega) (by simp [e])
  have ih := splitR_first i s (by simpa using h) fun j hj => by have := hn (j + 1) (by omega); simpa using this
  show (if b = c then [] :: L.splitR c s else _) = _
  rw [if_neg hb, ih]
  rfl
theorem split_eq (c : UInt8) : ∀ (n : Nat) (s : Str), s.length ≤ n → Lib.splitK [c] 0 (Lib.count s [c]) s = L.splitR c s := by
 intro n
 induction n with
 | zero =>
  intro s hs
  obtain rfl : s = [] := List.length_eq_zero_iff.1 (by omega)
  rcases Lib.index_spec ([] : Str) [c] with ⟨h1, _⟩ | ⟨i, _, hi, ho, _⟩
  ·rw [Lib.count_miss h1]; rfl
  ·exact absurd ((occ_one _ _).1 ho) (by simp)
 | succ n ih =>
  intro s hs
  rcases Lib.index_spec s [c] with ⟨h1, h2⟩ | ⟨i, h1, hi, ho, hno⟩
  ·rw [Lib.count_miss h1, splitR_none s fun j hj => ?_]
   ·rfl
   ·have hlt := (List.getElem?_eq_some_iff.1 hj).1
    have := h2 j (by omega)
    rw [(occ_one s j).2 hj] at this
    cases this
  ·have hc := (occ_one s i).1 ho
   have hlt := (List.getElem?_eq_some_iff.1 hc).1
   rw [Lib.count_hit (by simp) h1, Nat.add_comm 1, splitR_first i s hc fun j hj e => ?_]
   ·show (if Lib.index s [c] == -1 then [s] else s.take ((Lib.index s [c]).toNat + 0) :: Lib.splitK [c] 0 (Lib.count (s.drop (i + 1)) [c]) (s.drop ((Lib.index s [c]).toNat + 1))) = _
    have hm : ¬ (Lib.index s [c] == -1) = true := fun e => by have := beq_iff_eq.1 e; omega
    rw [if_neg hm, h1, Int.toNat_natCast, Nat.add_zero, ih _ (by rw [List.length_drop]; omega)]
   ·have := hno j hj
    rw [(occ_one s j).2 e] at this
    cases this
theorem join_none (a : Option Addr) (c : Nat) (sep : ByteArray) (w : World) : Calls Tryz.prog 52 #[.slice a 0 c, .string sep] w fun e w' => e = .returned (.string ⟨#[]⟩) ∧ w' = w := by
 go_enter Tryz.func52, Tryz.ntmps52
 go_wp2
 go_ret
 exact ⟨rfl, rfl⟩
theorem join_one (bk o c : Nat) (x sep : ByteArray) (w : World) (hc : w.cell? ⟨bk, o, none⟩ = some (.string x)) : Calls Tryz.prog 52 #[.slice (some ⟨bk, o, none⟩) 1 c, .string sep] w fun e w' => e = .returned (.string x) ∧ w' = w := by
 go_enter Tryz.func52, Tryz.ntmps52
 go_wp2
 go_ret
 exact ⟨rfl, rfl⟩
set_option maxHeartbeats 16000000 in
theorem join_many (bk o c : Nat) (xs : List ByteArray) (sep : ByteArray) (w : World)
  (hcells : ∀ (j : Nat) x, xs[j]? = some x → w.cell? ⟨bk, o + j, none⟩ = some (.string x))
  (hbk : bk < w.heap.size) (h2 : 2 ≤ xs.length) (hN : xs.length ≤ 140737488355328) (hcap : xs.length ≤ c)
  (hlen : (Lib.join (xs.map (·.data.toList)) sep.data.toList).length ≤ 140737488355328) :
  Calls Tryz.prog 52 #[.slice (some ⟨bk, o, none⟩) xs.length c, .string sep] w fun e w' => e = .returned (.string ⟨(Lib.join (xs.map (·.data.toList)) sep.data.toList).toArray⟩) ∧ Below w.heap.size w w' := by
 have HC := hidR hcells
 clear hcells
 obtain ⟨x0, r, hxs⟩ : ∃ x0 r, xs = x0 :: r := by
  cases xs with
  | nil => simp at h2
  | cons a t => exact ⟨a, t, rfl⟩
 have hjl : sep.size * (xs.length - 1) + Lib.lens (xs.map (·.data.toList)) ≤ 140737488355328 := by
  have := Lib.join_length x0.data.toList (r.map (·.data.toList)) sep.data.toList
  rw [hxs] at hlen ⊢
  simp only [List.map_cons] at hlen ⊢
  rw [this, List.length_map] at hlen
  rw [Lib.size_eq, List.length_cons, Nat.add_sub_cancel]
  exact hlen
 have hmul : sep.size * (xs.length - 1) ≤ 140737488355328 := by omega
 generalize hM : sep.size * (xs.length - 1) = M at hjl hmul
 have hcast : ((xs.length : Int) - 1) = ((xs.length - 1 : Nat) : Int) := by omega
 have hlt : sep.size < 9223372036854775807 / (xs.length - 1) := by
  have : sep.size + 1 ≤ 9223372036854775807 / (xs.length - 1) := by
   rw [Nat.le_div_iff_mul_le (by omega), Nat.add_mul, hM]
   omega
  omega
 have hdv : ¬ (9223372036854775807 / ((xs.length : Int) - 1) ≤ (sep.size : Int)) := by
  have e : (9223372036854775807 : Int) / ((xs.length - 1 : Nat) : Int) = ((9223372036854775807 / (xs.length - 1) : Nat) : Int) := IntWalk.up_div (x := 9223372036854775807) rfl rfl
  rw [hcast, e]
  generalize 9223372036854775807 / (xs.length - 1) = q at hlt
  omega
 have hprod : wrap64 ((sep.size : Int) * ((xs.length : Int) - 1)) = (M : Int) := by
  have e : (sep.size : Int) * ((xs.length - 1 : Nat) : Int) = ((sep.size * (xs.length - 1) : Nat) : Int) := IntWalk.up_mul rfl rfl
  rw [hcast, e, hM]
  exact IntWalk.wrap64_in _ ⟨by omega, by omega⟩
 have hM0 : sep.size = 0 → M = 0 := fun h => by rw [← hM, h, Nat.zero_mul]
 clear hlt hcast
 have hne0 : ((xs.length : Int) == 0) = false := beq_eq_false_iff_ne.2 (by omega)
 have hne1 : ((xs.length : Int) == 1) = false := beq_eq_false_iff_ne.2 (by omega)
 have Hxs := hidR hxs
 have Hlen := hidR hlen
 clear hxs hlen
 go_enter Tryz.func52, Tryz.ntmps52
 go_wp2_with fail
 all_goals (
  go_loop [5, 41] (fun n i => ∃ k : Nat, k ≤ xs.length ∧ i = .int .i64 k ∧ n = .int .i64 ((M + Lib.lens ((xs.map (·.data.toList)).take k) : Nat) : Int)) (fun _ i => xs.length - (intOf i).toNat)
  case atStart => exact ⟨0, Nat.zero_le _, rfl, by first | (simp [Lib.lens]; done) | (have := hM0 (by omega); simp [Lib.lens, this])⟩
  case round =>
   obtain ⟨k, hk, rfl, rfl⟩ := hrel
   by_cases hkn : k < xs.length
   ·obtain ⟨x, hx⟩ : ∃ x, xs[k]? = some x := ⟨xs[k], List.getElem?_eq_getElem hkn⟩
    have hc := HC.out k x hx
    have hstep := Lib.lens_take_succ (xs.map (·.data.toList)) k x.data.toList (by simp [hx])
    have hbound : Lib.lens ((xs.map (·.data.toList)).take (k + 1)) ≤ Lib.lens (xs.map (·.data.toList)) := Lib.lens_take_le _ _
    rw [← Lib.size_eq] at hstep
    generalize hA1 : Lib.lens ((xs.map (·.data.toList)).take (k + 1)) = A1 at hstep hbound
    generalize Lib.lens ((xs.map (·.data.toList)).take k) = A0 at hstep
    have HA1 := hidR hA1
    clear hA1
    go_wp2
    exact ⟨⟨k + 1, by omega, by go_num, by rw [HA1.out]; refine congrArg _ ?_; omega⟩, by simp [intOf]; omega⟩
   ·have hke : k = xs.length := by omega
    subst hke
    have hall : (xs.map (·.data.toList)).take xs.length = xs.map (·.data.toList) := List.take_of_length_le (by simp)
    rw [hall]
    generalize hT : Lib.lens (xs.map (·.data.toList)) = T at hjl
    have HT := hidR hT
    clear hT hall
    go_wp2_with fail
    have hMT : ((M : Int) + (T : Int)) = ((M + T : Nat) : Int) := by omega
    rw [hMT]
    refine (grow_k w.heap.size w.heap.size (M + T) _ (Nat.le_refl _) (heap_alloc_new w _) (by simp) (by omega)).mono ?_
    rintro e w1 ⟨rfl, h1, hb1⟩
    have hb1' : Below w.heap.size w w1 := ((Below.refl w.heap.size w).alloc (Nat.le_refl _) _).trans hb1
    have hx0 : xs[0]? = some x0 := by rw [Hxs.out]; rfl
    have hc0 : w1.cell? ⟨bk, o, none⟩ = some (.string x0) := by
     rw [hb1'.cell (p := ⟨bk, o, none⟩) hbk]
     exact HC.out 0 x0 hx0
    have H1 := hidR (Lib.IsBuilderF.of (Or.inr h1 : Lib.IsBuilder TB TU w.heap.size w.heap.size [] w1))
    have Hb1 := hidR hb1'
    have hBw1 : w.heap.size ≤ w1.heap.size := hb1'.size
    clear h1 hb1 hb1' hMT
    have hwhole : Lib.join (xs.map (·.data.toList)) sep.data.toList = x0.data.toList ++ Lib.joinTail sep.data.toList (r.map (·.data.toList)) := by
     rw [Hxs.out, List.map_cons, Lib.join_cons]
    have hCle : ∀ k, (x0.data.toList ++ Lib.joinTail sep.data.toList ((r.map (·.data.toList)).take k)).length ≤ 140737488355328 := fun k => by
     have h1 := Hlen.out
     rw [hwhole, List.length_append] at h1
     have h2 := Lib.joinTail_take_le sep.data.toList (r.map (·.data.toList)) k
     rw [List.length_append]
     omega
    have HCle := hidR hCle
    have Hwhole := hidR hwhole
    clear hCle hwhole
    go_wp2_with fail
    refine (writeS w.heap.size w.heap.size [] x0 w1 H1.out (by have := HCle.out 0; simp [Lib.joinTail] at this ⊢; omega) hBw1).mono ?_
    rintro e w2 ⟨rfl, h2', hb2⟩
    have hstart : ([] : List Value) ++ Lib.strCells x0 = Lib.byteCells (x0.data.toList ++ Lib.joinTail sep.data.toList ((r.map (·.data.toList)).take 0)) := by
     simp [Lib.joinTail, Lib.strCells_eq]
    rw [hstart] at h2'
    have H2 := hidR h2'
    have Hb2 := hidR (Hb1.out.trans hb2)
    clear h2' hb2 hstart
    have hrl : r.length = xs.length - 1 := by rw [Hxs.out]; simp
    go_wp2_with fail
    go_loopw [65] (fun i wr => ∃ k : Nat, k ≤ r.length ∧ i = .int .i64 k ∧ Hid (Lib.IsBuilderF TB TU w.heap.size w.heap.size (Lib.byteCells (x0.data.toList ++ Lib.joinTail sep.data.toList ((r.map (·.data.toList)).take k))) wr) ∧ Hid (Below w.heap.size w wr)) (fun i _ => r.length - (intOf i).toNat)
    case atStart => exact ⟨0, Nat.zero_le _, rfl, H2, Hb2⟩
    case round =>
     obtain ⟨k, hk', rfl, HB, HW⟩ := hrel
     by_cases hkr : k < r.length
     ·obtain ⟨y, hy⟩ : ∃ y, r[k]? = some y := ⟨r[k], List.getElem?_eq_getElem hkr⟩
      have hxy : xs[k + 1]? = some y := by rw [Hxs.out]; simpa using hy
      have hcy : wr.cell? ⟨bk, o + 1 + k, none⟩ = some (.string y) := by
       rw [HW.out.cell (p := ⟨bk, o + 1 + k, none⟩) hbk, show o + 1 + k = o + (k + 1) by omega]
       exact HC.out (k + 1) y hxy
      have hBw : w.heap.size ≤ wr.heap.size := HW.out.size
      have hnext : Lib.byteCells (x0.data.toList ++ Lib.joinTail sep.data.toList ((r.map (·.data.toList)).take k)) ++ Lib.strCells sep ++ Lib.strCells y = Lib.byteCells (x0.data.toList ++ Lib.joinTail sep.data.toList ((r.map (·.data.toList)).take (k + 1))) := by
       rw [Lib.joinTail_take_succ sep.data.toList (r.map (·.data.toList)) k y.data.toList (by simp [hy]), Lib.strCells_eq, Lib.strCells_eq, ← Lib.byteCells_append, ← Lib.byteCells_append, List.append_assoc, List.append_assoc, List.append_assoc]
      have hl1 := HCle.out (k + 1)
      rw [Lib.joinTail_take_succ sep.data.toList (r.map (·.data.toList)) k y.data.toList (by simp [hy])] at hl1
      simp only [List.length_append, ← Lib.size_eq] at hl1
      have hl0 : (Lib.byteCells (x0.data.toList ++ Lib.joinTail sep.data.toList ((r.map (·.data.toList)).take k))).length = x0.size + (Lib.joinTail sep.data.toList ((r.map (·.data.toList)).take k)).length := by
       rw [Lib.byteCells_length, List.length_append, ← Lib.size_eq]
      generalize (Lib.joinTail sep.data.toList ((r.map (·.data.toList)).take k)).length = J at hl0 hl1
      have Hn := hidR hnext
      clear hnext hy hxy
      go_wp2_with fail
      refine (writeS w.heap.size w.heap.size _ sep wr HB.out (by rw [hl0]; omega) hBw).mono ?_
      rintro e w3 ⟨rfl, h3, hb3⟩
      have hBw3 : w.heap.size ≤ w3.heap.size := Nat.le_trans hBw hb3.size
      have H3 := hidR h3
      have Hb3 := hidR hb3
      clear h3 hb3
      go_wp2_with fail
      refine (writeS w.heap.size w.heap.size _ y w3 H3.out (by rw [List.length_append, hl0, Lib.strCells_length]; omega) hBw3).mono ?_
      rintro e w4 ⟨rfl, h4, hb4⟩
      rw [Hn.out] at h4
      have H4 := hidR h4
      have Hb4 := hidR ((HW.out.trans Hb3.out).trans hb4)
      clear h4 hb4
      go_wp2
      exact ⟨⟨k + 1, by omega, by go_num, H4, Hb4⟩, by simp [intOf]; omega⟩
     ·have hke : k = r.length := by omega
      subst hke
      have hfull : (r.map (·.data.toList)).take r.length = r.map (·.data.toList) := List.take_of_length_le (by simp)
      have hB' := HB.out
      rw [hfull, ← Hwhole.out] at hB'
      have hBw : w.heap.size ≤ wr.heap.size := HW.out.size
      go_wp2_with fail
      refine (Tryz.Builder_String_any_k w.heap.size w.heap.size _ wr hB' hBw).mono ?_
      rintro e w5 ⟨rfl, _, hb5, _⟩
      have Hb5 := hidR (HW.out.trans hb5)
      clear hb5 hB'
      go_wp2
      go_ret
      exact ⟨rfl, Hb5.out⟩)
theorem sjoin_eq (sep : Str) : ∀ xs : List Str, Lib.join xs sep = L.sjoinR sep xs
 | [] => rfl
 | x :: r => by rw [Lib.join_cons]; rfl
theorem list_mkS (s : Str) : (mkS s).data.toList = s := rfl
theorem mk_list (xs : List Str) : (xs.map mkS).map (·.data.toList) = xs := by
 rw [List.map_map]
 refine (List.map_congr_left fun a _ => ?_).trans (List.map_id xs)
 exact list_mkS a
theorem sjoin_walk (xs : List Str) (sep : Str) (v : Value) (w : World) (hv : SlOf w .str xs v) (h1 : (L.sjoinR sep xs).length ≤ 140737488355328) (h2 : xs.length ≤ 140737488355328) :
  Calls Tryz.prog 52 #[v, .string (mkS sep)] w fun e w' => e = .returned (.string (mkS (L.sjoinR sep xs))) ∧ Below w.heap.size w w' := by
 obtain ⟨A, c, rfl, hc, hx⟩ := hv
 match xs, hx, hc, h1, h2 with
 | [], _, _, _, _ => exact (join_none A c (mkS sep) w).mono fun e w' ⟨h, hw⟩ => ⟨h, by rw [hw]; exact Below.refl _ _⟩
 | [x], hx, _, _, _ =>
  obtain ⟨g, o, ds, rfl, hg, hd, hat⟩ := hx 0 x rfl
  have hd : ds = [.string (mkS x)] := hd
  subst hd
  have := hat 0 _ rfl
  refine (join_one g o c (mkS x) (mkS sep) w (by simpa using this)).mono fun e w' ⟨h, hw⟩ => ⟨?_, by rw [hw]; exact Below.refl _ _⟩
  rw [h]; simp [L.sjoinR]
 | x :: y :: r, hx, hc, h1, h2 =>
  obtain ⟨g, o, _, rfl, hg, _, _⟩ := hx 0 x rfl
  have hl : ((x :: y :: r).map mkS).length = (x :: y :: r).length := List.length_map _
  have := join_many g o c ((x :: y :: r).map mkS) (mkS sep) w (fun j z hz => by
   rw [List.getElem?_map] at hz
   obtain ⟨a, ha, rfl⟩ := Option.map_eq_some_iff.1 hz
   obtain ⟨g', o', ds, e, _, hd, hat⟩ := hx j a ha
   simp only [Option.some.injEq, Addr.mk.injEq, and_true] at e
   obtain ⟨rfl, rfl⟩ := e
   have hd : ds = [.string (mkS a)] := hd
   subst hd
   have := hat 0 _ rfl
   simpa [Ty.size] using this) hg (by simp) (by rw [hl]; exact h2) (by rw [hl]; exact hc) (by rw [mk_list, list_mkS, sjoin_eq]; exact h1)
  rw [hl] at this
  refine this.mono fun e w' ⟨h, hw⟩ => ⟨?_, hw⟩
  rw [h, mk_list, list_mkS, sjoin_eq]; rfl
theorem split_walk (s : Str) (c : UInt8) (m : Int) (w : World) (hs : s.length < 4294967281) (hm : w.cell? ⟨0, 0, none⟩ = some (.int .i64 m)) :
  Calls Tryz.prog 33 #[.string (mkS s), .string (mkS [c])] w fun e w' => Below w.heap.size w w' ∧ ∃ v, e = .returned v ∧ Rd w' (fun g => w.heap.size ≤ g) (.sl .str) (L.splitR c s) [v] := by
 refine (Tryz.strings_Split (mkS s) (mkS [c]) m w hs hm (Nat.le_refl 1)).mono ?_
 rintro e w' ⟨rfl, rfl⟩
 have hd := Lib.splitB_data (mkS [c]) 0 (Lib.countB (mkS s) (mkS [c])) (mkS s)
 have hd2 : (Lib.splitB (mkS [c]) 0 (Lib.countB (mkS s) (mkS [c])) (mkS s)).map (·.data.toList) = L.splitR c s := by
  rw [hd, ← split_eq c s.length s (Nat.le_refl _), list_mkS, list_mkS]
  rfl
 have hl : Lib.countB (mkS s) (mkS [c]) + 1 = (L.splitR c s).length := by
  rw [← hd2, List.length_map]
  exact (Lib.splitB_all (mkS [c]) (Nat.le_refl 1) 0 _ (mkS s) rfl).symm
 refine ⟨(Below.refl _ _).alloc (Nat.le_refl _) _, _, rfl, rd_row (t := .str) (dss := (L.splitR c s).map fun x => [.string (mkS x)]) (by show (w.heap.push _)[_]? = _; exact Array.getElem?_push_size) (Nat.le_refl _) ?_ ?_ hl⟩
 ·generalize L.splitR c s = l
  induction l with
  | nil => trivial
  | cons a l ih => exact ⟨rfl, ih⟩
 ·rw [← hd2]
  generalize Lib.splitB (mkS [c]) 0 (Lib.countB (mkS s) (mkS [c])) (mkS s) = l
  induction l with
  | nil => rfl
  | cons a l ih => simpa [mkS] using ih
end
end Rv
namespace Rv
open Go Go.RowKit Go.Proofs
noncomputable section
set_option maxRecDepth 100000
noncomputable def P : Program := Tryz.prog
theorem mixed : P.follows .mixedOrders = true := by kernel_rfl
abbrev LQ := Nat → Nat
structure LW (ad : LQ) (w : World) : Prop where
 errSyntax : ∃ te pe, w.cell? ⟨2, 0, none⟩ = some (.iface te pe)
 errRange : ∃ te pe, w.cell? ⟨3, 0, none⟩ = some (.iface te pe)
 pow10 : Lib.TabIs P w "internal/strconv.uint64pow10" .u64 Lib.pow10Tab
 maxLen : ∃ m, w.cell? ⟨0, 0, none⟩ = some (.int .i64 m)
 kinds : MapVar w 7 (ad 0) .i64 (mapAt L.kindsRow)
 asciiSpace : Lib.TabIs P w "strings.asciiSpace" .u8 Lib.asciiSpaceTab
variable {ad : LQ}
theorem LW.stable {w : World} (h : LW ad w) (a b : World) (ha : LW ad a) (hb : ∀ g, g < w.heap.size → b.heap[g]? = a.heap[g]?) : LW ad b where
 errSyntax := keepI h.errSyntax ha.errSyntax hb
 errRange := keepI h.errRange ha.errRange hb
 pow10 := keepTab h.pow10 ha.pow10 hb
 maxLen := keepN h.maxLen ha.maxLen hb
 kinds := keepMap h.kinds ha.kinds hb
 asciiSpace := keepTab h.asciiSpace ha.asciiSpace hb
namespace strings_IndexByte
noncomputable def sp : Spec := ⟨⟨[(0, .c .str), (1, .c (.int .u8))], []⟩, ⟨[(0, .c (.int .i64))], []⟩, fun x => some (L.indexByte x.1 x.2.1, ())⟩
theorem enter : Enterable P 40 := enter_of (by kernel_rfl)
theorem sat : Sat P (LW ad) 40 sp := sat_plain (la := [.str, .int .u8]) (lr := [.int .i64]) rfl rfl rfl rfl fun x y h w _ => by
 have h : some (L.indexByte x.1 x.2.1, ()) = some y := h
 obtain rfl := Option.some.inj h
 refine (Tryz.strings_IndexByte (mkS x.1) x.2.1 w).mono ?_
 rintro e w' ⟨rfl, rfl⟩
 exact ⟨Below.refl _ _, #[_], rfl, rfl, trivial⟩
end strings_IndexByte
namespace strings_CutPrefix
noncomputable def sp : Spec := ⟨⟨[(0, .c .str), (1, .c .str)], []⟩, ⟨[(0, .c .str), (1, .c .bool)], []⟩, fun x => some (L.cutRest x.1 x.2.1, L.cutIs x.1 x.2.1, ())⟩
theorem enter : Enterable P 67 := enter_of (by kernel_rfl)
theorem sat : Sat P (LW ad) 67 sp := sat_plain (la := [.str, .str]) (lr := [.str, .bool]) rfl rfl rfl rfl fun x y h w _ => by
 have h : some (L.cutRest x.1 x.2.1, L.cutIs x.1 x.2.1, ()) = some y := h
 obtain rfl := Option.some.inj h
 refine (Tryz.strings_CutPrefix (mkS x.1) (mkS x.2.1) w).mono ?_
 rintro e w' ⟨rfl, rfl⟩
 exact ⟨Below.refl _ _, #[_, _], rfl, rfl, rfl, trivial⟩
end strings_CutPrefix
namespace strings_Contains
noncomputable def sp : Spec := ⟨⟨[(0, .c .str), (1, .c .str)], []⟩, ⟨[(0, .c .bool)], []⟩, fun x => L.containsO x.1 x.2.1⟩
theorem enter : Enterable P 68 := enter_of (by kernel_rfl)
theorem sat : Sat P (LW ad) 68 sp := sat_plain (la := [.str, .str]) (lr := [.bool]) rfl rfl rfl rfl fun x y h w hw => by
 have h : L.containsO x.1 x.2.1 = some y := h
 unfold L.containsO at h
 split at h
 ·rename_i hs
  obtain rfl := Option.some.inj h
  obtain ⟨m, hm⟩ := hw.maxLen
  refine (Tryz.strings_Contains (mkS x.1) (mkS x.2.1) m w hs hm).mono ?_
  rintro e w' ⟨rfl, rfl⟩
  exact ⟨Below.refl _ _, #[_], rfl, rfl, trivial⟩
 ·cases h
end strings_Contains
namespace strconv_Itoa
noncomputable def sp : Spec := ⟨⟨[(0, .c (.int .i64))], []⟩, ⟨[(0, .c .str)], []⟩, fun x => L.itoaO x.1⟩
theorem enter : Enterable P 87 := enter_of (by kernel_rfl)
theorem sat : Sat P (LW ad) 87 sp := sat_plain (la := [.int .i64]) (lr := [.str]) rfl rfl rfl rfl fun x y h w hw => by
 have h : L.itoaO x.1 = some y := h
 unfold L.itoaO at h
 split at h
 ·rename_i hs
  obtain rfl := Option.some.inj h
  refine (Tryz.strconv_Itoa x.1 hs.1 hs.2 w hw.pow10).mono ?_
  rintro e w' ⟨rfl, k, os, rfl⟩
  exact ⟨Lib.below_grow _ _ (Nat.le_refl _) _ _, #[_], rfl, rfl, trivial⟩
 ·cases h
end strconv_Itoa
namespace strconv_toError
noncomputable def sp : Spec := ⟨⟨[(0, .c .str), (1, .c .str), (2, .c (.int .i64)), (3, .c (.int .i64)), (4, .c (.ifo 168 .i64))], []⟩, ⟨[(0, .c .err)], []⟩, fun x => L.toErrorO x.1 x.2.1 x.2.2.1 x.2.2.2.1 x.2.2.2.2.1⟩
theorem enter : Enterable P 107 := enter_of (by kernel_rfl)
theorem sat : Sat P (LW ad) 107 sp := sat_plain (la := [.str, .str, .int .i64, .int .i64, .ifo 168 .i64]) (lr := [.err]) rfl rfl rfl rfl fun x y h w hw => by
 have h : L.toErrorO x.1 x.2.1 x.2.2.1 x.2.2.2.1 x.2.2.2.2.1 = some y := h
 obtain ⟨x1, x2, x3, x4, x5, _⟩ := x
 simp only at h
 unfold L.toErrorO at h
 split at h
 ·rename_i hs
  obtain rfl := Option.some.inj h
  obtain ⟨h1, h2⟩ := hs
  rcases h2 with rfl | rfl
  ·obtain ⟨te, pe, hv⟩ := hw.errRange
   refine (Tryz.strconv_toError_range (mkS x1) (mkS x2) x3 x4 _ w h1 hv (.inr ⟨te, pe, rfl⟩)).mono ?_
   rintro e w' ⟨N, rfl, _, _, hb⟩
   exact ⟨hb, #[_], rfl, ⟨rfl, fun h => (by cases h), fun _ => ⟨_, _, rfl⟩⟩, trivial⟩
  ·obtain ⟨te, pe, hv⟩ := hw.errSyntax
   refine (Tryz.strconv_toError_syntax (mkS x1) (mkS x2) x3 x4 _ w h1 hv (.inr ⟨te, pe, rfl⟩)).mono ?_
   rintro e w' ⟨N, rfl, _, _, hb⟩
   exact ⟨hb, #[_], rfl, ⟨rfl, fun h => (by cases h), fun _ => ⟨_, _, rfl⟩⟩, trivial⟩
 ·cases h
end strconv_toError
namespace internal_strconv_underscoreOK
noncomputable def sp : Spec := ⟨⟨[(0, .c .str)], []⟩, ⟨[(0, .c .bool)], []⟩, fun x => L.underscoreO x.1⟩
theorem enter : Enterable P 153 := enter_of (by kernel_rfl)
theorem sat : Sat P (LW ad) 153 sp := fun x y h => (by cases h)
end internal_strconv_underscoreOK
theorem digs_isDig (b : UInt8) : ([48, 49, 50, 51, 52, 53, 54, 55, 56, 57] : List UInt8).contains b = L.isDig b := by
 have h : ∀ n : Nat, n < 256 → ([48, 49, 50, 51, 52, 53, 54, 55, 56, 57] : List UInt8).contains (UInt8.ofNat n) = L.isDig (UInt8.ofNat n) := by decide +kernel
 have := h b.toNat (UInt8.toNat_lt b)
 rwa [UInt8.ofNat_toNat] at this
theorem trimDig_eq (l : List UInt8) : Lib.trimS l [48, 49, 50, 51, 52, 53, 54, 55, 56, 57] = L.trimDig l := by
 have : (fun b : UInt8 => ([48, 49, 50, 51, 52, 53, 54, 55, 56, 57] : List UInt8).contains b) = L.isDig := funext digs_isDig
 unfold Lib.trimS Lib.trimLeftS Lib.trimRightS L.trimDig
 rw [this]
namespace strings_Trim
noncomputable def sp : Spec := ⟨⟨[(0, .c .str), (1, .c .str)], []⟩, ⟨[(0, .c .str)], []⟩, fun x => L.trimO x.1 x.2.1⟩
theorem enter : Enterable P 71 := enter_of (by kernel_rfl)
theorem sat : Sat P (LW ad) 71 sp := sat_plain (la := [.str, .str]) (lr := [.str]) rfl rfl rfl rfl fun x y h w hw => by
 have h : L.trimO x.1 x.2.1 = some y := h
 obtain ⟨x1, x2, _⟩ := x
 simp only at h
 unfold L.trimO at h
 split at h
 ·rename_i hs
  obtain rfl := Option.some.inj h
  obtain ⟨rfl, h2⟩ := hs
  refine (Any.strings_Trim_laid Tryz.lays160 (by kernel_rfl) (mkS x1) (mkS [48, 49, 50, 51, 52, 53, 54, 55, 56, 57]) w (by show x1.length ≤ _; omega) (by decide) (ascii_of_all (by decide))).mono ?_
  rintro e w' ⟨rfl, hb⟩
  exact ⟨hb, #[_], rfl, by show Value.string _ = _; rw [show (mkS x1).data.toList = x1 from rfl, show (mkS [48, 49, 50, 51, 52, 53, 54, 55, 56, 57]).data.toList = [48, 49, 50, 51, 52, 53, 54, 55, 56, 57] from rfl, trimDig_eq]; rfl, trivial⟩
 ·cases h
end strings_Trim
namespace internal_strconv_FormatUint
noncomputable def sp : Spec := ⟨⟨[(0, .c (.int .u64)), (1, .c (.int .i64))], []⟩, ⟨[(0, .c .str)], []⟩, fun x => L.formatUintO x.1 x.2.1⟩
theorem enter : Enterable P 203 := enter_of (by kernel_rfl)
theorem sat : Sat P (LW ad) 203 sp := sat_plain (la := [.int .u64, .int .i64]) (lr := [.str]) rfl rfl rfl rfl fun x y h w hw => by
 have h : L.formatUintO x.1 x.2.1 = some y := h
 obtain ⟨x1, x2, _⟩ := x
 simp only at h
 unfold L.formatUintO at h
 split at h
 ·rename_i hs
  obtain rfl := Option.some.inj h
  obtain ⟨rfl, h1, h2⟩ := hs
  obtain ⟨n, rfl⟩ : ∃ n : Nat, x1 = (n : Int) := ⟨Int.toNat x1, (Int.toNat_of_nonneg h1).symm⟩
  have h3 : (n : Int) ≤ 9223372036854775807 := h2
  refine (formatUint_10 n (by omega) w hw.pow10).mono ?_
  rintro e w' ⟨rfl, hb⟩
  exact ⟨hb, #[_], rfl, rfl, trivial⟩
 ·cases h
end internal_strconv_FormatUint
theorem kinds_eq (s : Str) : L.kinds s = mapAt L.kindsRow s := rfl
noncomputable def maps : Nat → TypeId → Option (Cell → Option (Cell × Bool)) := fun g t => if g = 7 ∧ t = 243 then some (fun c => match c with | .str s => some (.int .i64 (L.kinds s).1, (L.kinds s).2) | _ => none) else none
theorem maps_ok : MapsOk P (LW ad) maps := by
 intro g t F h
 unfold maps at h
 split at h
 case isFalse => cases h
 rename_i hg
 obtain ⟨rfl, rfl⟩ := hg
 obtain rfl := Option.some.inj h
 refine ⟨.map (some (ad 0)), rfl, fun w hw => ⟨hw.kinds.1, mapVar_load Tryz.underlying243 hw.kinds, fun kc kv p hks _ hF => ?_⟩⟩
 cases kc with
 | str s =>
  obtain rfl := hks s rfl
  have hF : some (Cell.int .i64 (L.kinds s).1, (L.kinds s).2) = some p := hF
  obtain rfl := Option.some.inj hF
  refine ⟨.int .i64 (L.kinds s).1, rfl, fun ok => ?_⟩
  rw [kinds_eq]
  exact mapVar_look Tryz.underlying243 Tryz.underlying9 (by kernel_rfl) hw.kinds s ok
 | _ => cases hF
namespace name_Of
noncomputable def sp : Spec := ⟨⟨[(0, .c .str)], []⟩, ⟨[(0, .c (.int .i64)), (1, .c (.int .i64)), (2, .c .bool), (3, .c .bool)], []⟩, fun x => L.nameOfO x.1⟩
theorem enter : Enterable P 43 := enter_of (by kernel_rfl)
theorem sat : Sat P (LW ad) 43 sp := sat_plain (la := [.str]) (lr := [.int .i64, .int .i64, .bool, .bool]) rfl rfl rfl rfl fun x y h w hw => by
 have h : L.nameOfO x.1 = some y := h
 unfold L.nameOfO at h
 obtain rfl := Option.some.inj h
 obtain ⟨m, hm⟩ := hw.maxLen
 refine (of_walk x.1 m w hm hw.asciiSpace).mono ?_
 rintro e w' ⟨rfl, hb⟩
 exact ⟨hb, #[_, _, _, _], rfl, rfl, rfl, rfl, rfl, trivial⟩
end name_Of
namespace name_Mnemonic
noncomputable def sp : Spec := ⟨⟨[(0, .c (.int .i64)), (1, .c (.int .i64)), (2, .c .bool)], []⟩, ⟨[(0, .c .str)], []⟩, fun x => L.mnemO x.1 x.2.1 x.2.2.1⟩
theorem enter : Enterable P 50 := enter_of (by kernel_rfl)
theorem sat : Sat P (LW ad) 50 sp := sat_plain (la := [.int .i64, .int .i64, .bool]) (lr := [.str]) rfl rfl rfl rfl fun x y h w hw => by
 have h : L.mnemO x.1 x.2.1 x.2.2.1 = some y := h
 obtain ⟨x1, x2, x3, _⟩ := x
 simp only at h
 unfold L.mnemO at h
 split at h
 ·rename_i hs
  obtain rfl := Option.some.inj h
  obtain ⟨m, hm⟩ := hw.maxLen
  refine (mnem_walk x1 x2 x3 ⟨WalkArith.wf_i64 (n := x1) ⟨by omega, by omega⟩, WalkArith.wf_i64 (n := x2) ⟨by omega, by omega⟩⟩ m w hm hw.asciiSpace).mono ?_
  rintro e w' ⟨rfl, hb⟩
  exact ⟨hb, #[_], rfl, rfl, trivial⟩
 ·cases h
end name_Mnemonic
theorem one_sl {w : World} {ok : Nat → Prop} {t : Ty} {xs : List t.D} {v : Value} (h : Rd w ok (.sl t) xs [v]) : v.oneCell' = true := h.one v (List.mem_singleton.2 rfl)
namespace stmt_operands
noncomputable def sp : Spec := ⟨⟨[(0, .c (.int .i64)), (1, .c (.int .i64))], []⟩, ⟨[(0, .c (.sl OT))], []⟩, fun x => some (opsR x.1 x.2.1, ())⟩
theorem enter : Enterable P 45 := enter_of (by kernel_rfl)
theorem sat : Sat P (LW ad) 45 sp := sat_free (la := [.int .i64, .int .i64]) (lr := [.sl OT]) rfl rfl rfl rfl fun x y h w vs hw hv => by
 have h : some (opsR x.1 x.2.1, ()) = some y := h
 obtain rfl := Option.some.inj h
 match vs, hv with
 | [a, b], ⟨ha, hb, _⟩ =>
  have ha : a = .int .i64 x.1 := ha
  have hb : b = .int .i64 x.2.1 := hb
  subst ha hb
  refine (ops_walk x.1 x.2.1 w).mono ?_
  rintro e w' ⟨hb, v, rfl, hr⟩
  exact ⟨hb, #[v], rfl, ⟨one_sl hr, hr⟩, trivial⟩
end stmt_operands
namespace strings_Join
noncomputable def sp : Spec := ⟨⟨[(0, .c (.sl .str)), (1, .c .str)], []⟩, ⟨[(0, .c .str)], []⟩, fun x => L.sjoinO x.1 x.2.1⟩
theorem enter : Enterable P 52 := enter_of (by kernel_rfl)
theorem sat : Sat P (LW ad) 52 sp := sat_args (la := [.sl .str, .str]) (lr := [.str]) rfl rfl rfl rfl fun x y h w vs hw hv => by
 have h : L.sjoinO x.1 x.2.1 = some y := h
 unfold L.sjoinO at h
 split at h
 ·rename_i hs
  obtain rfl := Option.some.inj h
  match vs, hv with
  | [a, b], ⟨ha, hb, _⟩ =>
   have hb : b = .string (mkS x.2.1) := hb
   subst hb
   refine (sjoin_walk x.1 x.2.1 a w ha hs.1 hs.2).mono ?_
   rintro e w' ⟨rfl, hb⟩
   exact ⟨hb, #[_], rfl, rfl, trivial⟩
 ·cases h
end strings_Join
namespace strings_Split
noncomputable def sp : Spec := ⟨⟨[(0, .c .str), (1, .c .str)], []⟩, ⟨[(0, .c (.sl .str))], []⟩, fun x => L.splitO x.1 x.2.1⟩
theorem enter : Enterable P 33 := enter_of (by kernel_rfl)
theorem sat : Sat P (LW ad) 33 sp := sat_free (la := [.str, .str]) (lr := [.sl .str]) rfl rfl rfl rfl fun x y h w vs hw hv => by
 have h : L.splitO x.1 x.2.1 = some y := h
 obtain ⟨x1, x2, _⟩ := x
 simp only at h
 unfold L.splitO at h
 split at h
 ·rename_i c _
  split at h
  ·rename_i hs
   obtain rfl := Option.some.inj h
   obtain ⟨m, hm⟩ := hw.maxLen
   match vs, hv with
   | [a, b], ⟨ha, hb, _⟩ =>
    have ha : a = .string (mkS x1) := ha
    have hb : b = .string (mkS [c]) := hb
    subst ha hb
    refine (split_walk x1 c m w hs hm).mono ?_
    rintro e w' ⟨hb, v, rfl, hr⟩
    exact ⟨hb, #[v], rfl, ⟨one_sl hr, hr⟩, trivial⟩
  ·cases h
 ·cases h
end strings_Split
end
end Rv
