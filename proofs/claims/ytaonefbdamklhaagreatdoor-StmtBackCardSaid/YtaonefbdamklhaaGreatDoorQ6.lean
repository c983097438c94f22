/- Texts put together, part 6 of 18. -/
import Derived.Test.YtaonefbdamklhaaGreatDoorQ5
import Derived.Test.YtaonefbdamklhaaGreatDoorProg
import Derived.Maps.RangeWalk
import Derived.Shelf.RegionOpenPlain
import Derived.Deep.LoopGhost
import Derived.Laws.EntriesVeiled
import Derived.WideMake
import Derived.Carry
import Derived.Lib.Join
import Derived.Lib.Split
import Derived.Lib.SplitLaws
import Derived.Test.YtaonefbdamklhaaGreatDoorQ1
import Derived.Lib.LaidTab
import Derived.Lib.AppendIntMem
import Derived.Shelf.Strings.SlTrimAscii
import Derived.IntWalk
set_option linter.all false
namespace Rv
open Go Go.RowKit Go.Proofs
noncomputable section
set_option maxRecDepth 1000000
noncomputable abbrev SP : Program := Tryz.prog
abbrev opW (w : World) (t : TypeId) (v : Value) (f1 f2 : FuncId) : World :=
 (w.alloc (.cells #[v] t)).alloc (.cells #[.func (.func f1) #[] #[.pointer (some ⟨w.heap.size, 0, none⟩)], .func (.func f2) #[] #[.pointer (some ⟨w.heap.size, 0, none⟩)]] 90)
abbrev opV (B : Nat) (f1 f2 : FuncId) : Value := .agg #[.func (.func f1) #[] #[.pointer (some ⟨B, 0, none⟩)], .func (.func f2) #[] #[.pointer (some ⟨B, 0, none⟩)]]
theorem results_cell {fn : Func} {u : Tmp} {t : TypeId} (h : fn.results = #[.cell u t]) {tmps : Array Value} {a : Addr} {P : Program} {w : World} {v : Value} (ha : tmps.getD u undef = .pointer (some a)) (hv : (loadVar t a).run P w = .ok v w) :
  (results fn tmps).run P w = .ok v w := by
 have e : asAddr (tmps.getD u undef) = pure a := by rw [ha]; rfl
 unfold results
 rw [h]
 simp only [List.mapM_toArray, List.mapM_cons, List.mapM_nil, e]
 simp [hv, Result.andThen]
theorem reg_walk (g : FuncId) (w : World) : Calls SP 73 #[.func (.func g) #[] #[]] w fun e w' =>
  e = .returned (opV w.heap.size 119 120) ∧ w' = opW w 118 (.func (.func g) #[] #[]) 119 120 := by
 go_enter Tryz.func73, Tryz.ntmps73
 go_wp2
 refine bodyPost_ret (v := opV w.heap.size 119 120) (results_cell rfl rfl ?_) rfl ⟨rfl, rfl⟩
 go_simp
theorem num_walk (s : ByteArray) (w : World) : Calls SP 77 #[.string s] w fun e w' =>
  e = .returned (opV w.heap.size 121 123) ∧ w' = opW w 9 (.string s) 121 123 := by
 go_enter Tryz.func77, Tryz.ntmps77
 go_wp2
 refine bodyPost_ret (v := opV w.heap.size 121 123) (results_cell rfl rfl ?_) rfl ⟨rfl, rfl⟩
 go_simp
noncomputable abbrev TMo : TypeId := 120
theorem put_gen {P : Program} {mt kt vt : TypeId} (hm : P.underlying mt = some (.map kt vt)) (hk : P.underlying kt = some (.int .i64)) {W : World} {B : Nat} {es : Array MapEntry} {cl : Nat} {n : Int} {val : Value} (hB : B = W.heap.size) (hf : Instr.findNow (.int .i64) (.int .i64 n) es.toList 0 = some none) :
  (Instr.mapUpdate mt (.map (some B)) (.int .i64 n) val).run P (W.alloc (.map es cl)) = .ok () (W.alloc (.map (es.push { key := .int .i64 n, val := val, born := cl }) (cl + 1))) := by
 subst hB
 have hb : (W.alloc (.map es cl)).heap[W.heap.size]? = some (.map es cl) := by
  show (W.heap.push (.map es cl))[W.heap.size]? = _
  exact Array.getElem?_push_size
 have hc : (Instr.checkKey false 10000 kt (.int .i64 n)).run P (W.alloc (.map es cl)) = .ok () (W.alloc (.map es cl)) := MapKept.run_checkKey (k := .int .i64 n) hk (by simp [MapKept.IsKey]) false 9999
 generalize hX : W.alloc (.map es cl) = X at hb hc ⊢
 have h1 : (Instr.mapUpdate mt (.map (some W.heap.size)) (.int .i64 n) val).run P X = .ok () { X with heap := X.heap.setIfInBounds W.heap.size (.map (es.push { key := .int .i64 n, val := val, born := cl }) (cl + 1)) } := by
  unfold Instr.mapUpdate
  rw [Sem.run_bind, run_underlying hm]
  simp only [Result.andThen_ok]
  rw [Sem.run_bind, MapKept.run_getObj_map hb]
  simp only [Result.andThen_ok]
  rw [Sem.run_bind, hc]
  simp only [Result.andThen_ok]
  rw [Sem.run_bind, MapKept.run_findKey hk hf]
  simp only [Result.andThen_ok]
  exact MapKept.run_setObj_map _ hb
 rw [h1]
 subst hX
 have h2 : (W.heap.push (.map es cl)).setIfInBounds W.heap.size (.map (es.push { key := .int .i64 n, val := val, born := cl }) (cl + 1)) = W.heap.push (.map (es.push { key := .int .i64 n, val := val, born := cl }) (cl + 1)) := by
  apply Array.ext'
  rw [Array.toList_setIfInBounds, Array.toList_push, Array.toList_push, List.set_append_right _ _ (by simp)]
  simp
 show Result.ok () { (W.alloc (.map es cl)) with heap := (W.heap.push (.map es cl)).setIfInBounds W.heap.size _ } = _
 rw [h2]
 rfl
theorem look_gen {P : Program} {mt kt vt : TypeId} (hm : P.underlying mt = some (.map kt vt)) (hk : P.underlying kt = some (.int .i64)) {W : World} {B : Nat} {es : Array MapEntry} {cl i : Nat} {n : Int} {val : Value} (hb : W.heap[B]? = some (.map es cl)) (hf : Instr.findNow (.int .i64) (.int .i64 n) es.toList 0 = some (some (i, val))) :
  (Instr.lookup mt (.map (some B)) (.int .i64 n) false).run P W = .ok val W := by
 have hc : ∀ b, (Instr.checkKey b 10000 kt (.int .i64 n)).run P W = .ok () W := fun b => MapKept.run_checkKey (k := .int .i64 n) hk (by simp [MapKept.IsKey]) b 9999
 simp [Instr.lookup, run_underlying hm, MapKept.run_getObj_map hb, hc, MapKept.run_findKey hk hf, Result.andThen]
theorem put_int {W : World} {B : Nat} {es : Array MapEntry} {cl : Nat} {n : Int} {val : Value} (hB : B = W.heap.size) (hf : Instr.findNow (.int .i64) (.int .i64 n) es.toList 0 = some none) :
  (Instr.mapUpdate TMo (.map (some B)) (.int .i64 n) val).run SP (W.alloc (.map es cl)) = .ok () (W.alloc (.map (es.push { key := .int .i64 n, val := val, born := cl }) (cl + 1))) :=
 put_gen Tryz.underlying120 Tryz.underlying3 hB hf
theorem look_int {W : World} {B : Nat} {es : Array MapEntry} {cl i : Nat} {n : Int} {val : Value} (hb : W.heap[B]? = some (.map es cl)) (hf : Instr.findNow (.int .i64) (.int .i64 n) es.toList 0 = some (some (i, val))) :
  (Instr.lookup TMo (.map (some B)) (.int .i64 n) false).run SP W = .ok val W :=
 look_gen Tryz.underlying120 Tryz.underlying3 hb hf
end
end Rv
namespace Rv
open Go Go.RowKit Go.Proofs
noncomputable section
set_option maxRecDepth 1000000
def HidO (p : Prop) : Prop := p
theorem hidO {p : Prop} (h : p) : HidO p := h
theorem HidO.out {p : Prop} (h : HidO p) : p := h
def pushL : World → List Obj → World
 | w, [] => w
 | w, o :: l => pushL (w.alloc o) l
theorem pushL_heap : ∀ (l : List Obj) (w : World), (pushL w l).heap.size = w.heap.size + l.length ∧ (∀ i, i < w.heap.size → (pushL w l).heap[i]? = w.heap[i]?) ∧ ∀ i, (pushL w l).heap[w.heap.size + i]? = if i < l.length then l[i]? else none
 | [], w => ⟨by simp [pushL], fun i hi => rfl, fun i => by simp [pushL]⟩
 | o :: l, w => by
  obtain ⟨h1, h2, h3⟩ := pushL_heap l (w.alloc o)
  have hs : (w.alloc o).heap.size = w.heap.size + 1 := by show (w.heap.push o).size = _; simp
  have ho : ∀ i, i < w.heap.size → (w.alloc o).heap[i]? = w.heap[i]? := fun i hi => by
   show (w.heap.push o)[i]? = _
   rw [Array.getElem?_push, if_neg (by omega)]
  have hn : (w.alloc o).heap[w.heap.size]? = some o := by
   show (w.heap.push o)[w.heap.size]? = _
   exact Array.getElem?_push_size
  refine ⟨by simp only [pushL]; rw [h1, hs]; simp; omega, fun i hi => ?_, fun i => ?_⟩
  ·simp only [pushL]
   rw [h2 i (by omega), ho i hi]
  ·simp only [pushL]
   cases i with
   | zero => rw [Nat.add_zero, h2 _ (by omega), hn]; simp
   | succ i =>
    have := h3 i
    rw [hs] at this
    rw [show w.heap.size + (i + 1) = w.heap.size + 1 + i by omega, this]
    simp
theorem sz (w : World) (o : Obj) : (w.alloc o).heap.size = w.heap.size + 1 := by show (w.heap.push o).size = _; simp
def fn2 (B : Nat) (f1 f2 : FuncId) : Obj := .cells #[.func (.func f1) #[] #[.pointer (some ⟨B, 0, none⟩)], .func (.func f2) #[] #[.pointer (some ⟨B, 0, none⟩)]] 90
def opsL (B : Nat) : List Obj := [
 .cells #[.func (.func 74) #[] #[]] 118, fn2 B 119 120, fn2 B 119 120,
 .cells #[.func (.func 75) #[] #[]] 118, fn2 (B + 3) 119 120, fn2 (B + 3) 119 120,
 .cells #[.func (.func 76) #[] #[]] 118, fn2 (B + 6) 119 120, fn2 (B + 6) 119 120,
 .cells #[.string ⟨#[]⟩] 9, fn2 (B + 9) 121 123, fn2 (B + 9) 121 123,
 .cells #[.func (.func 78) #[] #[], .func (.func 79) #[] #[]] 90]
abbrev OT : Ty := .pair .fn (.pair .fn .nil)
def regF (g : FuncId) : OT.D := ((119, [.cf (g, [])]), (120, [.cf (g, [])]), ())
def numF (s : Str) : OT.D := ((121, [.c0 (.cs s)]), (123, [.c0 (.cs s)]), ())
def opA : OT.D := regF 74
def opB : OT.D := regF 75
def opC : OT.D := regF 76
def opE : OT.D := numF []
def opQ : OT.D := numF [61]
def opN : OT.D := ((78, []), (79, []), ())
def opsR (k o : Int) : List OT.D :=
 if k = 1 then (if o = 0 then [opA, opC] else [opA, opB, opC]) else
 if k = 2 then (if o = 0 then [opA, opE] else [opA, opB, opE]) else
 if k = 3 ∨ k = 4 then [opA] else
 if k = 5 then [opA, opB, opE] else
 if k = 6 then [opC] else
 if k = 7 ∨ k = 9 then [opE] else
 if k = 8 then [opA, opQ] else
 if k = 10 then [opN] else []
theorem flat_at {t : Ty} {w : World} {ok : Nat → Prop} : ∀ {xs : List t.D} {dss : List (List Value)} {i : Nat} {x : t.D}, All2 (fun x ds => Rd w ok t x ds) xs dss → xs[i]? = some x → ∃ ds, Rd w ok t x ds ∧ ∀ j v, ds[j]? = some v → dss.flatten[i * t.size + j]? = some v
 | [], _, i, x, _, h => by simp at h
 | _ :: _, [], _, _, h, _ => h.elim
 | y :: xs, ds :: dss, 0, x, h, hx => by
  simp only [List.getElem?_cons_zero, Option.some.injEq] at hx
  subst hx
  refine ⟨ds, h.1, fun j v hj => ?_⟩
  have := (List.getElem?_eq_some_iff.1 hj).1
  rw [List.flatten_cons, Nat.zero_mul, Nat.zero_add, List.getElem?_append_left this]; exact hj
 | y :: xs, ds :: dss, i + 1, x, h, hx => by
  obtain ⟨d, h1, h2⟩ := flat_at h.2 (i := i) (by simpa using hx)
  refine ⟨d, h1, fun j v hj => ?_⟩
  have hl := h.1.length
  rw [List.flatten_cons, List.getElem?_append_right (by rw [hl, Nat.succ_mul]; omega), hl]
  rw [show (i + 1) * t.size + j - t.size = i * t.size + j by rw [Nat.succ_mul]; omega]
  exact h2 j v hj
theorem rd_row {t : Ty} {w : World} {ok : Nat → Prop} {g : Nat} {cs : Array Value} {T : TypeId} {xs : List t.D} {dss : List (List Value)} (hg : w.heap[g]? = some (.cells cs T (0, 0))) (hok : ok g) (hd : All2 (fun x ds => Rd w ok t x ds) xs dss) (hc : cs.toList = dss.flatten) {n : Nat} (hn : n = xs.length) :
  Rd w ok (.sl t) xs [.slice (some ⟨g, 0, none⟩) n n] := by
 subst hn
 refine ⟨_, _, rfl, Nat.le_refl _, fun i x hx => ?_⟩
 obtain ⟨ds, h1, h2⟩ := flat_at hd hx
 refine ⟨g, 0, ds, rfl, hok, (Array.getElem?_eq_some_iff.1 hg).1, h1, fun j v hj => ?_⟩
 have := h2 j v hj
 unfold World.cell?
 simp only [hg, Nat.zero_add]
 rw [← hc] at this
 simpa using this
structure OpsAt (B : Nat) (w : World) : Prop where
 at_ : ∀ i, i < 13 → w.heap[B + i]? = (opsL B)[i]?
 lt : B + 13 ≤ w.heap.size
theorem OpsAt.cell {B : Nat} {w : World} (H : OpsAt B w) {i : Nat} (hi : i < 13) {v : Value} {t : TypeId} (h : (opsL B)[i]? = some (.cells #[v] t (0, 0))) : w.cell? ⟨B + i, 0, none⟩ = some v := by
 have := (H.at_ i hi).trans h
 unfold World.cell?
 simp only [this]
 rfl
theorem OpsAt.reg {B : Nat} {w : World} (H : OpsAt B w) {i : Nat} {g : FuncId} (hi : i < 13) (h : (opsL B)[i]? = some (.cells #[.func (.func g) #[] #[]] 118 (0, 0))) : Rd w (fun g => B ≤ g) OT (regF g) [fnV 119 [B + i], fnV 120 [B + i]] := by
 have hc : CapAt w (fun g => B ≤ g) (B + i) (.cf (g, [])) := ⟨Nat.le_add_right _ _, by have := H.lt; omega, [], H.cell hi h, trivial⟩
 exact ⟨[_], [_], rfl, ⟨[B + i], rfl, hc, trivial⟩, [_], [], rfl, ⟨[B + i], rfl, hc, trivial⟩, rfl⟩
theorem rd_num {B g : Nat} {w : World} {s : Str} (h : w.cell? ⟨g, 0, none⟩ = some (.string (mkS s))) (hB : B ≤ g) (hg : g < w.heap.size) : Rd w (fun g => B ≤ g) OT (numF s) [fnV 121 [g], fnV 123 [g]] := by
 have hc : CapAt w (fun g => B ≤ g) g (.c0 (.cs s)) := ⟨hB, hg, h⟩
 exact ⟨[_], [_], rfl, ⟨[g], rfl, hc, trivial⟩, [_], [], rfl, ⟨[g], rfl, hc, trivial⟩, rfl⟩
theorem OpsAt.num {B : Nat} {w : World} (H : OpsAt B w) : Rd w (fun g => B ≤ g) OT opE [fnV 121 [B + 9], fnV 123 [B + 9]] := rd_num (H.cell (i := 9) (by omega) rfl) (by omega) (by have := H.lt; omega)
theorem rd_nam {ok : Nat → Prop} {w : World} : Rd w ok OT opN [fnV 78 [], fnV 79 []] := ⟨[_], [_], rfl, ⟨[], rfl, trivial⟩, [_], [], rfl, ⟨[], rfl, trivial⟩, rfl⟩
theorem below_push : ∀ (l : List Obj) {w0 w : World}, Below w0.heap.size w0 w → w0.heap.size ≤ w.heap.size → Below w0.heap.size w0 (pushL w l)
 | [], _, _, h, _ => h
 | o :: l, _, w, h, hs => below_push l (h.alloc hs o) (by rw [sz]; omega)
theorem wpOp_of' {P : Program} {ops : Array Oper} {Q : Exit → Act → World → Prop} {K : Act → World → Prop} {a : Act} {w : World} {i : Nat} {o : Oper} (ho : ops[i]? = some o) (hg : o.guard = none) (h : o.wp P a w K Q) : wpOp P ops Q i K a w := by
 unfold wpOp
 rw [ho]
 have : Region.wanted o (yielded ops a.tmps) = true := by simp [Region.wanted, hg]
 simp only [this, if_true]
 exact Or.inl h
theorem ld_two {X : World} {g : Nat} {u v : Value} (h0 : X.cell? ⟨g, 0, none⟩ = some u) (h1 : X.cell? ⟨g, 1, none⟩ = some v) : (Instr.loadAt 90 (.pointer (some ⟨g, 0, none⟩))).run SP X = .ok (.agg #[u, v]) X := by go_simp
theorem ld_op {X : World} {g : Nat} {u v : Value} (h0 : X.cell? ⟨g, 0, none⟩ = some u) (h1 : X.cell? ⟨g, 1, none⟩ = some v) {a : Act} {o : Oper} {t : Tmp} (ho : o.op = .load 90 (.tmp t)) (ht : a.eval (.tmp t) = .pointer (some ⟨g, 0, none⟩)) : (execOp a.eval o).run SP X = .ok (.value (.agg #[u, v])) X := by
 have h := ld_two h0 h1
 simp [execOp, ho, ht, h, Result.andThen]
theorem enter_num : ∀ args w, (callFunc 77 args).run SP w = .ok (.enter 77 args) w := enters_of Tryz.func77 (by kernel_rfl) rfl
theorem ld_drew {X : World} {g : Nat} {u v : Value} (h0 : X.cell? ⟨g, 0, none⟩ = some u) (h1 : X.cell? ⟨g, 1, none⟩ = some v) {a : Act} {o : Oper} {t : Tmp} (ho : o.op = .load 90 (.tmp t)) (ht : a.eval (.tmp t) = .pointer (some ⟨g, 0, none⟩)) : (execOp a.eval o).run SP X.drew = .ok (.value (.agg #[u, v])) X.drew :=
 ld_op (X := X.drew) h0 h1 ho ht
theorem call_num {X : World} {a : Act} {o : Oper} {s : ByteArray} {t : TypeId} (ho : o.op = .call { callee := .value (.func 77), args := #[.const (.string s)], argTypes := #[t] }) : (execOp a.eval o).run SP X = .ok (.enter 77 #[.string s]) X := by
 have hf : a.eval (.func 77) = .func (.func 77) #[] #[] := rfl
 have hc : ∀ v, a.eval (.const v) = v := fun _ => rfl
 simp [execOp, ho, resolve, Deferred.ofValue, invoke, hf, hc, enter_num]
theorem num_op {X : World} {a : Act} {o : Oper} {s : ByteArray} {t : TypeId} (ho : o.op = .call { callee := .value (.func 77), args := #[.const (.string s)], argTypes := #[t] }) {K : Act → World → Prop} {Q : Exit → Act → World → Prop}
  (hK : K (a.put o.dst (opV X.heap.size 121 123)) (opW X 9 (.string s) 121 123)) : o.wp SP a X K Q := by
 unfold Oper.wp
 rw [call_num ho, Oper.upon_enter]
 refine (num_walk s X).mono ?_
 rintro e w' ⟨rfl, rfl⟩
 exact hK
theorem cell_old2 {X : World} {o1 o2 : Obj} {a : Addr} {v : Value} (h : X.cell? a = some v) (hs : a.block < X.heap.size) : ((X.drew.alloc o1).alloc o2).cell? a = some v := by
 rw [← h]
 refine World.cell?_of_block ?_
 show ((X.heap.push o1).push o2)[a.block]? = X.heap[a.block]?
 rw [Array.getElem?_push, if_neg (by rw [Array.size_push]; omega), Array.getElem?_push, if_neg (by omega)]
structure OpsW (w W : World) : Prop where
 size : W.heap.size = w.heap.size + 13
 at_ : ∀ i, i < 13 → W.heap[w.heap.size + i]? = (opsL w.heap.size)[i]?
 below : Below w.heap.size w W
theorem OpsW.at2 {w W : World} (h : OpsW w W) : ∀ (l : List Obj), OpsAt w.heap.size (pushL W l) ∧ Below w.heap.size w (pushL W l) := fun l => by
 obtain ⟨h1, h2, _⟩ := pushL_heap l W
 have hs := h.size
 exact ⟨⟨fun i hi => by rw [h2 _ (by omega)]; exact h.at_ i hi, by omega⟩, below_push l h.below (by omega)⟩
theorem push_last (W : World) (l : List Obj) (o : Obj) : (pushL W (l ++ [o])).heap[W.heap.size + l.length]? = some o := by
 rw [(pushL_heap _ W).2.2]; simp
abbrev OpsPost (k o : Int) (w : World) (e : Ending) (w' : World) : Prop := Below w.heap.size w w' ∧ ∃ v, e = .returned v ∧ Rd w' (fun g => w.heap.size ≤ g) (.sl OT) (opsR k o) [v]
theorem ops_end {w W : World} (h : OpsW w W) (l : List Obj) {cs : Array Value} {T : TypeId} {xs : List OT.D} {dss : List (List Value)} {g n : Nat} (hg : g = W.heap.size + l.length) (hn : n = xs.length) (hc : cs.toList = dss.flatten)
  (hd : OpsAt w.heap.size (pushL W (l ++ [.cells cs T (0, 0)])) → All2 (fun x ds => Rd (pushL W (l ++ [.cells cs T (0, 0)])) (fun g => w.heap.size ≤ g) OT x ds) xs dss) :
  Below w.heap.size w (pushL W (l ++ [.cells cs T (0, 0)])) ∧ ∃ v, Ending.returned (.slice (some ⟨g, 0, none⟩) n n) = .returned v ∧ Rd (pushL W (l ++ [.cells cs T (0, 0)])) (fun g => w.heap.size ≤ g) (.sl OT) xs [v] := by
 obtain ⟨h1, h2⟩ := h.at2 (l ++ [.cells cs T (0, 0)])
 subst hg
 have hs := h.size
 exact ⟨h2, _, rfl, rd_row (push_last W l _) (by omega) (hd h1) hc hn⟩
abbrev opsQ (w W : World) (mo : Obj) : List Obj := [mo, .cells #[.string ⟨#[61]⟩] 9, .cells #[.func (.func 121) #[] #[.pointer (some ⟨W.heap.size + 1, 0, none⟩)], .func (.func 123) #[] #[.pointer (some ⟨W.heap.size + 1, 0, none⟩)]] 90]
theorem ops_end8 {w W : World} (h : OpsW w W) (o : Int) (mo : Obj) : OpsPost 8 o w (.returned (.slice (some ⟨W.heap.size + 1 + 1 + 1, 0, none⟩) 2 2))
  (pushL W (opsQ w W mo ++ [.cells #[.func (.func 119) #[] #[.pointer (some ⟨w.heap.size, 0, none⟩)], .func (.func 120) #[] #[.pointer (some ⟨w.heap.size, 0, none⟩)], .func (.func 121) #[] #[.pointer (some ⟨W.heap.size + 1, 0, none⟩)], .func (.func 123) #[] #[.pointer (some ⟨W.heap.size + 1, 0, none⟩)]] 90])).drew := by
 have hs := h.size
 obtain ⟨h1, v, h2, h3⟩ := ops_end h (opsQ w W mo) (cs := #[.func (.func 119) #[] #[.pointer (some ⟨w.heap.size, 0, none⟩)], .func (.func 120) #[] #[.pointer (some ⟨w.heap.size, 0, none⟩)], .func (.func 121) #[] #[.pointer (some ⟨W.heap.size + 1, 0, none⟩)], .func (.func 123) #[] #[.pointer (some ⟨W.heap.size + 1, 0, none⟩)]]) (T := 90) (xs := [opA, opQ]) (dss := [[_, _], [_, _]]) (g := W.heap.size + 1 + 1 + 1) (n := 2) rfl rfl rfl fun H => ⟨H.reg (i := 0) (by omega) rfl, rd_num (s := [61]) (by
  unfold World.cell?
  have := (pushL_heap (opsQ w W mo ++ [.cells #[.func (.func 119) #[] #[.pointer (some ⟨w.heap.size, 0, none⟩)], .func (.func 120) #[] #[.pointer (some ⟨w.heap.size, 0, none⟩)], .func (.func 121) #[] #[.pointer (some ⟨W.heap.size + 1, 0, none⟩)], .func (.func 123) #[] #[.pointer (some ⟨W.heap.size + 1, 0, none⟩)]] 90]) W).2.2 1
  rw [if_pos (by simp)] at this
  simp only [this]
  rfl) (by omega) (by rw [(pushL_heap _ _).1]; simp), trivial⟩
 refine ⟨h1.drew, v, h2, h3.mono (Nat.le_refl _) fun g hg _ => ⟨rfl, hg⟩⟩
set_option maxHeartbeats 4000000 in
theorem ops_walk (k o : Int) (w : World) : Calls SP 45 #[.int .i64 k, .int .i64 o] w (OpsPost k o w) := by
 go_enter Tryz.func45, Tryz.ntmps45
 go_wp2_with (first
  | (go_at_call 73; refine (reg_walk _ _).mono ?_; rintro e wa ⟨rfl, rfl⟩)
  | (go_at_call 77; refine (num_walk _ _).mono ?_; rintro e wa ⟨rfl, rfl⟩)
  )
 simp only [opW, sz]
 show Oper.upon SP _ _ _ _ ((Sem.run SP (Instr.makeMap 120 none) (pushL w (opsL w.heap.size))).andThen _)
 obtain ⟨W, hW⟩ : ∃ W, W = pushL w (opsL w.heap.size) := ⟨_, rfl⟩
 rw [← hW]
 have hs : W.heap.size = w.heap.size + 13 := by rw [hW, (pushL_heap _ _).1]; rfl
 have hat : ∀ i, W.heap[w.heap.size + i]? = if i < 13 then (opsL w.heap.size)[i]? else none := fun i => by rw [hW, (pushL_heap _ _).2.2]; rfl
 have hold : ∀ i, i < w.heap.size → W.heap[i]? = w.heap[i]? := fun i hi => by rw [hW]; exact (pushL_heap _ _).2.1 i hi
 have hob : ∀ (ob : Obj) (i : Nat), i < 13 → (W.alloc ob).heap[w.heap.size + i]? = (opsL w.heap.size)[i]? := fun ob i hi => by
  show (W.heap.push ob)[_]? = _
  rw [Array.getElem?_push, if_neg (by omega), hat i, if_pos hi]
 have cc : ∀ (ob : Obj) (i : Nat) (cs : Array Value) (t : TypeId) (j : Nat) (v : Value), i < 13 → (opsL w.heap.size)[i]? = some (.cells cs t (0, 0)) → cs[j]? = some v → (W.alloc ob).cell? ⟨w.heap.size + i, j, none⟩ = some v := fun ob i cs t j v hi hc hv => by
  have h := (hob ob i hi).trans hc
  unfold World.cell?
  simp only [h]
  exact hv
 have a0 : ∀ ob, (W.alloc ob).cell? ⟨w.heap.size + 2, 0, none⟩ = some (.func (.func 119) #[] #[.pointer (some ⟨w.heap.size, 0, none⟩)]) := fun ob => cc ob 2 _ _ 0 _ (by omega) rfl rfl
 have a1 : ∀ ob, (W.alloc ob).cell? ⟨w.heap.size + 2, 1, none⟩ = some (.func (.func 120) #[] #[.pointer (some ⟨w.heap.size, 0, none⟩)]) := fun ob => cc ob 2 _ _ 1 _ (by omega) rfl rfl
 have b0 : ∀ ob, (W.alloc ob).cell? ⟨w.heap.size + 5, 0, none⟩ = some (.func (.func 119) #[] #[.pointer (some ⟨w.heap.size + 3, 0, none⟩)]) := fun ob => cc ob 5 _ _ 0 _ (by omega) rfl rfl
 have b1 : ∀ ob, (W.alloc ob).cell? ⟨w.heap.size + 5, 1, none⟩ = some (.func (.func 120) #[] #[.pointer (some ⟨w.heap.size + 3, 0, none⟩)]) := fun ob => cc ob 5 _ _ 1 _ (by omega) rfl rfl
 have c0 : ∀ ob, (W.alloc ob).cell? ⟨w.heap.size + 8, 0, none⟩ = some (.func (.func 119) #[] #[.pointer (some ⟨w.heap.size + 6, 0, none⟩)]) := fun ob => cc ob 8 _ _ 0 _ (by omega) rfl rfl
 have c1 : ∀ ob, (W.alloc ob).cell? ⟨w.heap.size + 8, 1, none⟩ = some (.func (.func 120) #[] #[.pointer (some ⟨w.heap.size + 6, 0, none⟩)]) := fun ob => cc ob 8 _ _ 1 _ (by omega) rfl rfl
 have e0 : ∀ ob, (W.alloc ob).cell? ⟨w.heap.size + 11, 0, none⟩ = some (.func (.func 121) #[] #[.pointer (some ⟨w.heap.size + 9, 0, none⟩)]) := fun ob => cc ob 11 _ _ 0 _ (by omega) rfl rfl
 have e1 : ∀ ob, (W.alloc ob).cell? ⟨w.heap.size + 11, 1, none⟩ = some (.func (.func 123) #[] #[.pointer (some ⟨w.heap.size + 9, 0, none⟩)]) := fun ob => cc ob 11 _ _ 1 _ (by omega) rfl rfl
 have n0 : ∀ ob, (W.alloc ob).cell? ⟨w.heap.size + 12, 0, none⟩ = some (.func (.func 78) #[] #[]) := fun ob => cc ob 12 _ _ 0 _ (by omega) rfl rfl
 have n1 : ∀ ob, (W.alloc ob).cell? ⟨w.heap.size + 12, 1, none⟩ = some (.func (.func 79) #[] #[]) := fun ob => cc ob 12 _ _ 1 _ (by omega) rfl rfl
 have HW := hidO (p := OpsW w W) ⟨hs, fun i hi => by rw [hat i, if_pos hi], by rw [hW]; exact below_push _ (Below.refl _ _) (Nat.le_refl _)⟩
 clear hW hs hat hold hob cc
 rw [run_makeMap]; simp only [Result.andThen_ok]
 go_wp2
 rw [put_int rfl (by rfl)]; simp only [Result.andThen_ok]
 go_wp2
 rw [put_int rfl (by rfl)]; simp only [Result.andThen_ok]
 rcases (show k = 1 ∨ k = 2 ∨ k = 3 ∨ k = 4 ∨ k = 5 ∨ k = 6 ∨ k = 7 ∨ k = 8 ∨ k = 9 ∨ k = 10 ∨ (k ≠ 1 ∧ k ≠ 2 ∧ k ≠ 3 ∧ k ≠ 4 ∧ k ≠ 5 ∧ k ≠ 6 ∧ k ≠ 7 ∧ k ≠ 8 ∧ k ≠ 9 ∧ k ≠ 10) by omega) with rfl | rfl | rfl | rfl | rfl | rfl | rfl | rfl | rfl | rfl | hk
 ·by_cases ho : o = 0
  ·subst ho
   go_wp2
   rw [look_int (show (W.heap.push _)[W.heap.size]? = _ from Array.getElem?_push_size) rfl]; simp only [Result.andThen_ok]
   go_wp2
   go_ret
   exact ops_end HW.out [_] rfl rfl (dss := [[_, _], [_, _]]) rfl fun H => ⟨H.reg (i := 0) (by omega) rfl, H.reg (i := 6) (by omega) rfl, trivial⟩
  ·go_wp2
   rw [look_int (show (W.heap.push _)[W.heap.size]? = _ from Array.getElem?_push_size) rfl]; simp only [Result.andThen_ok]
   go_wp2
   go_ret
   have e : opsR 1 o = [opA, opB, opC] := by simp [opsR, ho]
   unfold OpsPost
   rw [e]
   exact ops_end HW.out [_] rfl rfl (dss := [[_, _], [_, _], [_, _]]) rfl fun H => ⟨H.reg (i := 0) (by omega) rfl, H.reg (i := 3) (by omega) rfl, H.reg (i := 6) (by omega) rfl, trivial⟩
 ·by_cases ho : o = 0
  ·subst ho
   go_wp2
   rw [look_int (show (W.heap.push _)[W.heap.size]? = _ from Array.getElem?_push_size) rfl]; simp only [Result.andThen_ok]
   go_wp2
   go_ret
   exact ops_end HW.out [_] rfl rfl (dss := [[_, _], [_, _]]) rfl fun H => ⟨H.reg (i := 0) (by omega) rfl, H.num, trivial⟩
  ·go_wp2
   rw [look_int (show (W.heap.push _)[W.heap.size]? = _ from Array.getElem?_push_size) rfl]; simp only [Result.andThen_ok]
   go_wp2
   go_ret
   have e : opsR 2 o = [opA, opB, opE] := by simp [opsR, ho]
   unfold OpsPost
   rw [e]
   exact ops_end HW.out [_] rfl rfl (dss := [[_, _], [_, _], [_, _]]) rfl fun H => ⟨H.reg (i := 0) (by omega) rfl, H.reg (i := 3) (by omega) rfl, H.num, trivial⟩
 ·go_wp2
  go_ret
  exact ops_end HW.out [_] rfl rfl (dss := [[_, _]]) rfl fun H => ⟨H.reg (i := 0) (by omega) rfl, trivial⟩
 ·go_wp2
  go_ret
  exact ops_end HW.out [_] rfl rfl (dss := [[_, _]]) rfl fun H => ⟨H.reg (i := 0) (by omega) rfl, trivial⟩
 ·go_wp2
  go_ret
  exact ops_end HW.out [_] rfl rfl (dss := [[_, _], [_, _], [_, _]]) rfl fun H => ⟨H.reg (i := 0) (by omega) rfl, H.reg (i := 3) (by omega) rfl, H.num, trivial⟩
 ·go_wp2
  go_ret
  exact ops_end HW.out [_] rfl rfl (dss := [[_, _]]) rfl fun H => ⟨H.reg (i := 6) (by omega) rfl, trivial⟩
 ·go_wp2
  go_ret
  exact ops_end HW.out [_] rfl rfl (dss := [[_, _]]) rfl fun H => ⟨H.num, trivial⟩
 ·go_wp2_with fail
  have mixed : SP.follows .mixedOrders = true := by kernel_rfl
  refine wp_region_any (by kernel_rfl) ?_
  change wpAny _ _ _ _ _ _ _ (World.drew (W.alloc _))
  refine wpAny_ready (rs := [0, 1]) (by kernel_rfl) (by simp) ?_
  refine AllReady.cons rfl (fun K hK => ?_) (AllReady.cons rfl (fun K hK => ?_) AllReady.nil)
  ·rw [if_pos (by rfl)]
   refine (wp_value (ld_drew (a0 _) (a1 _) (by rfl) (by rfl)) (hK _ _ ?_))
   clear hK K
   refine wpAny_ready (rs := [1]) (by kernel_rfl) (by simp) ?_
   refine AllReady.cons rfl (fun K hK => ?_) AllReady.nil
   rw [if_pos (by rfl)]
   refine (num_op (by rfl) (hK _ _ ?_))
   clear hK K
   refine wpAny_ready (rs := [2]) (by kernel_rfl) (by simp) ?_
   refine AllReady.cons rfl (fun K hK => ?_) AllReady.nil
   rw [if_pos (by rfl)]
   go_simp
   refine hK _ _ ?_
   clear hK K
   refine wpAny_ready (rs := [3]) (by kernel_rfl) (by simp) ?_
   refine AllReady.cons rfl (fun K hK => ?_) AllReady.nil
   rw [if_pos (by rfl)]
   go_simp
   refine hK _ _ ?_
   clear hK K
   refine wpAny_done (by kernel_rfl) ?_ _
   go_wp2
   go_ret
   have e : (W.alloc (.map #[{ key := .int .i64 1, val := .agg #[.func (.func 119) #[] #[.pointer (some ⟨w.heap.size + 6, 0, none⟩)], .func (.func 120) #[] #[.pointer (some ⟨w.heap.size + 6, 0, none⟩)]], born := 0 }, { key := .int .i64 2, val := .agg #[.func (.func 121) #[] #[.pointer (some ⟨w.heap.size + 9, 0, none⟩)], .func (.func 123) #[] #[.pointer (some ⟨w.heap.size + 9, 0, none⟩)]], born := 1 }] 2)).drew.heap.size = W.heap.size + 1 := sz W _
   simp only [opW, e]
   exact ops_end8 HW.out o _
  ·rw [if_pos (by rfl)]
   refine (num_op (by rfl) (hK _ _ ?_))
   clear hK K
   refine wpAny_ready (rs := [0]) (by kernel_rfl) (by simp) ?_
   refine AllReady.cons rfl (fun K hK => ?_) AllReady.nil
   rw [if_pos (by rfl)]
   refine (wp_value (ld_op (cell_old2 (a0 _) (by have := HW.out.size; simp; omega)) (cell_old2 (a1 _) (by have := HW.out.size; simp; omega)) (by rfl) (by rfl)) (hK _ _ ?_))
   clear hK K
   refine wpAny_ready (rs := [2]) (by kernel_rfl) (by simp) ?_
   refine AllReady.cons rfl (fun K hK => ?_) AllReady.nil
   rw [if_pos (by rfl)]
   go_simp
   refine hK _ _ ?_
   clear hK K
   refine wpAny_ready (rs := [3]) (by kernel_rfl) (by simp) ?_
   refine AllReady.cons rfl (fun K hK => ?_) AllReady.nil
   rw [if_pos (by rfl)]
   go_simp
   refine hK _ _ ?_
   clear hK K
   refine wpAny_done (by kernel_rfl) ?_ _
   go_wp2
   go_ret
   exact ops_end8 HW.out o _
 ·go_wp2
  go_ret
  exact ops_end HW.out [_] rfl rfl (dss := [[_, _]]) rfl fun H => ⟨H.num, trivial⟩
 ·go_wp2
  go_ret
  exact ops_end HW.out [_] rfl rfl (dss := [[_, _]]) rfl fun H => ⟨rd_nam, trivial⟩
 ·obtain ⟨h1, h2, h3, h4, h5, h6, h7, h8, h9, h10⟩ := hk
  go_wp2
  go_ret
  have e : opsR k o = [] := by simp [opsR, h1, h2, h3, h4, h5, h6, h7, h8, h9, h10]
  unfold OpsPost
  rw [e]
  obtain ⟨_, hb⟩ := HW.out.at2 [_]
  exact ⟨hb, _, rfl, none, 0, rfl, Nat.le_refl _, fun i x hx => by simp at hx⟩
end
end Rv
namespace Rv
open Go Go.RowKit Go.Proofs
noncomputable section
set_option maxRecDepth 1000000
theorem occ_one {c : UInt8} (s : Str) (i : Nat) : Lib.occAt s [c] i = true ↔ s[i]? = some c := by
 unfold Lib.occAt
 have hh : s[i]? = (s.drop i).head? := by rw [List.head?_drop]
 rw [hh]
 cases s.drop i with
 | nil => exact ⟨fun h => (by cases h), fun h => (by cases h)⟩
 | cons b t =>
  show (c == b && true) = true ↔ some b = some c
  rw [Bool.and_true, beq_iff_eq, Option.some.injEq]
  exact ⟨Eq.symm, Eq.symm⟩
theorem splitR_none {c : UInt8} : ∀ (s : Str), (∀ j : Nat, s[j]? ≠ some c) → L.splitR c s = [s]
 | [], _ => rfl
 | b :: s, h => by
  have h0 := h 0
  have hb : ¬ b = c := fun e => h0 (by simp [e])
  unfold L.splitR
  rw [if_neg hb, splitR_none s fun j => by have := h (j + 1); simpa using this]
theorem splitR_first {c : UInt8} : ∀ (i : Nat) (s : Str), s[i]? = some c → (∀ j : Nat, j < i → s[j]? ≠ some c) → L.splitR c s = s.take i :: L.splitR c (s.drop (i + 1))
 | _, [], h, _ => by simp at h
 | 0, b :: s, h, _ => by
  simp only [List.getElem?_cons_zero, Option.some.injEq] at h
  subst h
  show (if b = b then [] :: L.splitR b s else _) = _
  rw [if_pos rfl]; rfl
 | i + 1, b :: s, h, hn => by
  have hb : ¬ b = c := fun e => hn 0 (by omega) (by simp [e])
  have ih := splitR_first i s (by simpa using h) fun j hj => by have := hn (j + 1) (by omega); simpa using this
  show (if b = c then [] :: L.splitR c s else _) = _
  rw [if_neg hb, ih]
  rfl
theorem split_eq (c : UInt8) : ∀ (n : Nat) (s : Str), s.length ≤ n → Lib.splitK [c] 0 (Lib.count s [c]) s = L.splitR c s := by
 intro n
 induction n with
 | zero =>
  intro s hs
  obtain rfl : s = [] := List.length_eq_zero_iff.1 (by omega)
  rcases Lib.index_spec ([] : Str) [c] with ⟨h1, _⟩ | ⟨i, _, hi, ho, _⟩
  ·rw [Lib.count_miss h1]; rfl
  ·exact absurd ((occ_one _ _).1 ho) (by simp)
 | succ n ih =>
  intro s hs
  rcases Lib.index_spec s [c] with ⟨h1, h2⟩ | ⟨i, h1, hi, ho, hno⟩
  ·rw [Lib.count_miss h1, splitR_none s fun j hj => ?_]
   ·rfl
   ·have hlt := (List.getElem?_eq_some_iff.1 hj).1
    have := h2 j (by omega)
    rw [(occ_one s j).2 hj] at this
    cases this
  ·have hc := (occ_one s i).1 ho
   have hlt := (List.getElem?_eq_some_iff.1 hc).1
   rw [Lib.count_hit (by simp) h1, Nat.add_comm 1, splitR_first i s hc fun j hj e => ?_]
   ·show (if Lib.index s [c] == -1 then [s] else s.take ((Lib.index s [c]).toNat + 0) :: Lib.splitK [c] 0 (Lib.count (s.drop (i + 1)) [c]) (s.drop ((Lib.index s [c]).toNat + 1))) = _
    have hm : ¬ (Lib.index s [c] == -1) = true := fun e => by have := beq_iff_eq.1 e; omega
    rw [if_neg hm, h1, Int.toNat_natCast, Nat.add_zero, ih _ (by rw [List.length_drop]; omega)]
   ·have := hno j hj
    rw [(occ_one s j).2 e] at this
    cases this
theorem join_none (a : Option Addr) (c : Nat) (sep : ByteArray) (w : World) : Calls Tryz.prog 52 #[.slice a 0 c, .string sep] w fun e w' => e = .returned (.string ⟨#[]⟩) ∧ w' = w := by
 go_enter Tryz.func52, Tryz.ntmps52
 go_wp2
 go_ret
 exact ⟨rfl, rfl⟩
theorem join_one (bk o c : Nat) (x sep : ByteArray) (w : World) (hc : w.cell? ⟨bk, o, none⟩ = some (.string x)) : Calls Tryz.prog 52 #[.slice (some ⟨bk, o, none⟩) 1 c, .string sep] w fun e w' => e = .returned (.string x) ∧ w' = w := by
 go_enter Tryz.func52, Tryz.ntmps52
 go_wp2
 go_ret
 exact ⟨rfl, rfl⟩
set_option maxHeartbeats 16000000 in
theorem join_many (bk o c : Nat) (xs : List ByteArray) (sep : ByteArray) (w : World)
  (hcells : ∀ (j : Nat) x, xs[j]? = some x → w.cell? ⟨bk, o + j, none⟩ = some (.string x))
  (hbk : bk < w.heap.size) (h2 : 2 ≤ xs.length) (hN : xs.length ≤ 140737488355328) (hcap : xs.length ≤ c)
  (hlen : (Lib.join (xs.map (·.data.toList)) sep.data.toList).length ≤ 140737488355328) :
  Calls Tryz.prog 52 #[.slice (some ⟨bk, o, none⟩) xs.length c, .string sep] w fun e w' => e = .returned (.string ⟨(Lib.join (xs.map (·.data.toList)) sep.data.toList).toArray⟩) ∧ Below w.heap.size w w' := by
 have HC := hidR hcells
 clear hcells
 obtain ⟨x0, r, hxs⟩ : ∃ x0 r, xs = x0 :: r := by
  cases xs with
  | nil => simp at h2
  | cons a t => exact ⟨a, t, rfl⟩
 have hjl : sep.size * (xs.length - 1) + Lib.lens (xs.map (·.data.toList)) ≤ 140737488355328 := by
  have := Lib.join_length x0.data.toList (r.map (·.data.toList)) sep.data.toList
  rw [hxs] at hlen ⊢
  simp only [List.map_cons] at hlen ⊢
  rw [this, List.length_map] at hlen
  rw [Lib.size_eq, List.length_cons, Nat.add_sub_cancel]
  exact hlen
 have hmul : sep.size * (xs.length - 1) ≤ 140737488355328 := by omega
 generalize hM : sep.size * (xs.length - 1) = M at hjl hmul
 have hcast : ((xs.length : Int) - 1) = ((xs.length - 1 : Nat) : Int) := by omega
 have hlt : sep.size < 9223372036854775807 / (xs.length - 1) := by
  have : sep.size + 1 ≤ 9223372036854775807 / (xs.length - 1) := by
   rw [Nat.le_div_iff_mul_le (by omega), Nat.add_mul, hM]
   omega
  omega
 have hdv : ¬ (9223372036854775807 / ((xs.length : Int) - 1) ≤ (sep.size : Int)) := by
  have e : (9223372036854775807 : Int) / ((xs.length - 1 : Nat) : Int) = ((9223372036854775807 / (xs.length - 1) : Nat) : Int) := IntWalk.up_div (x := 9223372036854775807) rfl rfl
  rw [hcast, e]
  generalize 9223372036854775807 / (xs.length - 1) = q at hlt
  omega
 have hprod : wrap64 ((sep.size : Int) * ((xs.length : Int) - 1)) = (M : Int) := by
  have e : (sep.size : Int) * ((xs.length - 1 : Nat) : Int) = ((sep.size * (xs.length - 1) : Nat) : Int) := IntWalk.up_mul rfl rfl
  rw [hcast, e, hM]
  exact IntWalk.wrap64_in _ ⟨by omega, by omega⟩
 have hM0 : sep.size = 0 → M = 0 := fun h => by rw [← hM, h, Nat.zero_mul]
 clear hlt hcast
 have hne0 : ((xs.length : Int) == 0) = false := beq_eq_false_iff_ne.2 (by omega)
 have hne1 : ((xs.length : Int) == 1) = false := beq_eq_false_iff_ne.2 (by omega)
 have Hxs := hidR hxs
 have Hlen := hidR hlen
 clear hxs hlen
 go_enter Tryz.func52, Tryz.ntmps52
 go_wp2_with fail
 all_goals (
  go_loop [5, 41] (fun n i => ∃ k : Nat, k ≤ xs.length ∧ i = .int .i64 k ∧ n = .int .i64 ((M + Lib.lens ((xs.map (·.data.toList)).take k) : Nat) : Int)) (fun _ i => xs.length - (intOf i).toNat)
  case atStart => exact ⟨0, Nat.zero_le _, rfl, by first | (simp [Lib.lens]; done) | (have := hM0 (by omega); simp [Lib.lens, this])⟩
  case round =>
   obtain ⟨k, hk, rfl, rfl⟩ := hrel
   by_cases hkn : k < xs.length
   ·obtain ⟨x, hx⟩ : ∃ x, xs[k]? = some x := ⟨xs[k], List.getElem?_eq_getElem hkn⟩
    have hc := HC.out k x hx
    have hstep := Lib.lens_take_succ (xs.map (·.data.toList)) k x.data.toList (by simp [hx])
    have hbound : Lib.lens ((xs.map (·.data.toList)).take (k + 1)) ≤ Lib.lens (xs.map (·.data.toList)) := Lib.lens_take_le _ _
    rw [← Lib.size_eq] at hstep
    generalize hA1 : Lib.lens ((xs.map (·.data.toList)).take (k + 1)) = A1 at hstep hbound
    generalize Lib.lens ((xs.map (·.data.toList)).take k) = A0 at hstep
    have HA1 := hidR hA1
    clear hA1
    go_wp2
    exact ⟨⟨k + 1, by omega, by go_num, by rw [HA1.out]; refine congrArg _ ?_; omega⟩, by simp [intOf]; omega⟩
   ·have hke : k = xs.length := by omega
    subst hke
    have hall : (xs.map (·.data.toList)).take xs.length = xs.map (·.data.toList) := List.take_of_length_le (by simp)
    rw [hall]
    generalize hT : Lib.lens (xs.map (·.data.toList)) = T at hjl
    have HT := hidR hT
    clear hT hall
    go_wp2_with fail
    have hMT : ((M : Int) + (T : Int)) = ((M + T : Nat) : Int) := by omega
    rw [hMT]
    refine (grow_k w.heap.size w.heap.size (M + T) _ (Nat.le_refl _) (heap_alloc_new w _) (by simp) (by omega)).mono ?_
    rintro e w1 ⟨rfl, h1, hb1⟩
    have hb1' : Below w.heap.size w w1 := ((Below.refl w.heap.size w).alloc (Nat.le_refl _) _).trans hb1
    have hx0 : xs[0]? = some x0 := by rw [Hxs.out]; rfl
    have hc0 : w1.cell? ⟨bk, o, none⟩ = some (.string x0) := by
     rw [hb1'.cell (p := ⟨bk, o, none⟩) hbk]
     exact HC.out 0 x0 hx0
    have H1 := hidR (Lib.IsBuilderF.of (Or.inr h1 : Lib.IsBuilder TB TU w.heap.size w.heap.size [] w1))
    have Hb1 := hidR hb1'
    have hBw1 : w.heap.size ≤ w1.heap.size := hb1'.size
    clear h1 hb1 hb1' hMT
    have hwhole : Lib.join (xs.map (·.data.toList)) sep.data.toList = x0.data.toList ++ Lib.joinTail sep.data.toList (r.map (·.data.toList)) := by
     rw [Hxs.out, List.map_cons, Lib.join_cons]
    have hCle : ∀ k, (x0.data.toList ++ Lib.joinTail sep.data.toList ((r.map (·.data.toList)).take k)).length ≤ 140737488355328 := fun k => by
     have h1 := Hlen.out
     rw [hwhole, List.length_append] at h1
     have h2 := Lib.joinTail_take_le sep.data.toList (r.map (·.data.toList)) k
     rw [List.length_append]
     omega
    have HCle := hidR hCle
    have Hwhole := hidR hwhole
    clear hCle hwhole
    go_wp2_with fail
    refine (writeS w.heap.size w.heap.size [] x0 w1 H1.out (by have := HCle.out 0; simp [Lib.joinTail] at this ⊢; omega) hBw1).mono ?_
    rintro e w2 ⟨rfl, h2', hb2⟩
    have hstart : ([] : List Value) ++ Lib.strCells x0 = Lib.byteCells (x0.data.toList ++ Lib.joinTail sep.data.toList ((r.map (·.data.toList)).take 0)) := by
     simp [Lib.joinTail, Lib.strCells_eq]
    rw [hstart] at h2'
    have H2 := hidR h2'
    have Hb2 := hidR (Hb1.out.trans hb2)
    clear h2' hb2 hstart
    have hrl : r.length = xs.length - 1 := by rw [Hxs.out]; simp
    go_wp2_with fail
    go_loopw [65] (fun i wr => ∃ k : Nat, k ≤ r.length ∧ i = .int .i64 k ∧ Hid (Lib.IsBuilderF TB TU w.heap.size w.heap.size (Lib.byteCells (x0.data.toList ++ Lib.joinTail sep.data.toList ((r.map (·.data.toList)).take k))) wr) ∧ Hid (Below w.heap.size w wr)) (fun i _ => r.length - (intOf i).toNat)
    case atStart => exact ⟨0, Nat.zero_le _, rfl, H2, Hb2⟩
    case round =>
     obtain ⟨k, hk', rfl, HB, HW⟩ := hrel
     by_cases hkr : k < r.length
     ·obtain ⟨y, hy⟩ : ∃ y, r[k]? = some y := ⟨r[k], List.getElem?_eq_getElem hkr⟩
      have hxy : xs[k + 1]? = some y := by rw [Hxs.out]; simpa using hy
      have hcy : wr.cell? ⟨bk, o + 1 + k, none⟩ = some (.string y) := by
       rw [HW.out.cell (p := ⟨bk, o + 1 + k, none⟩) hbk, show o + 1 + k = o + (k + 1) by omega]
       exact HC.out (k + 1) y hxy
      have hBw : w.heap.size ≤ wr.heap.size := HW.out.size
      have hnext : Lib.byteCells (x0.data.toList ++ Lib.joinTail sep.data.toList ((r.map (·.data.toList)).take k)) ++ Lib.strCells sep ++ Lib.strCells y = Lib.byteCells (x0.data.toList ++ Lib.joinTail sep.data.toList ((r.map (·.data.toList)).take (k + 1))) := by
       rw [Lib.joinTail_take_succ sep.data.toList (r.map (·.data.toList)) k y.data.toList (by simp [hy]), Lib.strCells_eq, Lib.strCells_eq, ← Lib.byteCells_append, ← Lib.byteCells_append, List.append_assoc, List.append_assoc, List.append_assoc]
      have hl1 := HCle.out (k + 1)
      rw [Lib.joinTail_take_succ sep.data.toList (r.map (·.data.toList)) k y.data.toList (by simp [hy])] at hl1
      simp only [List.length_append, ← Lib.size_eq] at hl1
      have hl0 : (Lib.byteCells (x0.data.toList ++ Lib.joinTail sep.data.toList ((r.map (·.data.toList)).take k))).length = x0.size + (Lib.joinTail sep.data.toList ((r.map (·.data.toList)).take k)).length := by
       rw [Lib.byteCells_length, List.length_append, ← Lib.size_eq]
      generalize (Lib.joinTail sep.data.toList ((r.map (·.data.toList)).take k)).length = J at hl0 hl1
      have Hn := hidR hnext
      clear hnext hy hxy
      go_wp2_with fail
      refine (writeS w.heap.size w.heap.size _ sep wr HB.out (by rw [hl0]; omega) hBw).mono ?_
      rintro e w3 ⟨rfl, h3, hb3⟩
      have hBw3 : w.heap.size ≤ w3.heap.size := Nat.le_trans hBw hb3.size
      have H3 := hidR h3
      have Hb3 := hidR hb3
      clear h3 hb3
      go_wp2_with fail
      refine (writeS w.heap.size w.heap.size _ y w3 H3.out (by rw [List.length_append, hl0, Lib.strCells_length]; omega) hBw3).mono ?_
      rintro e w4 ⟨rfl, h4, hb4⟩
      rw [Hn.out] at h4
      have H4 := hidR h4
      have Hb4 := hidR ((HW.out.trans Hb3.out).trans hb4)
      clear h4 hb4
      go_wp2
      exact ⟨⟨k + 1, by omega, by go_num, H4, Hb4⟩, by simp [intOf]; omega⟩
     ·have hke : k = r.length := by omega
      subst hke
      have hfull : (r.map (·.data.toList)).take r.length = r.map (·.data.toList) := List.take_of_length_le (by simp)
      have hB' := HB.out
      rw [hfull, ← Hwhole.out] at hB'
      have hBw : w.heap.size ≤ wr.heap.size := HW.out.size
      go_wp2_with fail
      refine (Tryz.Builder_String_any_k w.heap.size w.heap.size _ wr hB' hBw).mono ?_
      rintro e w5 ⟨rfl, _, hb5, _⟩
      have Hb5 := hidR (HW.out.trans hb5)
      clear hb5 hB'
      go_wp2
      go_ret
      exact ⟨rfl, Hb5.out⟩)
theorem sjoin_eq (sep : Str) : ∀ xs : List Str, Lib.join xs sep = L.sjoinR sep xs
 | [] => rfl
 | x :: r => by rw [Lib.join_cons]; rfl
theorem list_mkS (s : Str) : (mkS s).data.toList = s := rfl
theorem mk_list (xs : List Str) : (xs.map mkS).map (·.data.toList) = xs := by
 rw [List.map_map]
 refine (List.map_congr_left fun a _ => ?_).trans (List.map_id xs)
 exact list_mkS a
theorem sjoin_walk (xs : List Str) (sep : Str) (v : Value) (w : World) (hv : SlOf w .str xs v) (h1 : (L.sjoinR sep xs).length ≤ 140737488355328) (h2 : xs.length ≤ 140737488355328) :
  Calls Tryz.prog 52 #[v, .string (mkS sep)] w fun e w' => e = .returned (.string (mkS (L.sjoinR sep xs))) ∧ Below w.heap.size w w' := by
 obtain ⟨A, c, rfl, hc, hx⟩ := hv
 match xs, hx, hc, h1, h2 with
 | [], _, _, _, _ => exact (join_none A c (mkS sep) w).mono fun e w' ⟨h, hw⟩ => ⟨h, by rw [hw]; exact Below.refl _ _⟩
 | [x], hx, _, _, _ =>
  obtain ⟨g, o, ds, rfl, hg, hd, hat⟩ := hx 0 x rfl
  have hd : ds = [.string (mkS x)] := hd
  subst hd
  have := hat 0 _ rfl
  refine (join_one g o c (mkS x) (mkS sep) w (by simpa using this)).mono fun e w' ⟨h, hw⟩ => ⟨?_, by rw [hw]; exact Below.refl _ _⟩
  rw [h]; simp [L.sjoinR]
 | x :: y :: r, hx, hc, h1, h2 =>
  obtain ⟨g, o, _, rfl, hg, _, _⟩ := hx 0 x rfl
  have hl : ((x :: y :: r).map mkS).length = (x :: y :: r).length := List.length_map _
  have := join_many g o c ((x :: y :: r).map mkS) (mkS sep) w (fun j z hz => by
   rw [List.getElem?_map] at hz
   obtain ⟨a, ha, rfl⟩ := Option.map_eq_some_iff.1 hz
   obtain ⟨g', o', ds, e, _, hd, hat⟩ := hx j a ha
   simp only [Option.some.injEq, Addr.mk.injEq, and_true] at e
   obtain ⟨rfl, rfl⟩ := e
   have hd : ds = [.string (mkS a)] := hd
   subst hd
   have := hat 0 _ rfl
   simpa [Ty.size] using this) hg (by simp) (by rw [hl]; exact h2) (by rw [hl]; exact hc) (by rw [mk_list, list_mkS, sjoin_eq]; exact h1)
  rw [hl] at this
  refine this.mono fun e w' ⟨h, hw⟩ => ⟨?_, hw⟩
  rw [h, mk_list, list_mkS, sjoin_eq]; rfl
theorem split_walk (s : Str) (c : UInt8) (m : Int) (w : World) (hs : s.length < 4294967281) (hm : w.cell? ⟨0, 0, none⟩ = some (.int .i64 m)) :
  Calls Tryz.prog 33 #[.string (mkS s), .string (mkS [c])] w fun e w' => Below w.heap.size w w' ∧ ∃ v, e = .returned v ∧ Rd w' (fun g => w.heap.size ≤ g) (.sl .str) (L.splitR c s) [v] := by
 refine (Tryz.strings_Split (mkS s) (mkS [c]) m w hs hm (Nat.le_refl 1)).mono ?_
 rintro e w' ⟨rfl, rfl⟩
 have hd := Lib.splitB_data (mkS [c]) 0 (Lib.countB (mkS s) (mkS [c])) (mkS s)
 have hd2 : (Lib.splitB (mkS [c]) 0 (Lib.countB (mkS s) (mkS [c])) (mkS s)).map (·.data.toList) = L.splitR c s := by
  rw [hd, ← split_eq c s.length s (Nat.le_refl _), list_mkS, list_mkS]
  rfl
 have hl : Lib.countB (mkS s) (mkS [c]) + 1 = (L.splitR c s).length := by
  rw [← hd2, List.length_map]
  exact (Lib.splitB_all (mkS [c]) (Nat.le_refl 1) 0 _ (mkS s) rfl).symm
 refine ⟨(Below.refl _ _).alloc (Nat.le_refl _) _, _, rfl, rd_row (t := .str) (dss := (L.splitR c s).map fun x => [.string (mkS x)]) (by show (w.heap.push _)[_]? = _; exact Array.getElem?_push_size) (Nat.le_refl _) ?_ ?_ hl⟩
 ·generalize L.splitR c s = l
  induction l with
  | nil => trivial
  | cons a l ih => exact ⟨rfl, ih⟩
 ·rw [← hd2]
  generalize Lib.splitB (mkS [c]) 0 (Lib.countB (mkS s) (mkS [c])) (mkS s) = l
  induction l with
  | nil => rfl
  | cons a l ih => simpa [mkS] using ih
end
end Rv
namespace Rv
open Go Go.RowKit Go.Proofs
noncomputable section
set_option maxRecDepth 100000
noncomputable def P : Program := Tryz.prog
theorem mixed : P.follows .mixedOrders = true := by kernel_rfl
abbrev LQ := Nat → Nat
structure LW (ad : LQ) (w : World) : Prop where
 errSyntax : ∃ te pe, w.cell? ⟨2, 0, none⟩ = some (.iface te pe)
 errRange : ∃ te pe, w.cell? ⟨3, 0, none⟩ = some (.iface te pe)
 pow10 : Lib.TabIs P w "internal/strconv.uint64pow10" .u64 Lib.pow10Tab
 maxLen : ∃ m, w.cell? ⟨0, 0, none⟩ = some (.int .i64 m)
 kinds : MapVar w 7 (ad 0) .i64 (mapAt L.kindsRow)
 asciiSpace : Lib.TabIs P w "strings.asciiSpace" .u8 Lib.asciiSpaceTab
variable {ad : LQ}
theorem LW.stable {w : World} (h : LW ad w) (a b : World) (ha : LW ad a) (hb : ∀ g, g < w.heap.size → b.heap[g]? = a.heap[g]?) : LW ad b where
 errSyntax := keepI h.errSyntax ha.errSyntax hb
 errRange := keepI h.errRange ha.errRange hb
 pow10 := keepTab h.pow10 ha.pow10 hb
 maxLen := keepN h.maxLen ha.maxLen hb
 kinds := keepMap h.kinds ha.kinds hb
 asciiSpace := keepTab h.asciiSpace ha.asciiSpace hb
namespace strings_IndexByte
noncomputable def sp : Spec := ⟨⟨[(0, .c .str), (1, .c (.int .u8))], []⟩, ⟨[(0, .c (.int .i64))], []⟩, fun x => some (L.indexByte x.1 x.2.1, ())⟩
theorem enter : Enterable P 40 := enter_of (by kernel_rfl)
theorem sat : Sat P (LW ad) 40 sp := sat_plain (la := [.str, .int .u8]) (lr := [.int .i64]) rfl rfl rfl rfl fun x y h w _ => by
 have h : some (L.indexByte x.1 x.2.1, ()) = some y := h
 obtain rfl := Option.some.inj h
 refine (Tryz.strings_IndexByte (mkS x.1) x.2.1 w).mono ?_
 rintro e w' ⟨rfl, rfl⟩
 exact ⟨Below.refl _ _, #[_], rfl, rfl, trivial⟩
end strings_IndexByte
namespace strings_CutPrefix
noncomputable def sp : Spec := ⟨⟨[(0, .c .str), (1, .c .str)], []⟩, ⟨[(0, .c .str), (1, .c .bool)], []⟩, fun x => some (L.cutRest x.1 x.2.1, L.cutIs x.1 x.2.1, ())⟩
theorem enter : Enterable P 67 := enter_of (by kernel_rfl)
theorem sat : Sat P (LW ad) 67 sp := sat_plain (la := [.str, .str]) (lr := [.str, .bool]) rfl rfl rfl rfl fun x y h w _ => by
 have h : some (L.cutRest x.1 x.2.1, L.cutIs x.1 x.2.1, ()) = some y := h
 obtain rfl := Option.some.inj h
 refine (Tryz.strings_CutPrefix (mkS x.1) (mkS x.2.1) w).mono ?_
 rintro e w' ⟨rfl, rfl⟩
 exact ⟨Below.refl _ _, #[_, _], rfl, rfl, rfl, trivial⟩
end strings_CutPrefix
namespace strings_Contains
noncomputable def sp : Spec := ⟨⟨[(0, .c .str), (1, .c .str)], []⟩, ⟨[(0, .c .bool)], []⟩, fun x => L.containsO x.1 x.2.1⟩
theorem enter : Enterable P 68 := enter_of (by kernel_rfl)
theorem sat : Sat P (LW ad) 68 sp := sat_plain (la := [.str, .str]) (lr := [.bool]) rfl rfl rfl rfl fun x y h w hw => by
 have h : L.containsO x.1 x.2.1 = some y := h
 unfold L.containsO at h
 split at h
 ·rename_i hs
  obtain rfl := Option.some.inj h
  obtain ⟨m, hm⟩ := hw.maxLen
  refine (Tryz.strings_Contains (mkS x.1) (mkS x.2.1) m w hs hm).mono ?_
  rintro e w' ⟨rfl, rfl⟩
  exact ⟨Below.refl _ _, #[_], rfl, rfl, trivial⟩
 ·cases h
end strings_Contains
namespace strconv_Itoa
noncomputable def sp : Spec := ⟨⟨[(0, .c (.int .i64))], []⟩, ⟨[(0, .c .str)], []⟩, fun x => L.itoaO x.1⟩
theorem enter : Enterable P 87 := enter_of (by kernel_rfl)
theorem sat : Sat P (LW ad) 87 sp := sat_plain (la := [.int .i64]) (lr := [.str]) rfl rfl rfl rfl fun x y h w hw => by
 have h : L.itoaO x.1 = some y := h
 unfold L.itoaO at h
 split at h
 ·rename_i hs
  obtain rfl := Option.some.inj h
  refine (Tryz.strconv_Itoa x.1 hs.1 hs.2 w hw.pow10).mono ?_
  rintro e w' ⟨rfl, k, os, rfl⟩
  exact ⟨Lib.below_grow _ _ (Nat.le_refl _) _ _, #[_], rfl, rfl, trivial⟩
 ·cases h
end strconv_Itoa
namespace strconv_toError
noncomputable def sp : Spec := ⟨⟨[(0, .c .str), (1, .c .str), (2, .c (.int .i64)), (3, .c (.int .i64)), (4, .c (.ifo 168 .i64))], []⟩, ⟨[(0, .c .err)], []⟩, fun x => L.toErrorO x.1 x.2.1 x.2.2.1 x.2.2.2.1 x.2.2.2.2.1⟩
theorem enter : Enterable P 107 := enter_of (by kernel_rfl)
theorem sat : Sat P (LW ad) 107 sp := sat_plain (la := [.str, .str, .int .i64, .int .i64, .ifo 168 .i64]) (lr := [.err]) rfl rfl rfl rfl fun x y h w hw => by
 have h : L.toErrorO x.1 x.2.1 x.2.2.1 x.2.2.2.1 x.2.2.2.2.1 = some y := h
 obtain ⟨x1, x2, x3, x4, x5, _⟩ := x
 simp only at h
 unfold L.toErrorO at h
 split at h
 ·rename_i hs
  obtain rfl := Option.some.inj h
  obtain ⟨h1, h2⟩ := hs
  rcases h2 with rfl | rfl
  ·obtain ⟨te, pe, hv⟩ := hw.errRange
   refine (Tryz.strconv_toError_range (mkS x1) (mkS x2) x3 x4 _ w h1 hv (.inr ⟨te, pe, rfl⟩)).mono ?_
   rintro e w' ⟨N, rfl, _, _, hb⟩
   exact ⟨hb, #[_], rfl, ⟨rfl, fun h => (by cases h), fun _ => ⟨_, _, rfl⟩⟩, trivial⟩
  ·obtain ⟨te, pe, hv⟩ := hw.errSyntax
   refine (Tryz.strconv_toError_syntax (mkS x1) (mkS x2) x3 x4 _ w h1 hv (.inr ⟨te, pe, rfl⟩)).mono ?_
   rintro e w' ⟨N, rfl, _, _, hb⟩
   exact ⟨hb, #[_], rfl, ⟨rfl, fun h => (by cases h), fun _ => ⟨_, _, rfl⟩⟩, trivial⟩
 ·cases h
end strconv_toError
namespace internal_strconv_underscoreOK
noncomputable def sp : Spec := ⟨⟨[(0, .c .str)], []⟩, ⟨[(0, .c .bool)], []⟩, fun x => L.underscoreO x.1⟩
theorem enter : Enterable P 153 := enter_of (by kernel_rfl)
theorem sat : Sat P (LW ad) 153 sp := fun x y h => (by cases h)
end internal_strconv_underscoreOK
theorem digs_isDig (b : UInt8) : ([48, 49, 50, 51, 52, 53, 54, 55, 56, 57] : List UInt8).contains b = L.isDig b := by
 have h : ∀ n : Nat, n < 256 → ([48, 49, 50, 51, 52, 53, 54, 55, 56, 57] : List UInt8).contains (UInt8.ofNat n) = L.isDig (UInt8.ofNat n) := by decide +kernel
 have := h b.toNat (UInt8.toNat_lt b)
 rwa [UInt8.ofNat_toNat] at this
theorem trimDig_eq (l : List UInt8) : Lib.trimS l [48, 49, 50, 51, 52, 53, 54, 55, 56, 57] = L.trimDig l := by
 have : (fun b : UInt8 => ([48, 49, 50, 51, 52, 53, 54, 55, 56, 57] : List UInt8).contains b) = L.isDig := funext digs_isDig
 unfold Lib.trimS Lib.trimLeftS Lib.trimRightS L.trimDig
 rw [this]
namespace strings_Trim
noncomputable def sp : Spec := ⟨⟨[(0, .c .str), (1, .c .str)], []⟩, ⟨[(0, .c .str)], []⟩, fun x => L.trimO x.1 x.2.1⟩
theorem enter : Enterable P 71 := enter_of (by kernel_rfl)
theorem sat : Sat P (LW ad) 71 sp := sat_plain (la := [.str, .str]) (lr := [.str]) rfl rfl rfl rfl fun x y h w hw => by
 have h : L.trimO x.1 x.2.1 = some y := h
 obtain ⟨x1, x2, _⟩ := x
 simp only at h
 unfold L.trimO at h
 split at h
 ·rename_i hs
  obtain rfl := Option.some.inj h
  obtain ⟨rfl, h2⟩ := hs
  refine (Any.strings_Trim_laid Tryz.lays160 (by kernel_rfl) (mkS x1) (mkS [48, 49, 50, 51, 52, 53, 54, 55, 56, 57]) w (by show x1.length ≤ _; omega) (by decide) (ascii_of_all (by decide))).mono ?_
  rintro e w' ⟨rfl, hb⟩
  exact ⟨hb, #[_], rfl, by show Value.string _ = _; rw [show (mkS x1).data.toList = x1 from rfl, show (mkS [48, 49, 50, 51, 52, 53, 54, 55, 56, 57]).data.toList = [48, 49, 50, 51, 52, 53, 54, 55, 56, 57] from rfl, trimDig_eq]; rfl, trivial⟩
 ·cases h
end strings_Trim
namespace internal_strconv_FormatUint
noncomputable def sp : Spec := ⟨⟨[(0, .c (.int .u64)), (1, .c (.int .i64))], []⟩, ⟨[(0, .c .str)], []⟩, fun x => L.formatUintO x.1 x.2.1⟩
theorem enter : Enterable P 203 := enter_of (by kernel_rfl)
theorem sat : Sat P (LW ad) 203 sp := sat_plain (la := [.int .u64, .int .i64]) (lr := [.str]) rfl rfl rfl rfl fun x y h w hw => by
 have h : L.formatUintO x.1 x.2.1 = some y := h
 obtain ⟨x1, x2, _⟩ := x
 simp only at h
 unfold L.formatUintO at h
 split at h
 ·rename_i hs
  obtain rfl := Option.some.inj h
  obtain ⟨rfl, h1, h2⟩ := hs
  obtain ⟨n, rfl⟩ : ∃ n : Nat, x1 = (n : Int) := ⟨Int.toNat x1, (Int.toNat_of_nonneg h1).symm⟩
  have h3 : (n : Int) ≤ 9223372036854775807 := h2
  refine (formatUint_10 n (by omega) w hw.pow10).mono ?_
  rintro e w' ⟨rfl, hb⟩
  exact ⟨hb, #[_], rfl, rfl, trivial⟩
 ·cases h
end internal_strconv_FormatUint
theorem kinds_eq (s : Str) : L.kinds s = mapAt L.kindsRow s := rfl
noncomputable def maps : Nat → TypeId → Option (Cell → Option (Cell × Bool)) := fun g t => if g = 7 ∧ t = 243 then some (fun c => match c with | .str s => some (.int .i64 (L.kinds s).1, (L.kinds s).2) | _ => none) else none
theorem maps_ok : MapsOk P (LW ad) maps := by
 intro g t F h
 unfold maps at h
 split at h
 case isFalse => cases h
 rename_i hg
 obtain ⟨rfl, rfl⟩ := hg
 obtain rfl := Option.some.inj h
 refine ⟨.map (some (ad 0)), rfl, fun w hw => ⟨hw.kinds.1, mapVar_load Tryz.underlying243 hw.kinds, fun kc kv p hks _ hF => ?_⟩⟩
 cases kc with
 | str s =>
  obtain rfl := hks s rfl
  have hF : some (Cell.int .i64 (L.kinds s).1, (L.kinds s).2) = some p := hF
  obtain rfl := Option.some.inj hF
  refine ⟨.int .i64 (L.kinds s).1, rfl, fun ok => ?_⟩
  rw [kinds_eq]
  exact mapVar_look Tryz.underlying243 Tryz.underlying9 (by kernel_rfl) hw.kinds s ok
 | _ => cases hF
namespace name_Of
noncomputable def sp : Spec := ⟨⟨[(0, .c .str)], []⟩, ⟨[(0, .c (.int .i64)), (1, .c (.int .i64)), (2, .c .bool), (3, .c .bool)], []⟩, fun x => L.nameOfO x.1⟩
theorem enter : Enterable P 43 := enter_of (by kernel_rfl)
theorem sat : Sat P (LW ad) 43 sp := sat_plain (la := [.str]) (lr := [.int .i64, .int .i64, .bool, .bool]) rfl rfl rfl rfl fun x y h w hw => by
 have h : L.nameOfO x.1 = some y := h
 unfold L.nameOfO at h
 obtain rfl := Option.some.inj h
 obtain ⟨m, hm⟩ := hw.maxLen
 refine (of_walk x.1 m w hm hw.asciiSpace).mono ?_
 rintro e w' ⟨rfl, hb⟩
 exact ⟨hb, #[_, _, _, _], rfl, rfl, rfl, rfl, rfl, trivial⟩
end name_Of
namespace name_Mnemonic
noncomputable def sp : Spec := ⟨⟨[(0, .c (.int .i64)), (1, .c (.int .i64)), (2, .c .bool)], []⟩, ⟨[(0, .c .str)], []⟩, fun x => L.mnemO x.1 x.2.1 x.2.2.1⟩
theorem enter : Enterable P 50 := enter_of (by kernel_rfl)
theorem sat : Sat P (LW ad) 50 sp := sat_plain (la := [.int .i64, .int .i64, .bool]) (lr := [.str]) rfl rfl rfl rfl fun x y h w hw => by
 have h : L.mnemO x.1 x.2.1 x.2.2.1 = some y := h
 obtain ⟨x1, x2, x3, _⟩ := x
 simp only at h
 unfold L.mnemO at h
 split at h
 ·rename_i hs
  obtain rfl := Option.some.inj h
  obtain ⟨m, hm⟩ := hw.maxLen
  refine (mnem_walk x1 x2 x3 ⟨WalkArith.wf_i64 (n := x1) ⟨by omega, by omega⟩, WalkArith.wf_i64 (n := x2) ⟨by omega, by omega⟩⟩ m w hm hw.asciiSpace).mono ?_
  rintro e w' ⟨rfl, hb⟩
  exact ⟨hb, #[_], rfl, rfl, trivial⟩
 ·cases h
end name_Mnemonic
theorem one_sl {w : World} {ok : Nat → Prop} {t : Ty} {xs : List t.D} {v : Value} (h : Rd w ok (.sl t) xs [v]) : v.oneCell' = true := h.one v (List.mem_singleton.2 rfl)
namespace stmt_operands
noncomputable def sp : Spec := ⟨⟨[(0, .c (.int .i64)), (1, .c (.int .i64))], []⟩, ⟨[(0, .c (.sl OT))], []⟩, fun x => some (opsR x.1 x.2.1, ())⟩
theorem enter : Enterable P 45 := enter_of (by kernel_rfl)
theorem sat : Sat P (LW ad) 45 sp := sat_free (la := [.int .i64, .int .i64]) (lr := [.sl OT]) rfl rfl rfl rfl fun x y h w vs hw hv => by
 have h : some (opsR x.1 x.2.1, ()) = some y := h
 obtain rfl := Option.some.inj h
 match vs, hv with
 | [a, b], ⟨ha, hb, _⟩ =>
  have ha : a = .int .i64 x.1 := ha
  have hb : b = .int .i64 x.2.1 := hb
  subst ha hb
  refine (ops_walk x.1 x.2.1 w).mono ?_
  rintro e w' ⟨hb, v, rfl, hr⟩
  exact ⟨hb, #[v], rfl, ⟨one_sl hr, hr⟩, trivial⟩
end stmt_operands
namespace strings_Join
noncomputable def sp : Spec := ⟨⟨[(0, .c (.sl .str)), (1, .c .str)], []⟩, ⟨[(0, .c .str)], []⟩, fun x => L.sjoinO x.1 x.2.1⟩
theorem enter : Enterable P 52 := enter_of (by kernel_rfl)
theorem sat : Sat P (LW ad) 52 sp := sat_args (la := [.sl .str, .str]) (lr := [.str]) rfl rfl rfl rfl fun x y h w vs hw hv => by
 have h : L.sjoinO x.1 x.2.1 = some y := h
 unfold L.sjoinO at h
 split at h
 ·rename_i hs
  obtain rfl := Option.some.inj h
  match vs, hv with
  | [a, b], ⟨ha, hb, _⟩ =>
   have hb : b = .string (mkS x.2.1) := hb
   subst hb
   refine (sjoin_walk x.1 x.2.1 a w ha hs.1 hs.2).mono ?_
   rintro e w' ⟨rfl, hb⟩
   exact ⟨hb, #[_], rfl, rfl, trivial⟩
 ·cases h
end strings_Join
namespace strings_Split
noncomputable def sp : Spec := ⟨⟨[(0, .c .str), (1, .c .str)], []⟩, ⟨[(0, .c (.sl .str))], []⟩, fun x => L.splitO x.1 x.2.1⟩
theorem enter : Enterable P 33 := enter_of (by kernel_rfl)
theorem sat : Sat P (LW ad) 33 sp := sat_free (la := [.str, .str]) (lr := [.sl .str]) rfl rfl rfl rfl fun x y h w vs hw hv => by
 have h : L.splitO x.1 x.2.1 = some y := h
 obtain ⟨x1, x2, _⟩ := x
 simp only at h
 unfold L.splitO at h
 split at h
 ·rename_i c _
  split at h
  ·rename_i hs
   obtain rfl := Option.some.inj h
   obtain ⟨m, hm⟩ := hw.maxLen
   match vs, hv with
   | [a, b], ⟨ha, hb, _⟩ =>
    have ha : a = .string (mkS x1) := ha
    have hb : b = .string (mkS [c]) := hb
    subst ha hb
    refine (split_walk x1 c m w hs hm).mono ?_
    rintro e w' ⟨hb, v, rfl, hr⟩
    exact ⟨hb, #[v], rfl, ⟨one_sl hr, hr⟩, trivial⟩
  ·cases h
 ·cases h
end strings_Split
end
end Rv
namespace Rv
open Go Go.Proofs
noncomputable section
set_option maxRecDepth 100000
set_option maxHeartbeats 2000000
variable {ad : LQ}
abbrev u0 : Ty := .pair (.int .i64) (.pair (.int .i64) (.pair .str (.pair (.int .u32) .nil)))
abbrev u1 : Ty := .pair (.int .i64) (.pair (.int .u32) (.pair .str .nil))
abbrev u2 : Ty := .pair (.int .i64) (.pair (.int .i64) (.pair (.int .i64) .nil))
abbrev u3 : Ty := .pair .str (.pair (.int .i64) .nil)
abbrev u4 : Ty := .pair .fn (.pair .fn .nil)
abbrev u5 : Ty := .pair (.int .i64) (.pair (.int .i64) (.pair (.int .i64) (.pair (.int .i64) (.pair (.int .i64) (.pair .bool (.pair (.sl (.pair (.int .i64) (.pair (.int .u32) (.pair .str .nil)))) (.pair .str .nil)))))))
abbrev u6 : Ty := .pair (.int .i64) (.pair (.int .i64) (.pair (.int .i64) (.pair (.int .i64) (.pair (.int .i64) (.pair (.int .i64) (.pair .bool .nil))))))
abbrev u7 : Ty := .pair (.sl (.pair (.int .i64) (.pair (.int .i64) (.pair .str (.pair (.int .u32) .nil))))) (.pair (.int .i64) (.pair (.int .i64) .nil))
abbrev u8 : Ty := .pair (.sl (.pair (.int .i64) (.pair (.int .i64) (.pair .str (.pair (.int .u32) .nil))))) (.pair (.int .i64) (.pair (.sl (.pair (.int .i64) (.pair (.int .u32) (.pair .str .nil)))) (.pair (.int .i64) .nil)))
abbrev c0 : List CD := [ki, ki, ki, ki, ki, .bool, .sl u1, .str]
abbrev c1 : List CD := [.sl u0, ki, .row 54 u1, ki]
abbrev c2 : List CD := [ki, ki, ki, ki, ki, ki, .bool]
def types : List (TypeId × TI) := [
 tI 2 .i64 8,
 tI 3 .i64 8,
 tB 4 1,
 tI 5 .u8 1,
 tS 9 16,
 tI 21 .i32 4,
 tI 25 .i64 8,
 tL 30 48 u0,
 tL 33 54 u1,
 (35, ⟨8, true, 88, [.int .i64 0, .int .i64 0, .int .i64 0, .int .i64 0, .int .i64 0, .bool false, .nilS, .str []], [(0, 1, false), (1, 1, false), (2, 1, false), (3, 1, false), (4, 1, false), (5, 1, false), (6, 1, false), (7, 1, false)], none, some u5, none, false, false, false, none, none⟩),
 tL 40 5 (.int .u8),
 tI 46 .u32 4,
 (48, ⟨4, true, 40, [.int .i64 0, .int .i64 0, .str [], .int .u32 0], [(0, 1, false), (1, 1, false), (2, 1, false), (3, 1, false)], none, some u0, none, false, false, false, none, none⟩),
 (54, ⟨3, true, 32, [.int .i64 0, .int .u32 0, .str []], [(0, 1, false), (1, 1, false), (2, 1, false)], none, some u1, none, false, false, false, some u1, none⟩),
 (57, ⟨7, true, 56, [.int .i64 0, .int .i64 0, .int .i64 0, .int .i64 0, .int .i64 0, .int .i64 0, .bool false], [(0, 1, false), (1, 1, false), (2, 1, false), (3, 1, false), (4, 1, false), (5, 1, false), (6, 1, false)], none, some u6, none, false, false, false, some u6, none⟩),
 tL 66 9 .str,
 (76, ⟨3, true, 40, [.nilS, .int .i64 0, .int .i64 0], [(0, 1, false), (1, 1, false), (2, 1, false)], none, some u7, none, false, false, false, none, none⟩),
 tL 82 90 u4,
 (87, ⟨1, false, 8, [.raw .nilFunc], [], none, some .fn, none, false, false, false, none, none⟩),
 (88, ⟨1, false, 8, [.raw .nilFunc], [], none, some .fn, none, false, false, false, none, none⟩),
 (90, ⟨2, true, 16, [.raw .nilFunc, .raw .nilFunc], [(0, 1, false), (1, 1, false)], none, some u4, none, false, false, false, none, none⟩),
 tI 106 .u64 8,
 (108, ⟨1, false, 16, [.raw .nilIface], [], none, none, none, false, true, false, none, none⟩),
 (118, ⟨1, false, 8, [.raw .nilFunc], [], none, some .fn, none, false, false, false, none, none⟩),
 tI 156 .u64 8,
 (158, ⟨3, true, 24, [.int .i64 0, .int .i64 0, .int .i64 0], [], none, some u2, none, false, false, false, none, some 3⟩),
 tI 168 .i64 8,
 (178, ⟨1, false, 8, [.raw (.pointer none)], [], none, none, none, false, false, false, none, none⟩),
 (180, ⟨4, true, 64, [.nilS, .int .i64 0, .nilS, .int .i64 0], [(0, 1, false), (1, 1, false), (2, 1, false), (3, 1, false)], none, some u8, none, false, false, false, none, none⟩),
 tL 181 183 u3,
 (183, ⟨2, true, 24, [.str [], .int .i64 0], [(0, 1, false), (1, 1, false)], none, some u3, none, false, false, false, none, none⟩),
 tL 191 158 u2]
theorem types_ok : (types.all fun p => checkTI P p.1 p.2) = true := by kernel_rfl
def internal_strconv_underscoreOK.T (ad : LQ) : TF P (LW ad) := ⟨153, [], internal_strconv_underscoreOK.sp, internal_strconv_underscoreOK.sat, internal_strconv_underscoreOK.enter⟩
def strconv_toError.T (ad : LQ) : TF P (LW ad) := ⟨107, [], strconv_toError.sp, strconv_toError.sat, strconv_toError.enter⟩
def strings_CutPrefix.T (ad : LQ) : TF P (LW ad) := ⟨67, [], strings_CutPrefix.sp, strings_CutPrefix.sat, strings_CutPrefix.enter⟩
def strings_Contains.T (ad : LQ) : TF P (LW ad) := ⟨68, [], strings_Contains.sp, strings_Contains.sat, strings_Contains.enter⟩
def strings_IndexByte.T (ad : LQ) : TF P (LW ad) := ⟨40, [], strings_IndexByte.sp, strings_IndexByte.sat, strings_IndexByte.enter⟩
def strings_Trim.T (ad : LQ) : TF P (LW ad) := ⟨71, [], strings_Trim.sp, strings_Trim.sat, strings_Trim.enter⟩
def strconv_Itoa.T (ad : LQ) : TF P (LW ad) := ⟨87, [], strconv_Itoa.sp, strconv_Itoa.sat, strconv_Itoa.enter⟩
def name_Of.T (ad : LQ) : TF P (LW ad) := ⟨43, [], name_Of.sp, name_Of.sat, name_Of.enter⟩
def stmt_operands.T (ad : LQ) : TF P (LW ad) := ⟨45, [], stmt_operands.sp, stmt_operands.sat, stmt_operands.enter⟩
def internal_strconv_FormatUint.T (ad : LQ) : TF P (LW ad) := ⟨203, [], internal_strconv_FormatUint.sp, internal_strconv_FormatUint.sat, internal_strconv_FormatUint.enter⟩
def name_Mnemonic.T (ad : LQ) : TF P (LW ad) := ⟨50, [], name_Mnemonic.sp, name_Mnemonic.sat, name_Mnemonic.enter⟩
def strings_Join.T (ad : LQ) : TF P (LW ad) := ⟨52, [], strings_Join.sp, strings_Join.sat, strings_Join.enter⟩
def mkF (ad : LQ) := @mkT P (LW ad) types mixed types_ok maps maps_ok
def mkFa (ad : LQ) := @mkTa P (LW ad) types mixed types_ok maps maps_ok
namespace scan_letter
def sp : Spec := mkSp ⟨[(0, Sb)], []⟩ ⟨[(0, SB)], []⟩ g
noncomputable def T (ad : LQ) := mkF ad 36 [] sp [] t0 t0 t0 21 [] f (fun a => 1000 + a.toNat) (by kernel_rfl)
end scan_letter
namespace scan_digit
def sp : Spec := mkSp ⟨[(0, Sb)], []⟩ ⟨[(0, SB)], []⟩ g
noncomputable def T (ad : LQ) := mkF ad 38 [] sp [] t0 t0 t0 9 [] f (fun a => 1000 + a.toNat) (by kernel_rfl)
end scan_digit
namespace scan_word
def sp : Spec := mkSp ⟨[(0, Ss)], []⟩ ⟨[(0, Ss)], []⟩ g
noncomputable def T (ad : LQ) := mkF ad 37 [] sp [scan_letter.T ad, scan_digit.T ad] (fun n => tj 3 ⟨[(0, Ss), (3, Si)], []⟩ (fun ms => j3 n (l2 n ms.head!)) <| tj 4 ⟨[(0, Ss), (3, Si)], []⟩ (fun _ => j4 n) <| tn) (fun n => tl 2 ⟨[(0, Ss), (3, Si)], []⟩ (fun _ => l2 n) <| tn) t0 25 [] f (fun a => 1000 + a.length) (by kernel_rfl)
end scan_word
namespace internal_strconv_lower
def sp : Spec := mkSp ⟨[(0, Sb)], []⟩ ⟨[(0, Sb)], []⟩ g
noncomputable def T (ad : LQ) := mkF ad 152 [] sp [] t0 t0 t0 5 [] f (fun a => 1000 + a.toNat) (by kernel_rfl)
end internal_strconv_lower
namespace internal_strconv_ParseUint
def sp : Spec := mkSp ⟨[(0, Ss), (1, Si), (2, Si)], []⟩ ⟨[(0, .c kq), (1, .c (.ifo 168 .i64))], []⟩ g
noncomputable def T (ad : LQ) := mkF ad 106 [] sp [internal_strconv_lower.T ad, internal_strconv_underscoreOK.T ad] (fun n => tj 55 ⟨[(1, Si), (8, SB), (9, Ss), (10, .c kq), (11, .c kq), (12, SB), (13, .c kq), (99, .c (.sl (.int .u8))), (100, Si), (101, Si)], []⟩ (fun ms => j55 n (l36 n ms.head!)) <| tj 46 ⟨[(1, Si), (8, SB), (9, Ss), (10, .c kq), (11, .c kq), (12, SB), (13, .c kq), (16, Sb), (99, .c (.sl (.int .u8))), (100, Si), (101, Si)], []⟩ (fun ms => j46 n (l36 n ms.head!)) <| tj 32 ⟨[(0, Ss), (1, Si), (2, Si), (8, SB), (9, Ss), (10, .c kq)], []⟩ (fun _ => j32 n) <| tj 25 ⟨[(0, Ss), (1, Si), (2, Si), (8, SB), (9, Ss)], []⟩ (fun _ => j25 n) <| tj 21 ⟨[(0, Ss), (1, Si), (2, Si), (8, SB), (9, Ss)], []⟩ (fun _ => j21 n) <| tj 17 ⟨[(0, Ss), (1, Si), (2, Si), (8, SB), (9, Ss)], []⟩ (fun _ => j17 n) <| tj 20 ⟨[(0, Ss), (1, Si), (2, Si), (8, SB), (9, Ss)], []⟩ (fun _ => j20 n) <| tj 11 ⟨[(0, Ss), (1, Si), (2, Si), (8, SB), (9, Ss)], []⟩ (fun _ => j11 n) <| tj 9 ⟨[(0, Ss), (1, Si), (2, Si), (8, SB), (9, Ss)], []⟩ (fun _ => j9 n) <| tn) (fun n => tl 36 ⟨[(1, Si), (8, SB), (9, Ss), (10, .c kq), (11, .c kq), (12, SB), (13, .c kq), (99, .c (.sl (.int .u8))), (100, Si), (101, Si)], []⟩ (fun _ => l36 n) <| tn) t0 172 [] f (fun a b c => 1000 + a.length + b.toNat + c.toNat) (by kernel_rfl)
end internal_strconv_ParseUint
namespace strconv_ParseUint
def sp : Spec := mkSp ⟨[(0, Ss), (1, Si), (2, Si)], []⟩ ⟨[(0, .c kq), (1, Se)], []⟩ g
noncomputable def T (ad : LQ) := mkF ad 69 [] sp [internal_strconv_ParseUint.T ad, strconv_toError.T ad] t0 t0 t0 26 [] f (fun a b c => 1000 + a.length + b.toNat + c.toNat) (by kernel_rfl)
end strconv_ParseUint
namespace scan_number
def sp : Spec := mkSp ⟨[(0, Ss)], []⟩ ⟨[(0, Su), (1, SB)], []⟩ g
noncomputable def T (ad : LQ) := mkF ad 39 [] sp [strings_CutPrefix.T ad, strings_Contains.T ad, strconv_ParseUint.T ad] (fun n => tj 5 ⟨[(0, Ss), (4, Si)], []⟩ (fun _ => j5 n) <| tn) t0 t0 28 [] f (fun a => 1000 + a.length) (by kernel_rfl)
end scan_number
namespace scan_Line
def sp : Spec := mkSp ⟨[(0, Ss)], []⟩ ⟨[(0, .c (.row 48 u0)), (1, Si)], []⟩ g
noncomputable def T (ad : LQ) := mkF ad 18 [] sp [scan_letter.T ad, scan_word.T ad, scan_digit.T ad, scan_number.T ad, strings_IndexByte.T ad] (fun n => tj 23 ⟨[(0, Ss), (4, .c (.row 48 u0)), (5, Si), (6, Sp 0 0)], [(some 3, [ki, ki, .str, ku])]⟩ (fun ms => j23 n (g0 n ms.head!)) <| tn) t0 (fun n => tl 0 ⟨[(0, Ss), (4, .c (.row 48 u0)), (5, Si)], []⟩ (fun _ => g0 n) <| tn) 108 [] f (fun a => 1000 + a.length) (by kernel_rfl)
end scan_Line
namespace name_Label
def sp : Spec := mkSp ⟨[(0, Ss)], []⟩ ⟨[(0, SB)], []⟩ g
noncomputable def T (ad : LQ) := mkF ad 42 [] sp [strings_Trim.T ad] (fun n => tj 9 ⟨[(0, Ss), (24, Si), (25, Si)], []⟩ (fun ms => j9 n (l4 n ms.head!)) <| tj 3 ⟨[(0, Ss)], []⟩ (fun _ => j3 n) <| tn) (fun n => tl 4 ⟨[(0, Ss), (24, Si), (25, Si)], []⟩ (fun _ => l4 n) <| tn) t0 84 [] f (fun a => 1000 + a.length) (by kernel_rfl)
end name_Label
namespace stmt_parser_check
def sp : Spec := mkSp ⟨[(0, Sp 0 0), (1, SB)], [(some 0, [.sl u0, ki, ki])]⟩ ⟨[], [(none, [.sl u0, ki, ki])]⟩ g
noncomputable def T (ad : LQ) := mkF ad 41 [] sp [] t0 t0 t0 16 [] f (fun _ b c d => 1000 + b.length + c.toNat + d.toNat) (by kernel_rfl)
end stmt_parser_check
namespace stmt_dotted
def sp : Spec := mkSp ⟨[(0, Si)], []⟩ ⟨[(0, SB)], []⟩ g
noncomputable def T (ad : LQ) := mkF ad 44 [] sp [] t0 t0 t0 9 [] f (fun a => 1000 + a.toNat) (by kernel_rfl)
end stmt_dotted
namespace stmt_parser_peek
def sp : Spec := mkSp ⟨[(0, Sp 0 0), (1, Si)], [(some 0, [.sl u0, ki, ki])]⟩ ⟨[(0, Ss)], [(none, [.sl u0, ki, ki])]⟩ g
noncomputable def T (ad : LQ) := mkF ad 80 [] sp [] t0 t0 t0 48 [] f (fun a b c d => 1000 + a.toNat + b.length + c.toNat + d.toNat) (by kernel_rfl)
end stmt_parser_peek
namespace stmt_parser_take
def sp : Spec := mkSp ⟨[(0, Sp 0 0), (1, Si)], [(some 0, [.sl u0, ki, ki])]⟩ ⟨[(0, Ss)], [(none, [.sl u0, ki, ki])]⟩ g
noncomputable def T (ad : LQ) := mkF ad 46 [] sp [stmt_parser_peek.T ad] t0 t0 t0 17 [] f (fun a b c d => 1000 + a.toNat + b.length + c.toNat + d.toNat) (by kernel_rfl)
end stmt_parser_take
namespace internal_strconv_ParseInt
def sp : Spec := mkSp ⟨[(0, Ss), (1, Si), (2, Si)], []⟩ ⟨[(0, Si), (1, .c (.ifo 168 .i64))], []⟩ g
noncomputable def T (ad : LQ) := mkF ad 204 [] sp [internal_strconv_ParseUint.T ad] (fun n => tj 21 ⟨[(8, SB), (9, .c kq)], []⟩ (fun _ => j21 n) <| tj 19 ⟨[(8, SB), (9, .c kq), (10, .c kq)], []⟩ (fun _ => j19 n) <| tj 16 ⟨[(2, Si), (8, SB), (9, .c kq)], []⟩ (fun _ => j16 n) <| tj 14 ⟨[(2, Si), (8, SB), (9, .c kq)], []⟩ (fun _ => j14 n) <| tj 10 ⟨[(0, Ss), (1, Si), (2, Si), (8, SB)], []⟩ (fun _ => j10 n) <| tn) t0 t0 73 [] f (fun a b c => 1000 + a.length + b.toNat + c.toNat) (by kernel_rfl)
end internal_strconv_ParseInt
namespace internal_strconv_Atoi
def sp : Spec := mkSp ⟨[(0, Ss)], []⟩ ⟨[(0, Si), (1, .c (.ifo 168 .i64))], []⟩ g
noncomputable def T (ad : LQ) := mkF ad 168 [] sp [internal_strconv_ParseInt.T ad] (fun n => tj 8 ⟨[(0, Ss), (5, Ss)], []⟩ (fun _ => j8 n) <| tj 6 ⟨[(0, Ss), (5, Ss)], []⟩ (fun _ => j6 n) <| tj 20 ⟨[(0, Ss)], []⟩ (fun _ => j20 n) <| tn) (fun n => tl 10 ⟨[(5, Ss), (6, Si), (47, .c (.sl (.int .u8))), (48, Si), (49, Si)], []⟩ (fun _ => l10 n) <| tn) t0 77 [] f (fun a => 1000 + a.length) (by kernel_rfl)
end internal_strconv_Atoi
namespace strconv_Atoi
def sp : Spec := mkSp ⟨[(0, Ss)], []⟩ ⟨[(0, Si), (1, Se)], []⟩ g
noncomputable def T (ad : LQ) := mkF ad 126 [] sp [internal_strconv_Atoi.T ad, strconv_toError.T ad] t0 t0 t0 18 [] f (fun a => 1000 + a.length) (by kernel_rfl)
end strconv_Atoi
namespace name_RegName
def sp : Spec := mkSp ⟨[(0, Si)], []⟩ ⟨[(0, Ss)], []⟩ g
noncomputable def T (ad : LQ) := mkF ad 56 [] sp [strconv_Itoa.T ad] t0 t0 t0 12 [] f (fun a => 1000 + a.toNat) (by kernel_rfl)
end name_RegName
namespace name_Reg
def sp : Spec := mkSp ⟨[(0, Ss)], []⟩ ⟨[(0, Si), (1, SB)], []⟩ g
noncomputable def T (ad : LQ) := mkF ad 81 [] sp [strings_CutPrefix.T ad, strconv_Atoi.T ad, name_RegName.T ad] t0 t0 t0 31 [] f (fun a => 1000 + a.length) (by kernel_rfl)
end name_Reg
namespace stmt_parser_choose
def sp : Spec := mkSp ⟨[(0, Sp 0 0), (1, Sp 1 0)], [(some 0, [.sl u0, ki, ki]), (some 1, c0)]⟩ ⟨[], [(none, [.sl u0, ki, ki]), (none, c0)]⟩ g
noncomputable def T (ad : LQ) := mkF ad 47 [] sp [stmt_parser_peek.T ad, name_Reg.T ad] t0 t0 t0 50 [] f (fun a b c d e i j k _ o p => 1000 + a.length + b.toNat + c.toNat + d.toNat + e.toNat + i.toNat + j.toNat + k.toNat + o.length + p.length) (by kernel_rfl)
end stmt_parser_choose
namespace stmt_operands_1
def sp : Spec := mkSp ⟨[(0, Sp 0 0)], [(some 0, c0)]⟩ ⟨[(0, Sp 0 2)], [(none, c0)]⟩ g
noncomputable def T (ad : LQ) := mkF ad 74 [] sp [] t0 t0 t0 6 [] f (fun a b c d e _ j k => 1000 + a.toNat + b.toNat + c.toNat + d.toNat + e.toNat + j.length + k.length) (by kernel_rfl)
end stmt_operands_1
namespace stmt_operands_2
def sp : Spec := mkSp ⟨[(0, Sp 0 0)], [(some 0, c0)]⟩ ⟨[(0, Sp 0 3)], [(none, c0)]⟩ g
noncomputable def T (ad : LQ) := mkF ad 75 [] sp [] t0 t0 t0 6 [] f (fun a b c d e _ j k => 1000 + a.toNat + b.toNat + c.toNat + d.toNat + e.toNat + j.length + k.length) (by kernel_rfl)
end stmt_operands_2
namespace stmt_operands_3
def sp : Spec := mkSp ⟨[(0, Sp 0 0)], [(some 0, c0)]⟩ ⟨[(0, Sp 0 4)], [(none, c0)]⟩ g
noncomputable def T (ad : LQ) := mkF ad 76 [] sp [] t0 t0 t0 6 [] f (fun a b c d e _ j k => 1000 + a.toNat + b.toNat + c.toNat + d.toNat + e.toNat + j.length + k.length) (by kernel_rfl)
end stmt_operands_3
namespace stmt_register_1
def sp : Spec := mkSp ⟨[(0, Sp 0 0), (1, Sp 1 0), (2, .c (.pp .fn))], [(some 0, [.sl u0, ki, ki]), (some 1, c0)]⟩ ⟨[], [(none, [.sl u0, ki, ki]), (none, c0)]⟩ g
noncomputable def T (ad : LQ) := mkF ad 119 [] sp [stmt_parser_take.T ad, name_Reg.T ad, stmt_parser_check.T ad, stmt_operands_1.T ad, stmt_operands_2.T ad, stmt_operands_3.T ad] t0 t0 t0 21 [K.atA, K.atB, K.atC] f (fun _ b c d e i j k l _ p q => 1000 + b.length + c.toNat + d.toNat + e.toNat + i.toNat + j.toNat + k.toNat + l.toNat + p.length + q.length) (by kernel_rfl)
end stmt_register_1
namespace expr_parser_fail
def sp : Spec := mkSp ⟨[(0, Sp 0 0), (1, Si)], [(some 0, c1)]⟩ ⟨[], [(none, c1)]⟩ g
noncomputable def T (ad : LQ) := mkF ad 217 [] sp [] t0 t0 t0 13 [] f (fun a b c d e => 1000 + a.toNat + b.length + c.toNat + d.length + e.toNat) (by kernel_rfl)
end expr_parser_fail
namespace expr_parser_next
def sp : Spec := mkSp ⟨[(0, Sp 0 0)], [(some 0, c1)]⟩ ⟨[(0, .agg [ki, ki, .str, ku]), (1, SB)], [(none, c1)]⟩ g
noncomputable def T (ad : LQ) := mkF ad 218 [] sp [] t0 t0 t0 39 [] f (fun a b c d => 1000 + a.length + b.toNat + c.length + d.toNat) (by kernel_rfl)
end expr_parser_next
namespace expr_parser_sign
def sp : Spec := mkSp ⟨[(0, Sp 0 0), (1, .c (.sl .str))], [(some 0, c1)]⟩ ⟨[(0, Ss), (1, SB)], [(none, c1)]⟩ g
noncomputable def T (ad : LQ) := mkF ad 215 [] sp [expr_parser_next.T ad] (fun n => tj 8 ⟨[(0, Sp 0 0), (6, Sp 1 0), (7, SB), (15, .c (.sl .str)), (16, Si), (17, Si)], [(none, c1), (some 1, [ki, ki, .str, ku])]⟩ (fun ms => j8 n (l3 n ms.head!)) <| tn) (fun n => tl 3 ⟨[(0, Sp 0 0), (6, Sp 1 0), (7, SB), (15, .c (.sl .str)), (16, Si), (17, Si)], [(none, c1), (some 1, [ki, ki, .str, ku])]⟩ (fun _ => l3 n) <| tn) t0 42 [] f (fun a b c d e => 1000 + a.length + b.length + c.toNat + d.length + e.toNat) (by kernel_rfl)
end expr_parser_sign
namespace expr_parser_put
def sp : Spec := mkSp ⟨[(0, Sp 0 0), (1, .agg [ki, ku, .str])], [(some 0, c1)]⟩ ⟨[], [(none, c1)]⟩ g
noncomputable def T (ad : LQ) := mkF ad 216 [] sp [] t0 t0 t0 14 [] f (fun a b c d e i j => 1000 + a.toNat + b.toNat + c.length + d.length + e.toNat + i.length + j.toNat) (by kernel_rfl)
end expr_parser_put
def expr_parser_sum.spq (q : Nat) : Spec := mkSp ⟨[(0, Sp 0 0), (1, Si)], [(some 0, c1)]⟩ ⟨[], [(none, c1)]⟩ (rec_expr_parser_sum q).expr_parser_sum
def expr_parser_row_c200.spq (q : Nat) : Spec := mkSp ⟨[(0, Sp 0 0), (1, .clo 200 [.ptr 1 0, .ptr 2 0]), (2, .c (.sl .str))], [(some 0, c1), (some 1, [.ptr 0 0]), (some 2, [ki])]⟩ ⟨[], [(none, c1), (none, [.ptr 0 0]), (none, [ki])]⟩ (rec_expr_parser_sum q).expr_parser_row_c200
def expr_parser_sum_1.spq (q : Nat) : Spec := mkSp ⟨[(0, Sp 0 0), (1, Sp 1 0)], [(some 0, [.ptr 2 0]), (some 1, [ki]), (some 2, c1)]⟩ ⟨[], [(none, [.ptr 2 0]), (none, [ki]), (none, c1)]⟩ (rec_expr_parser_sum q).expr_parser_sum_1
def expr_parser_row_c201.spq (q : Nat) : Spec := mkSp ⟨[(0, Sp 0 0), (1, .clo 201 [.ptr 1 0, .ptr 2 0]), (2, .c (.sl .str))], [(some 0, c1), (some 1, [.ptr 0 0]), (some 2, [ki])]⟩ ⟨[], [(none, c1), (none, [.ptr 0 0]), (none, [ki])]⟩ (rec_expr_parser_sum q).expr_parser_row_c201
def expr_parser_sum_1_1.spq (q : Nat) : Spec := mkSp ⟨[(0, Sp 0 0), (1, Sp 1 0)], [(some 0, [.ptr 2 0]), (some 1, [ki]), (some 2, c1)]⟩ ⟨[], [(none, [.ptr 2 0]), (none, [ki]), (none, c1)]⟩ (rec_expr_parser_sum q).expr_parser_sum_1_1
def expr_parser_factor.spq (q : Nat) : Spec := mkSp ⟨[(0, Sp 0 0), (1, Si)], [(some 0, c1)]⟩ ⟨[], [(none, c1)]⟩ (rec_expr_parser_sum q).expr_parser_factor
namespace expr_parser_sum
theorem step (q : Nat) (ih : Sat P (LW ad) 165 (expr_parser_sum.spq q) ∧ Sat P (LW ad) 199 (expr_parser_row_c200.spq q) ∧ Sat P (LW ad) 200 (expr_parser_sum_1.spq q) ∧ Sat P (LW ad) 199 (expr_parser_row_c201.spq q) ∧ Sat P (LW ad) 201 (expr_parser_sum_1_1.spq q) ∧ Sat P (LW ad) 202 (expr_parser_factor.spq q) ∧ True) : Sat P (LW ad) 165 (spq (q + 1)) := sat_q mixed types_ok maps_ok 165 (spq (q + 1)) [((199, [200]), expr_parser_row_c200.spq q)] (specs_cons ih.2.1 (enter_of (by kernel_rfl)) specs_nil) t0 t0 t0 8 [] (fun n => f n (rec_expr_parser_sum q)) (fun a b c d e => 1000 + a.toNat + b.length + c.toNat + d.length + e.toNat) (by kernel_rfl) (by kernel_rfl)
end expr_parser_sum
namespace expr_parser_row_c200
theorem step (q : Nat) (ih : Sat P (LW ad) 165 (expr_parser_sum.spq q) ∧ Sat P (LW ad) 199 (expr_parser_row_c200.spq q) ∧ Sat P (LW ad) 200 (expr_parser_sum_1.spq q) ∧ Sat P (LW ad) 199 (expr_parser_row_c201.spq q) ∧ Sat P (LW ad) 201 (expr_parser_sum_1_1.spq q) ∧ Sat P (LW ad) 202 (expr_parser_factor.spq q) ∧ True) : Sat P (LW ad) 199 (spq (q + 1)) := sat_q mixed types_ok maps_ok 199 (spq (q + 1)) [((200, []), expr_parser_sum_1.spq q), (expr_parser_sign.T ad).kv, (expr_parser_put.T ad).kv] (specs_cons ih.2.2.1 (enter_of (by kernel_rfl)) (specs_T (expr_parser_sign.T ad) (specs_T (expr_parser_put.T ad) specs_nil))) t0 (fun n => tl 1 ⟨[(0, Sp 0 0), (1, .clo 200 [.ptr 1 0, .ptr 2 0]), (2, .c (.sl .str))], [(none, c1), (none, [.ptr 0 0]), (none, [ki])]⟩ (fun _ => l1 n (rec_expr_parser_sum q)) <| tn) t0 26 [] (fun n => f n (rec_expr_parser_sum q)) (fun a b c d e i => 1000 + a.length + b.length + c.toNat + d.length + e.toNat + i.toNat) (by kernel_rfl) (by kernel_rfl)
end expr_parser_row_c200
namespace expr_parser_sum_1
theorem step (q : Nat) (ih : Sat P (LW ad) 165 (expr_parser_sum.spq q) ∧ Sat P (LW ad) 199 (expr_parser_row_c200.spq q) ∧ Sat P (LW ad) 200 (expr_parser_sum_1.spq q) ∧ Sat P (LW ad) 199 (expr_parser_row_c201.spq q) ∧ Sat P (LW ad) 201 (expr_parser_sum_1_1.spq q) ∧ Sat P (LW ad) 202 (expr_parser_factor.spq q) ∧ True) : Sat P (LW ad) 200 (spq (q + 1)) := sat_q mixed types_ok maps_ok 200 (spq (q + 1)) [((199, [201]), expr_parser_row_c201.spq q)] (specs_cons ih.2.2.2.1 (enter_of (by kernel_rfl)) specs_nil) t0 t0 t0 6 [] (fun n => f n (rec_expr_parser_sum q)) (fun a b c d e => 1000 + a.toNat + b.length + c.toNat + d.length + e.toNat) (by kernel_rfl) (by kernel_rfl)
end expr_parser_sum_1
namespace expr_parser_row_c201
theorem step (q : Nat) (ih : Sat P (LW ad) 165 (expr_parser_sum.spq q) ∧ Sat P (LW ad) 199 (expr_parser_row_c200.spq q) ∧ Sat P (LW ad) 200 (expr_parser_sum_1.spq q) ∧ Sat P (LW ad) 199 (expr_parser_row_c201.spq q) ∧ Sat P (LW ad) 201 (expr_parser_sum_1_1.spq q) ∧ Sat P (LW ad) 202 (expr_parser_factor.spq q) ∧ True) : Sat P (LW ad) 199 (spq (q + 1)) := sat_q mixed types_ok maps_ok 199 (spq (q + 1)) [((201, []), expr_parser_sum_1_1.spq q), (expr_parser_sign.T ad).kv, (expr_parser_put.T ad).kv] (specs_cons ih.2.2.2.2.1 (enter_of (by kernel_rfl)) (specs_T (expr_parser_sign.T ad) (specs_T (expr_parser_put.T ad) specs_nil))) t0 (fun n => tl 1 ⟨[(0, Sp 0 0), (1, .clo 201 [.ptr 1 0, .ptr 2 0]), (2, .c (.sl .str))], [(none, c1), (none, [.ptr 0 0]), (none, [ki])]⟩ (fun _ => l1 n (rec_expr_parser_sum q)) <| tn) t0 26 [] (fun n => f n (rec_expr_parser_sum q)) (fun a b c d e i => 1000 + a.length + b.length + c.toNat + d.length + e.toNat + i.toNat) (by kernel_rfl) (by kernel_rfl)
end expr_parser_row_c201
namespace expr_parser_sum_1_1
theorem step (q : Nat) (ih : Sat P (LW ad) 165 (expr_parser_sum.spq q) ∧ Sat P (LW ad) 199 (expr_parser_row_c200.spq q) ∧ Sat P (LW ad) 200 (expr_parser_sum_1.spq q) ∧ Sat P (LW ad) 199 (expr_parser_row_c201.spq q) ∧ Sat P (LW ad) 201 (expr_parser_sum_1_1.spq q) ∧ Sat P (LW ad) 202 (expr_parser_factor.spq q) ∧ True) : Sat P (LW ad) 201 (spq (q + 1)) := sat_q mixed types_ok maps_ok 201 (spq (q + 1)) [((202, []), expr_parser_factor.spq q)] (specs_cons ih.2.2.2.2.2.1 (enter_of (by kernel_rfl)) specs_nil) t0 t0 t0 5 [] (fun n => f n (rec_expr_parser_sum q)) (fun a b c d e => 1000 + a.toNat + b.length + c.toNat + d.length + e.toNat) (by kernel_rfl) (by kernel_rfl)
end expr_parser_sum_1_1
namespace expr_parser_factor
theorem step (q : Nat) (ih : Sat P (LW ad) 165 (expr_parser_sum.spq q) ∧ Sat P (LW ad) 199 (expr_parser_row_c200.spq q) ∧ Sat P (LW ad) 200 (expr_parser_sum_1.spq q) ∧ Sat P (LW ad) 199 (expr_parser_row_c201.spq q) ∧ Sat P (LW ad) 201 (expr_parser_sum_1_1.spq q) ∧ Sat P (LW ad) 202 (expr_parser_factor.spq q) ∧ True) : Sat P (LW ad) 202 (spq (q + 1)) := sat_q mixed types_ok maps_ok 202 (spq (q + 1)) [(expr_parser_fail.T ad).kv, (expr_parser_sign.T ad).kv, ((202, []), expr_parser_factor.spq q), (expr_parser_put.T ad).kv, ((165, []), expr_parser_sum.spq q), (expr_parser_next.T ad).kv, (name_Label.T ad).kv] (specs_T (expr_parser_fail.T ad) (specs_T (expr_parser_sign.T ad) (specs_cons ih.2.2.2.2.2.1 (enter_of (by kernel_rfl)) (specs_T (expr_parser_put.T ad) (specs_cons ih.1 (enter_of (by kernel_rfl)) (specs_T (expr_parser_next.T ad) (specs_T (name_Label.T ad) specs_nil))))))) (fun n => tj 19 ⟨[(0, Sp 0 0)], [(none, c1)]⟩ (fun _ => j19 n (rec_expr_parser_sum q)) <| tn) t0 t0 94 [] (fun n => f n (rec_expr_parser_sum q)) (fun a b c d e => 1000 + a.toNat + b.length + c.toNat + d.length + e.toNat) (by kernel_rfl) (by kernel_rfl)
end expr_parser_factor
theorem rec_expr_parser_sum_sat : ∀ q, Sat P (LW ad) 165 (expr_parser_sum.spq q) ∧ Sat P (LW ad) 199 (expr_parser_row_c200.spq q) ∧ Sat P (LW ad) 200 (expr_parser_sum_1.spq q) ∧ Sat P (LW ad) 199 (expr_parser_row_c201.spq q) ∧ Sat P (LW ad) 201 (expr_parser_sum_1_1.spq q) ∧ Sat P (LW ad) 202 (expr_parser_factor.spq q) ∧ True
 | 0 => ⟨sat_none fun _ => rfl, sat_none fun _ => rfl, sat_none fun _ => rfl, sat_none fun _ => rfl, sat_none fun _ => rfl, sat_none fun _ => rfl, trivial⟩
 | q + 1 => ⟨expr_parser_sum.step q (rec_expr_parser_sum_sat q), expr_parser_row_c200.step q (rec_expr_parser_sum_sat q), expr_parser_sum_1.step q (rec_expr_parser_sum_sat q), expr_parser_row_c201.step q (rec_expr_parser_sum_sat q), expr_parser_sum_1_1.step q (rec_expr_parser_sum_sat q), expr_parser_factor.step q (rec_expr_parser_sum_sat q), trivial⟩
def expr_parser_sum.sp : Spec := mkSp ⟨[(0, Sp 0 0), (1, Si)], [(some 0, c1)]⟩ ⟨[], [(none, c1)]⟩ expr_parser_sum.g
noncomputable def expr_parser_sum.T (ad : LQ) : TF P (LW ad) := ⟨165, [], expr_parser_sum.sp, sat_fq (F := fun q => (rec_expr_parser_sum q).expr_parser_sum) (fun a b c d e => 1000 + a.toNat + b.length + c.toNat + d.length + e.toNat) (fun q => (rec_expr_parser_sum_sat q).1) (fun _ => by kernel_rfl), enter_of (by kernel_rfl)⟩
def expr_parser_row_c200.sp : Spec := mkSp ⟨[(0, Sp 0 0), (1, .clo 200 [.ptr 1 0, .ptr 2 0]), (2, .c (.sl .str))], [(some 0, c1), (some 1, [.ptr 0 0]), (some 2, [ki])]⟩ ⟨[], [(none, c1), (none, [.ptr 0 0]), (none, [ki])]⟩ expr_parser_row_c200.g
noncomputable def expr_parser_row_c200.T (ad : LQ) : TF P (LW ad) := ⟨199, [200], expr_parser_row_c200.sp, sat_fq (F := fun q => (rec_expr_parser_sum q).expr_parser_row_c200) (fun a b c d e i => 1000 + a.length + b.length + c.toNat + d.length + e.toNat + i.toNat) (fun q => (rec_expr_parser_sum_sat q).2.1) (fun _ => by kernel_rfl), enter_of (by kernel_rfl)⟩
def expr_parser_sum_1.sp : Spec := mkSp ⟨[(0, Sp 0 0), (1, Sp 1 0)], [(some 0, [.ptr 2 0]), (some 1, [ki]), (some 2, c1)]⟩ ⟨[], [(none, [.ptr 2 0]), (none, [ki]), (none, c1)]⟩ expr_parser_sum_1.g
noncomputable def expr_parser_sum_1.T (ad : LQ) : TF P (LW ad) := ⟨200, [], expr_parser_sum_1.sp, sat_fq (F := fun q => (rec_expr_parser_sum q).expr_parser_sum_1) (fun a b c d e => 1000 + a.toNat + b.length + c.toNat + d.length + e.toNat) (fun q => (rec_expr_parser_sum_sat q).2.2.1) (fun _ => by kernel_rfl), enter_of (by kernel_rfl)⟩
def expr_parser_row_c201.sp : Spec := mkSp ⟨[(0, Sp 0 0), (1, .clo 201 [.ptr 1 0, .ptr 2 0]), (2, .c (.sl .str))], [(some 0, c1), (some 1, [.ptr 0 0]), (some 2, [ki])]⟩ ⟨[], [(none, c1), (none, [.ptr 0 0]), (none, [ki])]⟩ expr_parser_row_c201.g
noncomputable def expr_parser_row_c201.T (ad : LQ) : TF P (LW ad) := ⟨199, [201], expr_parser_row_c201.sp, sat_fq (F := fun q => (rec_expr_parser_sum q).expr_parser_row_c201) (fun a b c d e i => 1000 + a.length + b.length + c.toNat + d.length + e.toNat + i.toNat) (fun q => (rec_expr_parser_sum_sat q).2.2.2.1) (fun _ => by kernel_rfl), enter_of (by kernel_rfl)⟩
def expr_parser_sum_1_1.sp : Spec := mkSp ⟨[(0, Sp 0 0), (1, Sp 1 0)], [(some 0, [.ptr 2 0]), (some 1, [ki]), (some 2, c1)]⟩ ⟨[], [(none, [.ptr 2 0]), (none, [ki]), (none, c1)]⟩ expr_parser_sum_1_1.g
noncomputable def expr_parser_sum_1_1.T (ad : LQ) : TF P (LW ad) := ⟨201, [], expr_parser_sum_1_1.sp, sat_fq (F := fun q => (rec_expr_parser_sum q).expr_parser_sum_1_1) (fun a b c d e => 1000 + a.toNat + b.length + c.toNat + d.length + e.toNat) (fun q => (rec_expr_parser_sum_sat q).2.2.2.2.1) (fun _ => by kernel_rfl), enter_of (by kernel_rfl)⟩
def expr_parser_factor.sp : Spec := mkSp ⟨[(0, Sp 0 0), (1, Si)], [(some 0, c1)]⟩ ⟨[], [(none, c1)]⟩ expr_parser_factor.g
noncomputable def expr_parser_factor.T (ad : LQ) : TF P (LW ad) := ⟨202, [], expr_parser_factor.sp, sat_fq (F := fun q => (rec_expr_parser_sum q).expr_parser_factor) (fun a b c d e => 1000 + a.toNat + b.length + c.toNat + d.length + e.toNat) (fun q => (rec_expr_parser_sum_sat q).2.2.2.2.2.1) (fun _ => by kernel_rfl), enter_of (by kernel_rfl)⟩
namespace expr_Parse
def sp : Spec := mkSp ⟨[(0, .c (.sl u0)), (1, Si)], []⟩ ⟨[(0, .c (.row 54 u1)), (1, Si), (2, Si)], []⟩ g
noncomputable def T (ad : LQ) := mkF ad 122 [] sp [expr_parser_sum.T ad] (fun n => tj 5 ⟨[(7, Sp 0 0)], [(some 0, c1)]⟩ (fun _ => j5 n) <| tn) t0 t0 47 [] f (fun a b => 1000 + a.length + b.toNat) (by kernel_rfl)
end expr_Parse
namespace stmt_number_1
def sp : Spec := mkSp ⟨[(0, Sp 0 0), (1, Sp 1 0), (2, .c (.pp .str))], [(some 0, [.sl u0, ki, ki]), (some 1, c0)]⟩ ⟨[], [(none, [.sl u0, ki, ki]), (none, c0)]⟩ g
noncomputable def T (ad : LQ) := mkF ad 121 [] sp [stmt_parser_take.T ad, stmt_parser_check.T ad, expr_Parse.T ad] (fun n => tj 2 ⟨[(0, Sp 0 0), (1, Sp 1 0)], [(none, [.sl u0, ki, ki]), (none, c0)]⟩ (fun _ => j2 n) <| tn) t0 t0 40 [] f (fun a b c d e i j k l _ p q => 1000 + a.length + b.length + c.toNat + d.toNat + e.toNat + i.toNat + j.toNat + k.toNat + l.toNat + p.length + q.length) (by kernel_rfl)
end stmt_number_1
namespace le_is
def sp : Spec := mkSp ⟨[(0, Sb), (1, SB)], []⟩ ⟨[(0, SB)], []⟩ g
noncomputable def T (ad : LQ) := mkF ad 86 [] sp [] (fun n => tj 4 ⟨[(0, Sb), (1, SB)], []⟩ (fun _ => j4 n) <| tn) t0 t0 32 [] f (fun a _ => 1000 + a.toNat) (by kernel_rfl)
end le_is
namespace le_Name
def sp : Spec := mkSp ⟨[(0, Ss)], []⟩ ⟨[(0, SB)], []⟩ g
noncomputable def T (ad : LQ) := mkF ad 55 [] sp [le_is.T ad, strings_Trim.T ad] t0 (fun n => tl 4 ⟨[(0, Ss), (14, Si), (15, Si)], []⟩ (fun _ => l4 n) <| tn) t0 47 [] f (fun a => 1000 + a.length) (by kernel_rfl)
end le_Name
namespace stmt_operands_4
def sp : Spec := mkSp ⟨[(0, Sp 0 0), (1, Sp 1 0)], [(some 0, [.sl u0, ki, ki]), (some 1, c0)]⟩ ⟨[], [(none, [.sl u0, ki, ki]), (none, c0)]⟩ g
noncomputable def T (ad : LQ) := mkF ad 78 [] sp [stmt_parser_take.T ad, le_Name.T ad, stmt_parser_check.T ad] t0 t0 t0 16 [] f (fun a b c d e i j k _ o p => 1000 + a.length + b.toNat + c.toNat + d.toNat + e.toNat + i.toNat + j.toNat + k.toNat + o.length + p.length) (by kernel_rfl)
end stmt_operands_4
namespace stmt_Parse
def sp : Spec := mkSp ⟨[(0, .c (.sl u0))], []⟩ ⟨[(0, Ss), (1, .agg c0), (2, Si)], []⟩ g
noncomputable def T (ad : LQ) := mkF ad 19 [] sp [name_Label.T ad, stmt_parser_check.T ad, name_Of.T ad, stmt_dotted.T ad, stmt_operands.T ad, stmt_parser_take.T ad, stmt_parser_choose.T ad, stmt_register_1.T ad, stmt_number_1.T ad, stmt_operands_4.T ad] (fun n => tj 20 ⟨[(0, .c (.sl u0)), (2, Ss), (3, Sp 0 0), (5, Sp 1 0), (8, Si), (11, Si), (116, Si), (117, Si)], [(some 2, c0), (some 3, [.sl u0, ki, ki])]⟩ (fun ms => j20 n (l13 n ms.head!)) <| tj 19 ⟨[(0, .c (.sl u0)), (2, Ss), (3, Sp 0 0), (5, Sp 1 0), (8, Si), (11, Si), (12, Si), (116, Si), (117, Si)], [(some 2, c0), (some 3, [.sl u0, ki, ki])]⟩ (fun ms => j19 n (l13 n ms.head!)) <| tj 17 ⟨[(0, .c (.sl u0)), (2, Ss), (3, Sp 0 0), (5, Sp 1 0), (8, Si), (11, Si), (12, Si), (116, Si), (117, Si)], [(some 2, c0), (some 3, [.sl u0, ki, ki])]⟩ (fun ms => j17 n (l13 n ms.head!)) <| tj 22 ⟨[(2, Ss), (3, Sp 0 0), (5, Sp 1 0)], [(some 1, c0), (some 2, [.sl u0, ki, ki])]⟩ (fun _ => j22 n) <| tj 9 ⟨[(0, .c (.sl u0)), (2, Ss), (3, Sp 0 0), (5, Sp 1 0), (7, Si), (8, Si), (9, SB)], [(some 2, c0), (some 3, [.sl u0, ki, ki])]⟩ (fun _ => j9 n) <| tj 5 ⟨[(0, .c (.sl u0)), (2, Ss), (3, Sp 0 0), (5, Sp 1 0)], [(some 2, c0), (some 3, [.sl u0, ki, ki])]⟩ (fun _ => j5 n) <| tn) (fun n => tl 13 ⟨[(0, .c (.sl u0)), (2, Ss), (3, Sp 0 0), (5, Sp 1 0), (8, Si), (11, Si), (116, Si), (117, Si)], [(some 2, c0), (some 3, [.sl u0, ki, ki])]⟩ (fun _ => l13 n) <| tn) t0 165 [K.rdA, K.rdB, K.rdC, K.rdE, K.rdQ, K.rdN] f (fun a => 1000 + a.length) (by kernel_rfl)
end stmt_Parse
namespace rivetlaw17_shown
def sp : Spec := mkSp ⟨[], []⟩ ⟨[(0, SB)], []⟩ g
noncomputable def T (ad : LQ) := mkF ad 20 [] sp [scan_Line.T ad, stmt_Parse.T ad] t0 t0 t0 48 [] f (1000 : Nat) (by kernel_rfl)
end rivetlaw17_shown
namespace rivetref07_Fit
def sp : Spec := mkSp ⟨[(0, Ss)], []⟩ ⟨[(0, Ss)], []⟩ g
noncomputable def T (ad : LQ) := mkF ad 49 [] sp [] t0 (fun n => tl 4 ⟨[(0, Ss), (3, Ss), (4, Ss), (5, Si)], []⟩ (fun _ => l4 n) <| tn) t0 39 [] f (fun a => 1000 + a.length) (by kernel_rfl)
end rivetref07_Fit
namespace rivetref13_Fit
def sp : Spec := mkSp ⟨[(0, Ss)], []⟩ ⟨[(0, Ss)], []⟩ g
noncomputable def T (ad : LQ) := mkF ad 22 [] sp [rivetref07_Fit.T ad] t0 t0 t0 17 [] f (fun a => 1000 + a.length) (by kernel_rfl)
end rivetref13_Fit
namespace rivetref15_Fit
def sp : Spec := mkSp ⟨[(0, .c (.sl u1))], []⟩ ⟨[(0, .c (.row 54 u1))], []⟩ g
noncomputable def T (ad : LQ) := mkF ad 48 [] sp [rivetref13_Fit.T ad] (fun n => tj 18 ⟨[(0, .c (.sl u1)), (3, .c (.row 54 u1)), (4, Si), (5, Si), (6, Sp 0 0)], [(some 4, [ki, ku, .str])]⟩ (fun ms => j18 n (l4 n ms.head!)) <| tj 9 ⟨[(0, .c (.sl u1)), (3, .c (.row 54 u1)), (4, Si), (5, Si), (6, Sp 0 0)], [(some 4, [ki, ku, .str])]⟩ (fun ms => j9 n (l4 n ms.head!)) <| tj 19 ⟨[(3, .c (.row 54 u1)), (4, Si)], []⟩ (fun _ => j19 n) <| tn) (fun n => tl 21 ⟨[(3, .c (.row 54 u1)), (4, Si)], []⟩ (fun _ => l21 n) <| tl 4 ⟨[(0, .c (.sl u1)), (3, .c (.row 54 u1)), (4, Si), (5, Si)], []⟩ (fun _ => l4 n) <| tn) t0 97 [] f (fun a => 1000 + a.length) (by kernel_rfl)
end rivetref15_Fit
namespace rivetref03_Fit
def sp : Spec := mkSp ⟨[(0, .agg c2)], []⟩ ⟨[(0, .agg c2)], []⟩ g
noncomputable def T (ad : LQ) := mkF ad 27 [] sp [] (fun n => tj 25 ⟨[(2, Sp 0 0), (3, Sp 1 0)], [(some 0, c2), (some 1, c2)]⟩ (fun _ => j25 n) <| tj 10 ⟨[(1, Sp 0 0), (2, Sp 1 0), (3, Sp 2 0), (4, Si)], [(some 0, c2), (some 1, c2), (some 2, c2)]⟩ (fun _ => j10 n) <| tj 9 ⟨[(1, Sp 0 0), (2, Sp 1 0), (3, Sp 2 0), (4, Si)], [(some 0, c2), (some 1, c2), (some 2, c2)]⟩ (fun _ => j9 n) <| tj 7 ⟨[(1, Sp 0 0), (2, Sp 1 0), (3, Sp 2 0), (4, Si)], [(some 0, c2), (some 1, c2), (some 2, c2)]⟩ (fun _ => j7 n) <| tj 19 ⟨[(1, Sp 0 0), (2, Sp 1 0), (3, Sp 2 0)], [(some 0, c2), (some 1, c2), (some 2, c2)]⟩ (fun _ => j19 n) <| tn) t0 t0 111 [] f (fun a b c d e i _ => 1000 + a.toNat + b.toNat + c.toNat + d.toNat + e.toNat + i.toNat) (by kernel_rfl)
end rivetref03_Fit
namespace rivetref17_Fit
def sp : Spec := mkSp ⟨[(0, .agg c0)], []⟩ ⟨[(0, .agg c0)], []⟩ g
noncomputable def T (ad : LQ) := mkF ad 21 [] sp [rivetref15_Fit.T ad, rivetref03_Fit.T ad, rivetref07_Fit.T ad] (fun n => tj 8 ⟨[(2, Sp 0 0), (6, Sp 1 0)], [(some 0, c0), (some 1, c0)]⟩ (fun _ => j8 n) <| tj 9 ⟨[(1, Sp 0 0), (2, Sp 1 0), (3, Si), (4, .c (.row 54 u1))], [(some 0, c0), (some 1, c0)]⟩ (fun _ => j9 n) <| tn) t0 t0 88 [] f (fun a b c d e _ j k => 1000 + a.toNat + b.toNat + c.toNat + d.toNat + e.toNat + j.length + k.length) (by kernel_rfl)
end rivetref17_Fit
namespace stmt_numbered
def sp : Spec := mkSp ⟨[(0, Si)], []⟩ ⟨[(0, SB)], []⟩ g
noncomputable def T (ad : LQ) := mkF ad 53 [] sp [] t0 t0 t0 10 [] f (fun a => 1000 + a.toNat) (by kernel_rfl)
end stmt_numbered
namespace expr_needs
def sp : Spec := mkSp ⟨[(0, .agg [ki, ku, .str])], []⟩ ⟨[(0, Si), (1, SB)], []⟩ g
noncomputable def T (ad : LQ) := mkF ad 85 [] sp [name_Label.T ad] (fun n => tj 2 ⟨[(1, Sp 0 0), (4, SB)], [(some 0, [ki, ku, .str])]⟩ (fun _ => j2 n) <| tn) t0 t0 38 [] f (fun a b c => 1000 + a.toNat + b.toNat + c.length) (by kernel_rfl)
end expr_needs
namespace expr_Well
def sp : Spec := mkSp ⟨[(0, .c (.sl u1))], []⟩ ⟨[(0, SB)], []⟩ g
noncomputable def T (ad : LQ) := mkF ad 54 [] sp [expr_needs.T ad] t0 (fun n => tl 3 ⟨[(0, .c (.sl u1)), (3, Si), (8, .c (.sl u1)), (9, Si), (10, Si)], []⟩ (fun _ => l3 n) <| tn) t0 38 [] f (fun a => 1000 + a.length) (by kernel_rfl)
end expr_Well
namespace isa_between
def sp : Spec := mkSp ⟨[(0, Si), (1, Si), (2, Si)], []⟩ ⟨[(0, SB)], []⟩ g
noncomputable def T (ad : LQ) := mkF ad 88 [] sp [] t0 t0 t0 15 [] f (fun a b c => 1000 + a.toNat + b.toNat + c.toNat) (by kernel_rfl)
end isa_between
namespace isa_bit
def sp : Spec := mkSp ⟨[(0, SB)], []⟩ ⟨[(0, Su)], []⟩ g
noncomputable def T (ad : LQ) := mkF ad 176 [] sp [] t0 t0 t0 4 [] f (fun _ => (1000 : Nat)) (by kernel_rfl)
end isa_bit
namespace isa_head
def sp : Spec := mkSp ⟨[(0, Si), (1, SB), (2, SB)], []⟩ ⟨[(0, .agg [ki, ki, ki])], []⟩ g
noncomputable def T (ad : LQ) := mkF ad 134 [] sp [isa_bit.T ad] t0 t0 t0 19 [] f (fun a _ _ => 1000 + a.toNat) (by kernel_rfl)
end isa_head
namespace field_Set_1
def sp : Spec := mkSp ⟨[(0, Si), (1, Si), (2, Sp 0 0), (3, Sp 1 0)], [(some 2, [ku]), (some 3, [ku])]⟩ ⟨[], [(none, [ku]), (none, [ku])]⟩ g
noncomputable def T (ad : LQ) := mkF ad 209 [] sp [] t0 t0 t0 17 [] f (fun a b c d => 1000 + a.toNat + b.toNat + c.toNat + d.toNat) (by kernel_rfl)
end field_Set_1
namespace field_each_c209
def sp : Spec := mkSp ⟨[(0, Si), (1, Si), (2, .clo 209 [.ptr 0 0, .ptr 1 0])], [(some 2, [ku]), (some 3, [ku])]⟩ ⟨[], [(none, [ku]), (none, [ku])]⟩ g
noncomputable def T (ad : LQ) := mkF ad 172 [209] sp [field_Set_1.T ad] t0 (fun n => tl 2 ⟨[(0, Si), (1, Si), (2, .clo 209 [.ptr 0 0, .ptr 1 0]), (6, Si)], [(none, [ku]), (none, [ku])]⟩ (fun _ => l2 n) <| tn) t0 38 [] f (fun a b c d => 1000 + a.toNat + b.toNat + c.toNat + d.toNat) (by kernel_rfl)
end field_each_c209
namespace field_Set
def sp : Spec := mkSp ⟨[(0, Su), (1, Si), (2, Si), (3, Su)], []⟩ ⟨[(0, Su)], []⟩ g
noncomputable def T (ad : LQ) := mkF ad 175 [] sp [field_each_c209.T ad] t0 t0 t0 14 [] f (fun a b c d => 1000 + a.toNat + b.toNat + c.toNat + d.toNat) (by kernel_rfl)
end field_Set
namespace isa_lay
def sp : Spec := mkSp ⟨[(0, .c (.sl u2))], []⟩ ⟨[(0, Su)], []⟩ g
noncomputable def T (ad : LQ) := mkF ad 133 [] sp [field_Set.T ad] t0 (fun n => tl 3 ⟨[(3, Su), (6, .c (.sl u2)), (7, Si), (8, Si)], []⟩ (fun _ => l3 n) <| tn) t0 23 [] f (fun a => 1000 + a.length) (by kernel_rfl)
end isa_lay
namespace isa_word
def sp : Spec := mkSp ⟨[(0, .agg c2)], []⟩ ⟨[(0, Su)], []⟩ g
noncomputable def T (ad : LQ) := mkF ad 90 [] sp [isa_head.T ad, isa_lay.T ad] (fun n => tj 14 ⟨[(1, Sp 0 0), (6, Sp 1 0)], [(some 0, c2), (some 1, [ki, ki, ki])]⟩ (fun _ => j14 n) <| tn) t0 t0 97 [] f (fun a b c d e i _ => 1000 + a.toNat + b.toNat + c.toNat + d.toNat + e.toNat + i.toNat) (by kernel_rfl)
end isa_word
namespace field_Get_1
def sp : Spec := mkSp ⟨[(0, Si), (1, Si), (2, Sp 0 0), (3, Sp 1 0)], [(some 2, [ku]), (some 3, [ku])]⟩ ⟨[], [(none, [ku]), (none, [ku])]⟩ g
noncomputable def T (ad : LQ) := mkF ad 173 [] sp [] t0 t0 t0 14 [] f (fun a b c d => 1000 + a.toNat + b.toNat + c.toNat + d.toNat) (by kernel_rfl)
end field_Get_1
namespace field_each_c173
def sp : Spec := mkSp ⟨[(0, Si), (1, Si), (2, .clo 173 [.ptr 0 0, .ptr 1 0])], [(some 2, [ku]), (some 3, [ku])]⟩ ⟨[], [(none, [ku]), (none, [ku])]⟩ g
noncomputable def T (ad : LQ) := mkF ad 172 [173] sp [field_Get_1.T ad] t0 (fun n => tl 2 ⟨[(0, Si), (1, Si), (2, .clo 173 [.ptr 0 0, .ptr 1 0]), (6, Si)], [(none, [ku]), (none, [ku])]⟩ (fun _ => l2 n) <| tn) t0 38 [] f (fun a b c d => 1000 + a.toNat + b.toNat + c.toNat + d.toNat) (by kernel_rfl)
end field_each_c173
namespace field_Get
def sp : Spec := mkSp ⟨[(0, Su), (1, Si), (2, Si)], []⟩ ⟨[(0, Su)], []⟩ g
noncomputable def T (ad : LQ) := mkF ad 131 [] sp [field_each_c173.T ad] t0 t0 t0 13 [] f (fun a b c => 1000 + a.toNat + b.toNat + c.toNat) (by kernel_rfl)
end field_Get
namespace isa_read_1
def sp : Spec := mkSp ⟨[(0, Si), (1, Si), (2, .c (.pp (.int .u32)))], []⟩ ⟨[(0, Si)], []⟩ g
noncomputable def T (ad : LQ) := mkF ad 130 [] sp [field_Get.T ad] t0 t0 t0 11 [] f (fun a b c => 1000 + a.toNat + b.toNat + c.toNat) (by kernel_rfl)
end isa_read_1
namespace field_known
def sp : Spec := mkSp ⟨[(0, Si)], []⟩ ⟨[(0, Si)], []⟩ g
noncomputable def T (ad : LQ) := mkF ad 174 [] sp [] t0 t0 t0 6 [] f (fun a => 1000 + a.toNat) (by kernel_rfl)
end field_known
namespace field_Signed
def sp : Spec := mkSp ⟨[(0, Su), (1, Si)], []⟩ ⟨[(0, Si)], []⟩ g
noncomputable def T (ad : LQ) := mkF ad 132 [] sp [field_known.T ad] t0 t0 t0 16 [] f (fun a b => 1000 + a.toNat + b.toNat) (by kernel_rfl)
end field_Signed
namespace isa_read
def sp : Spec := mkSp ⟨[(0, Su)], []⟩ ⟨[(0, .agg c2)], []⟩ g
noncomputable def T (ad : LQ) := mkF ad 89 [] sp [isa_read_1.T ad, field_Signed.T ad] (fun n => tj 16 ⟨[(2, Sp 0 0), (6, Sp 1 0)], [(some 0, c2), (some 1, c2)]⟩ (fun _ => j16 n) <| tn) t0 t0 80 [] f (fun a => 1000 + a.toNat) (by kernel_rfl)
end isa_read
namespace isa_May
def sp : Spec := mkSp ⟨[(0, .agg c2)], []⟩ ⟨[(0, SB)], []⟩ g
noncomputable def T (ad : LQ) := mkF ad 57 [] sp [isa_between.T ad, isa_word.T ad, isa_read.T ad] (fun n => tj 10 ⟨[(1, Sp 0 0)], [(some 0, c2)]⟩ (fun _ => j10 n) <| tn) t0 t0 64 [] f (fun a b c d e i _ => 1000 + a.toNat + b.toNat + c.toNat + d.toNat + e.toNat + i.toNat) (by kernel_rfl)
end isa_May
namespace stmt_May
def sp : Spec := mkSp ⟨[(0, .agg c0)], []⟩ ⟨[(0, SB)], []⟩ g
noncomputable def T (ad : LQ) := mkF ad 24 [] sp [stmt_numbered.T ad, expr_Well.T ad, le_Name.T ad, name_RegName.T ad, isa_May.T ad] (fun n => tj 12 ⟨[(3, Sp 0 0)], [(some 0, c2)]⟩ (fun _ => j12 n) <| tj 4 ⟨[(1, Sp 0 0), (3, Sp 1 0)], [(some 0, c0), (some 1, c2)]⟩ (fun _ => j4 n) <| tn) t0 t0 84 [] f (fun a b c d e _ j k => 1000 + a.toNat + b.toNat + c.toNat + d.toNat + e.toNat + j.length + k.length) (by kernel_rfl)
end stmt_May
namespace stmt_head
def sp : Spec := mkSp ⟨[(0, Si)], []⟩ ⟨[(0, Si)], []⟩ g
noncomputable def T (ad : LQ) := mkF ad 51 [] sp [] t0 t0 t0 9 [] f (fun a => 1000 + a.toNat) (by kernel_rfl)
end stmt_head
namespace stmt_register_2
def sp : Spec := mkSp ⟨[(0, .agg c0), (1, .c (.pp .fn))], []⟩ ⟨[(0, Ss)], []⟩ g
noncomputable def T (ad : LQ) := mkF ad 120 [] sp [stmt_operands_1.T ad, name_RegName.T ad, stmt_operands_2.T ad, stmt_operands_3.T ad] t0 t0 t0 9 [K.atA, K.atB, K.atC] f (fun a b c d e _ j k _ => 1000 + a.toNat + b.toNat + c.toNat + d.toNat + e.toNat + j.length + k.length) (by kernel_rfl)
end stmt_register_2
namespace strconv_FormatUint
def sp : Spec := mkSp ⟨[(0, .c kq), (1, Si)], []⟩ ⟨[(0, Ss)], []⟩ g
noncomputable def T (ad : LQ) := mkF ad 166 [] sp [internal_strconv_FormatUint.T ad] t0 t0 t0 8 [] f (fun a b => 1000 + a.toNat + b.toNat) (by kernel_rfl)
end strconv_FormatUint
namespace expr_part_at
def sp : Spec := mkSp ⟨[(0, .agg [.str, ki]), (1, Si)], []⟩ ⟨[(0, Ss)], []⟩ g
noncomputable def T (ad : LQ) := mkF ad 167 [] sp [] t0 t0 t0 15 [] f (fun a b c => 1000 + a.length + b.toNat + c.toNat) (by kernel_rfl)
end expr_part_at
namespace expr_Print
def sp : Spec := mkSp ⟨[(0, .c (.sl u1))], []⟩ ⟨[(0, Ss), (1, Si)], []⟩ g
noncomputable def T (ad : LQ) := mkF ad 124 [] sp [expr_Well.T ad, expr_needs.T ad, strconv_FormatUint.T ad, expr_part_at.T ad] (fun n => tj 23 ⟨[(4, .c (.row 183 u3)), (7, Si), (10, Sp 0 0), (14, .c (.sl u1)), (15, Si), (16, Si)], [(some 2, [.str, ki])]⟩ (fun ms => j23 n (l5 n ms.head!)) <| tn) (fun n => tl 5 ⟨[(4, .c (.row 183 u3)), (14, .c (.sl u1)), (15, Si), (16, Si)], []⟩ (fun _ => l5 n) <| tn) t0 106 [] f (fun a => 1000 + a.length) (by kernel_rfl)
end expr_Print
namespace strings_trimLeftByte
def sp : Spec := mkSp ⟨[(0, Ss), (1, Sb)], []⟩ ⟨[(0, Ss)], []⟩ g
noncomputable def T (ad : LQ) := mkF ad 109 [] sp [] t0 (fun n => tl 1 ⟨[(0, Ss), (1, Sb)], []⟩ (fun _ => l1 n) <| tn) t0 17 [] f (fun a b => 1000 + a.length + b.toNat) (by kernel_rfl)
end strings_trimLeftByte
namespace strings_TrimLeft
def sp : Spec := mkSp ⟨[(0, Ss), (1, Ss)], []⟩ ⟨[(0, Ss)], []⟩ g
noncomputable def T (ad : LQ) := mkF ad 125 [] sp [strings_trimLeftByte.T ad] (fun n => tj 5 ⟨[(0, Ss), (1, Ss)], []⟩ (fun _ => j5 n) <| tn) t0 t0 37 [] f (fun a b => 1000 + a.length + b.length) (by kernel_rfl)
end strings_TrimLeft
namespace stmt_number_2
def sp : Spec := mkSp ⟨[(0, .agg c0), (1, .c (.pp .str))], []⟩ ⟨[(0, Ss)], []⟩ g
noncomputable def T (ad : LQ) := mkF ad 123 [] sp [expr_Print.T ad, strings_TrimLeft.T ad] t0 t0 t0 17 [] f (fun a b c d e _ j k l => 1000 + a.toNat + b.toNat + c.toNat + d.toNat + e.toNat + j.length + k.length + l.length) (by kernel_rfl)
end stmt_number_2
namespace stmt_operands_5
def sp : Spec := mkSp ⟨[(0, .agg c0)], []⟩ ⟨[(0, Ss)], []⟩ g
noncomputable def T (ad : LQ) := mkF ad 79 [] sp [] t0 t0 t0 5 [] f (fun a b c d e _ j k => 1000 + a.toNat + b.toNat + c.toNat + d.toNat + e.toNat + j.length + k.length) (by kernel_rfl)
end stmt_operands_5
namespace stmt_Print
def sp : Spec := mkSp ⟨[(0, Ss), (1, .agg c0)], []⟩ ⟨[(0, Ss), (1, Si)], []⟩ g
noncomputable def T (ad : LQ) := mkF ad 23 [] sp [name_Label.T ad, stmt_May.T ad, stmt_head.T ad, name_Mnemonic.T ad, stmt_dotted.T ad, stmt_operands.T ad, strings_Join.T ad, stmt_register_2.T ad, stmt_number_2.T ad, stmt_operands_5.T ad] (fun n => tj 15 ⟨[(3, Sp 0 0), (6, .c (.row 9 .str)), (7, Ss), (8, .c (.row 9 .str)), (50, .c (.sl u4)), (51, Si), (52, Si)], [(some 0, c0)]⟩ (fun ms => j15 n (l12 n ms.head!)) <| tj 17 ⟨[(6, .c (.row 9 .str))], []⟩ (fun _ => j17 n) <| tj 10 ⟨[(3, Sp 0 0), (6, .c (.row 9 .str)), (7, Ss)], [(some 0, c0)]⟩ (fun _ => j10 n) <| tj 6 ⟨[(3, Sp 0 0), (6, .c (.row 9 .str))], [(some 0, c0)]⟩ (fun _ => j6 n) <| tj 3 ⟨[(0, Ss), (3, Sp 0 0)], [(some 1, c0)]⟩ (fun _ => j3 n) <| tn) (fun n => tl 12 ⟨[(3, Sp 0 0), (6, .c (.row 9 .str)), (7, Ss), (8, .c (.row 9 .str)), (50, .c (.sl u4)), (51, Si), (52, Si)], [(some 0, c0)]⟩ (fun _ => l12 n) <| tn) t0 72 [K.wrA, K.wrB, K.wrC, K.wrE, K.wrQ, K.wrN] f (fun a b c d e i _ k l => 1000 + a.length + b.toNat + c.toNat + d.toNat + e.toNat + i.toNat + k.length + l.length) (by kernel_rfl)
end stmt_Print
namespace rivetref17_Instr
def sp : Spec := mkSp ⟨[(0, .agg c0)], []⟩ ⟨[(0, .agg c2)], []⟩ g
noncomputable def T (ad : LQ) := mkF ad 58 [] sp [] t0 t0 t0 16 [] f (fun a b c d e _ j k => 1000 + a.toNat + b.toNat + c.toNat + d.toNat + e.toNat + j.length + k.length) (by kernel_rfl)
end rivetref17_Instr
namespace rivetref15_Same
def sp : Spec := mkSp ⟨[(0, .c (.sl u1)), (1, .c (.sl u1))], []⟩ ⟨[(0, SB)], []⟩ g
noncomputable def T (ad : LQ) := mkF ad 59 [] sp [] t0 (fun n => tl 4 ⟨[(0, .c (.sl u1)), (1, .c (.sl u1)), (5, Si)], []⟩ (fun _ => l4 n) <| tn) t0 26 [] f (fun a b => 1000 + a.length + b.length) (by kernel_rfl)
end rivetref15_Same
namespace rivetref17_Same
def sp : Spec := mkSp ⟨[(0, .agg c0), (1, .agg c0)], []⟩ ⟨[(0, SB)], []⟩ g
noncomputable def T (ad : LQ) := mkF ad 25 [] sp [rivetref17_Instr.T ad, rivetref15_Same.T ad] t0 t0 t0 24 [] f (fun a b c d e _ j k l o p q r _ t u => 1000 + a.toNat + b.toNat + c.toNat + d.toNat + e.toNat + j.length + k.length + l.toNat + o.toNat + p.toNat + q.toNat + r.toNat + t.length + u.length) (by kernel_rfl)
end rivetref17_Same
namespace rivetlaw17_StmtBack
def sp : Spec := mkSp ⟨[(0, Ss), (1, .agg c0)], []⟩ ⟨[(0, SB)], []⟩ g
noncomputable def T (ad : LQ) := mkF ad 6 [] sp [rivetlaw17_shown.T ad, rivetref17_Fit.T ad, rivetref13_Fit.T ad, stmt_Print.T ad, scan_Line.T ad, stmt_Parse.T ad, stmt_May.T ad, rivetref17_Same.T ad] (fun n => tj 15 ⟨[(10, .c (.sl u0)), (15, Si), (16, Si)], []⟩ (fun ms => j15 n (l14 n ms.head!)) <| tj 6 ⟨[(5, SB), (6, Sp 0 0), (7, Ss)], [(some 1, c0)]⟩ (fun _ => j6 n) <| tn) (fun n => tl 14 ⟨[(10, .c (.sl u0)), (15, Si), (16, Si)], []⟩ (fun _ => l14 n) <| tn) t0 99 [] f (fun a b c d e i _ k l => 1000 + a.length + b.toNat + c.toNat + d.toNat + e.toNat + i.toNat + k.length + l.length) (by kernel_rfl)
end rivetlaw17_StmtBack
namespace rivetlaw17_short
def sp : Spec := mkSp ⟨[(0, .c (.sl u0))], []⟩ ⟨[(0, .c (.row 48 u0))], []⟩ g
noncomputable def T (ad : LQ) := mkF ad 26 [] sp [] t0 (fun n => tl 3 ⟨[(0, .c (.sl u0)), (3, .c (.row 48 u0)), (4, Si)], []⟩ (fun _ => l3 n) <| tn) t0 34 [] f (fun a => 1000 + a.length) (by kernel_rfl)
end rivetlaw17_short
namespace rivetlaw17_StmtTaken
def sp : Spec := mkSp ⟨[(0, .c (.sl u0))], []⟩ ⟨[(0, SB)], []⟩ g
noncomputable def T (ad : LQ) := mkF ad 7 [] sp [rivetlaw17_shown.T ad, rivetlaw17_short.T ad, stmt_Parse.T ad, rivetref17_Same.T ad, stmt_Print.T ad, scan_Line.T ad, stmt_May.T ad] t0 t0 t0 94 [] f (fun a => 1000 + a.length) (by kernel_rfl)
end rivetlaw17_StmtTaken
namespace rivetlaw17_StmtSpoilt
def sp : Spec := mkSp ⟨[(0, .agg c0), (1, Sb)], []⟩ ⟨[(0, SB)], []⟩ g
noncomputable def T (ad : LQ) := mkF ad 8 [] sp [rivetlaw17_shown.T ad, rivetref17_Fit.T ad, stmt_Print.T ad, scan_Line.T ad, stmt_Parse.T ad, stmt_May.T ad] (fun n => tj 16 ⟨[(5, SB), (6, Sp 0 0), (8, Si), (10, Si), (13, Si)], [(some 1, c0)]⟩ (fun _ => j16 n) <| tn) t0 t0 108 [] f (fun a b c d e _ j k l => 1000 + a.toNat + b.toNat + c.toNat + d.toNat + e.toNat + j.length + k.length + l.toNat) (by kernel_rfl)
end rivetlaw17_StmtSpoilt
namespace rivetlaw17_StmtInstr
def sp : Spec := mkSp ⟨[(0, .agg c2)], []⟩ ⟨[(0, SB)], []⟩ g
noncomputable def T (ad : LQ) := mkF ad 9 [] sp [rivetlaw17_shown.T ad, rivetref03_Fit.T ad, stmt_Print.T ad, scan_Line.T ad, stmt_Parse.T ad, stmt_May.T ad, rivetref17_Same.T ad] (fun n => tj 16 ⟨[(3, SB), (5, Sp 0 0), (6, Si), (8, Si), (9, .c (.row 48 u0)), (10, Si), (11, Si), (12, Si)], [(some 1, c0)]⟩ (fun ms => j16 n (l15 n ms.head!)) <| tj 11 ⟨[(3, SB), (5, Sp 0 0), (6, Si)], [(some 1, c0)]⟩ (fun _ => j11 n) <| tj 9 ⟨[(3, SB), (4, Sp 0 0), (5, Sp 1 0), (6, Si)], [(some 1, c2), (some 2, c0)]⟩ (fun _ => j9 n) <| tj 7 ⟨[(3, SB), (4, Sp 0 0), (5, Sp 1 0), (6, Si)], [(some 1, c2), (some 2, c0)]⟩ (fun _ => j7 n) <| tn) (fun n => tl 15 ⟨[(3, SB), (5, Sp 0 0), (6, Si), (8, Si), (9, .c (.row 48 u0)), (10, Si), (11, Si), (12, Si)], [(some 1, c0)]⟩ (fun _ => l15 n) <| tn) t0 152 [] f (fun a b c d e i _ => 1000 + a.toNat + b.toNat + c.toNat + d.toNat + e.toNat + i.toNat) (by kernel_rfl)
end rivetlaw17_StmtInstr
namespace rivetlaw17_StmtCuts
def sp : Spec := mkSp ⟨[(0, .agg c0)], []⟩ ⟨[(0, SB)], []⟩ g
noncomputable def T (ad : LQ) := mkF ad 10 [] sp [rivetlaw17_shown.T ad, rivetref17_Fit.T ad, stmt_Print.T ad, scan_Line.T ad, stmt_Parse.T ad, rivetref17_Same.T ad] (fun n => tj 13 ⟨[(7, .c (.sl u0)), (14, Si)], []⟩ (fun ms => j13 n (l12 n ms.head!)) <| tj 5 ⟨[(3, SB), (4, Sp 0 0)], [(some 1, c0)]⟩ (fun _ => j5 n) <| tn) (fun n => tl 12 ⟨[(7, .c (.sl u0)), (14, Si)], []⟩ (fun _ => l12 n) <| tn) t0 98 [] f (fun a b c d e _ j k => 1000 + a.toNat + b.toNat + c.toNat + d.toNat + e.toNat + j.length + k.length) (by kernel_rfl)
end rivetlaw17_StmtCuts
namespace rivetlaw17_StmtLabels
def sp : Spec := mkSp ⟨[(0, Ss), (1, .agg c0), (2, Sb)], []⟩ ⟨[(0, SB)], []⟩ g
noncomputable def T (ad : LQ) := mkF ad 11 [] sp [rivetlaw17_shown.T ad, rivetref13_Fit.T ad, rivetref17_Fit.T ad, stmt_Print.T ad, scan_Line.T ad, stmt_Parse.T ad, rivetref17_Same.T ad] (fun n => tj 20 ⟨[(7, SB), (8, Ss), (10, Ss), (11, Si), (14, Ss), (15, Sp 0 0), (16, Si), (17, Ss), (18, Si), (25, Si), (30, Si), (31, Ss)], [(some 5, c0)]⟩ (fun _ => j20 n) <| tj 6 ⟨[(2, Sb), (7, SB), (8, Ss), (9, Sp 0 0)], [(some 3, c0)]⟩ (fun _ => j6 n) <| tn) t0 t0 175 [] f (fun a b c d e i _ k l o => 1000 + a.length + b.toNat + c.toNat + d.toNat + e.toNat + i.toNat + k.length + l.length + o.toNat) (by kernel_rfl)
end rivetlaw17_StmtLabels
theorem rivetlaw17_StmtBack.sat : Sat P (LW ad) 6 rivetlaw17_StmtBack.sp := (rivetlaw17_StmtBack.T ad).sat
theorem rivetlaw17_StmtTaken.sat : Sat P (LW ad) 7 rivetlaw17_StmtTaken.sp := (rivetlaw17_StmtTaken.T ad).sat
theorem rivetlaw17_StmtSpoilt.sat : Sat P (LW ad) 8 rivetlaw17_StmtSpoilt.sp := (rivetlaw17_StmtSpoilt.T ad).sat
theorem rivetlaw17_StmtInstr.sat : Sat P (LW ad) 9 rivetlaw17_StmtInstr.sp := (rivetlaw17_StmtInstr.T ad).sat
theorem rivetlaw17_StmtCuts.sat : Sat P (LW ad) 10 rivetlaw17_StmtCuts.sp := (rivetlaw17_StmtCuts.T ad).sat
theorem rivetlaw17_StmtLabels.sat : Sat P (LW ad) 11 rivetlaw17_StmtLabels.sp := (rivetlaw17_StmtLabels.T ad).sat
end
end Rv
namespace Rv
open Go
theorem w64 {x : Int} (h : -9223372036854775808 ≤ x ∧ x ≤ 9223372036854775807) : IntKind.i64.wrap x = x := IntWalk.i64_in _ h
theorem w32u {x : Int} (h : 0 ≤ x ∧ x ≤ 4294967295) : IntKind.u32.wrap x = x := IntWalk.u32_in _ h
theorem w8u {x : Int} (h : 0 ≤ x ∧ x ≤ 255) : IntKind.u8.wrap x = x := IntWalk.u8_in _ h
theorem w64u {x : Int} (h : 0 ≤ x ∧ x ≤ 18446744073709551615) : IntKind.u64.wrap x = x := IntWalk.u64_in _ h
theorem dt {p : Prop} [Decidable p] : (decide p = true) = p := by simp
theorem df {p : Prop} [Decidable p] : (decide p = false) = ¬ p := by simp
theorem bt_nat (s : Str) (k : Nat) : bt s (k : Int) = ((s.getD k 0).toNat : Int) := rfl
theorem byte_lt (b : UInt8) : (b.toNat : Int) < 256 := by have := b.toNat_lt; omega
theorem byte_ge (b : UInt8) : (0 : Int) ≤ b.toNat := by omega
theorem drop_cons {s : Str} {k : Nat} (h : k < s.length) : s.drop k = s.getD k 0 :: s.drop (k + 1) := by
 rw [List.drop_eq_getElem_cons h]
 congr 1
 simp [List.getD, h]
theorem byte_is (b : UInt8) (n : Nat) (hn : n < 256) : ((b.toNat : Int) = (n : Int)) = (b = UInt8.ofNat n) := by
 apply propext
 constructor
 ·intro h
  apply UInt8.toNat_inj.1
  rw [UInt8.toNat_ofNat', Nat.mod_eq_of_lt hn]
  omega
 ·intro h
  rw [h, UInt8.toNat_ofNat', Nat.mod_eq_of_lt hn]
theorem wfU8 {n : Int} (h : (Lit.int .u8 n).wf = true) : 0 ≤ n ∧ n ≤ 255 := by
 simp [Lit.wf, IntKind.min, IntKind.max, IntKind.signed, IntKind.bits] at h; omega
theorem wfU32 {n : Int} (h : (Lit.int .u32 n).wf = true) : 0 ≤ n ∧ n ≤ 4294967295 := by
 simp [Lit.wf, IntKind.min, IntKind.max, IntKind.signed, IntKind.bits] at h; omega
theorem wfI64 {n : Int} (h : (Lit.int .i64 n).wf = true) : -9223372036854775808 ≤ n ∧ n ≤ 9223372036854775807 := by
 simp [Lit.wf, IntKind.min, IntKind.max, IntKind.signed, IntKind.bits] at h; omega
theorem wfLen {n : Nat} (h : n ≤ maxLen) : n ≤ 9223372036854775807 := by unfold maxLen at h; omega
end Rv
namespace Rv
open Go
abbrev W32 := BitVec 32
theorem ofI (W : W32) : BitVec.ofInt 32 (W.toNat : Int) = W := by simp
theorem wr32 (x : Int) : IntKind.u32.wrap x = ((BitVec.ofInt 32 x).toNat : Int) := by
 rw [IntKind.wrap_u32, BitVec.toNat_ofInt]
 omega
theorem w32n (W : W32) : IntKind.u32.wrap (W.toNat : Int) = (W.toNat : Int) := by rw [wr32, ofI]
theorem or32 (A B : W32) : bitsI .or .u32 (A.toNat : Int) (B.toNat : Int) = ((A ||| B).toNat : Int) := by
 show IntKind.u32.wrap (((BitVec.ofInt 32 (A.toNat : Int) ||| BitVec.ofInt 32 (B.toNat : Int)).toNat : Nat) : Int) = _
 rw [ofI, ofI, w32n]
theorem and32 (A B : W32) : bitsI .and .u32 (A.toNat : Int) (B.toNat : Int) = ((A &&& B).toNat : Int) := by
 show IntKind.u32.wrap (((BitVec.ofInt 32 (A.toNat : Int) &&& BitVec.ofInt 32 (B.toNat : Int)).toNat : Nat) : Int) = _
 rw [ofI, ofI, w32n]
theorem andNot32 (A B : W32) : bitsI .andNot .u32 (A.toNat : Int) (B.toNat : Int) = ((A &&& ~~~B).toNat : Int) := by
 show IntKind.u32.wrap (((BitVec.ofInt 32 (A.toNat : Int) &&& ~~~BitVec.ofInt 32 (B.toNat : Int)).toNat : Nat) : Int) = _
 rw [ofI, ofI, w32n]
theorem shl32 (A : W32) (b : Nat) (hb : b ≤ 32) : IntKind.u32.wrap ((A.toNat : Int) * 2 ^ (min ((b : Int)).toNat IntKind.u32.bits)) = ((A <<< b).toNat : Int) := by
 have e : min ((b : Int)).toNat IntKind.u32.bits = b := by show min ((b : Int)).toNat 32 = b; omega
 rw [e, IntKind.wrap_u32, BitVec.toNat_shiftLeft, Nat.shiftLeft_eq]
 have : (A.toNat : Int) * 2 ^ b = ((A.toNat * 2 ^ b : Nat) : Int) := by rw [Int.natCast_mul, Int.natCast_pow]; rfl
 rw [this]
 generalize A.toNat * 2 ^ b = q
 omega
theorem shr32 (A : W32) (b : Nat) (hb : b ≤ 32) : (A.toNat : Int).fdiv (2 ^ (min ((b : Int)).toNat IntKind.u32.bits)) = ((A >>> b).toNat : Int) := by
 have e : min ((b : Int)).toNat IntKind.u32.bits = b := by show min ((b : Int)).toNat 32 = b; omega
 rw [e, BitVec.toNat_ushiftRight, Nat.shiftRight_eq_div_pow, Int.fdiv_eq_ediv_of_nonneg _ (Int.le_of_lt (Int.pow_pos (by decide))), Int.natCast_ediv, Int.natCast_pow]
 rfl
def setStep (W X : W32) (b p : Nat) : W32 := (W &&& ~~~(1#32 <<< b)) ||| (((X >>> p) &&& 1#32) <<< b)
def setV (W X : W32) (a : Nat) : Nat → W32
 | 0 => W
 | k + 1 => setStep (setV W X a k) X (a + k) k
def getV (W : W32) (a : Nat) : Nat → W32
 | 0 => 0
 | k + 1 => getV W a k ||| (((W >>> (a + k)) &&& 1#32) <<< k)
theorem one_bit (j : Nat) : (1#32).getLsbD j = decide (j = 0) := by
 rw [BitVec.getLsbD_one]; simp
theorem setStep_bit (W X : W32) {b p : Nat} (hb : b < 32) {j : Nat} (hj : j < 32) : (setStep W X b p).getLsbD j = if j = b then X.getLsbD p else W.getLsbD j := by
 unfold setStep
 rw [BitVec.getLsbD_or, BitVec.getLsbD_and, BitVec.getLsbD_not, BitVec.getLsbD_shiftLeft, BitVec.getLsbD_shiftLeft, BitVec.getLsbD_and, BitVec.getLsbD_ushiftRight, one_bit]
 by_cases h : j = b
 ·subst h
  simp [hj]
 ·rw [if_neg h]
  by_cases h2 : j < b
  ·simp [hj, h2]
  ·have : ¬ j - b = 0 := by omega
   simp [hj, this]
theorem setV_bit (W X : W32) {a : Nat} : ∀ {n : Nat}, a + n ≤ 32 → ∀ {j : Nat}, j < 32 → (setV W X a n).getLsbD j = if a ≤ j ∧ j < a + n then X.getLsbD (j - a) else W.getLsbD j
 | 0, _, j, _ => by rw [if_neg (by omega)]; rfl
 | n + 1, h, j, hj => by
  rw [setV, setStep_bit _ _ (by omega) hj]
  by_cases e : j = a + n
  ·rw [if_pos e, if_pos (by omega), e, Nat.add_sub_cancel_left]
  ·rw [if_neg e, setV_bit W X (by omega) hj]
   by_cases e2 : a ≤ j ∧ j < a + n
   ·rw [if_pos e2, if_pos (by omega)]
   ·rw [if_neg e2, if_neg (by omega)]
theorem getV_bit (W : W32) {a : Nat} : ∀ {n : Nat}, n ≤ 32 → ∀ {j : Nat}, j < 32 → (getV W a n).getLsbD j = (decide (j < n) && W.getLsbD (a + j))
 | 0, _, j, _ => by simp [getV]
 | n + 1, h, j, hj => by
  rw [getV, BitVec.getLsbD_or, getV_bit W (by omega) hj, BitVec.getLsbD_shiftLeft, BitVec.getLsbD_and, BitVec.getLsbD_ushiftRight, one_bit]
  by_cases e : j = n
  ·subst e
   simp [hj]
  ·by_cases e2 : j < n
   ·simp [e2]; omega
   ·have h1 : ¬ j - n = 0 := by omega
    have h2 : ¬ j < n + 1 := by omega
    simp [e2, h1, h2]
theorem bits_eq {A B : W32} (h : ∀ j, j < 32 → A.getLsbD j = B.getLsbD j) : A = B := BitVec.eq_of_getLsbD_eq fun j hj => h j hj
theorem get_in (W X : W32) {a n b m : Nat} (h : a + n ≤ 32) (h1 : a ≤ b) (h2 : b + m ≤ a + n) : getV (setV W X a n) b m = getV X (b - a) m := bits_eq fun j hj => by
 rw [getV_bit _ (by omega) hj, getV_bit _ (by omega) hj]
 by_cases e : j < m
 ·rw [setV_bit _ _ h (by omega), if_pos (by omega), show b + j - a = b - a + j by omega]
 ·simp [e]
theorem get_out (W X : W32) {a n b m : Nat} (h : a + n ≤ 32) (hb : b + m ≤ 32) (h1 : b + m ≤ a ∨ a + n ≤ b) : getV (setV W X a n) b m = getV W b m := bits_eq fun j hj => by
 rw [getV_bit _ (by omega) hj, getV_bit _ (by omega) hj]
 by_cases e : j < m
 ·rw [setV_bit _ _ h (by omega), if_neg (by omega)]
 ·simp [e]
theorem get_zero (b m : Nat) (hm : m ≤ 32) : getV 0 b m = 0 := bits_eq fun j hj => by
 rw [getV_bit _ hm hj]; simp
theorem get_all {X : W32} {n : Nat} (hn : n ≤ 32) (hx : X.toNat < 2 ^ n) : getV X 0 n = X := bits_eq fun j hj => by
 rw [getV_bit _ hn hj, Nat.zero_add]
 by_cases e : j < n
 ·simp [e]
 ·have : X.getLsbD j = false := by
   show X.toNat.testBit j = false
   exact Nat.testBit_lt_two_pow (Nat.lt_of_lt_of_le hx (Nat.pow_le_pow_right (by decide) (by omega)))
  simp [e, this]
theorem get_lt (W : W32) (a : Nat) {n : Nat} (hn : n ≤ 32) : (getV W a n).toNat < 2 ^ n := by
 refine Nat.lt_pow_two_of_testBit _ fun j hj => ?_
 by_cases h : j < 32
 ·have := getV_bit W (a := a) hn h
  show (getV W a n).getLsbD j = false
  rw [this]; simp; omega
 ·exact BitVec.getLsbD_of_ge _ _ (by omega)
theorem set1_eq (W X : W32) {b p : Nat} (hb : b < 32) (hp : p < 32) : field_Set_1.g (b : Int) (p : Int) (W.toNat : Int) (X.toNat : Int) = some (((setStep W X b p).toNat : Int), (X.toNat : Int), ()) := by
 unfold field_Set_1.g field_Set_1.f
 have e1 : (1 : Int) = ((1#32).toNat : Int) := rfl
 rw [if_neg (by omega), if_neg (by omega), if_neg (by omega), shr32 X p (by omega), e1, shl32 (1#32) b (by omega), and32, shl32 _ b (by omega), andNot32, or32]
 rfl
theorem each_set (n : Nat) (X W : W32) {a c : Nat} (hc : 1 ≤ c) (h : a + c ≤ 32) : ∀ (m k : Nat), k ≤ c → c - k < m → field_each_c209.l2 n m (a : Int) (c : Int) ((a + k : Nat) : Int) ((setV W X a k).toNat : Int) (X.toNat : Int) = some (((setV W X a c).toNat : Int), (X.toNat : Int), ()) := by
 intro m
 induction m with
 | zero => intro k _ hm; omega
 | succ m ih =>
  intro k hk hm
  rw [field_each_c209.l2]
  simp only [dt]
  by_cases e : k = c
  ·subst e
   by_cases e2 : a + k < 32
   ·rw [if_pos (by omega), if_neg (by rw [w64 (by omega)]; omega)]
   ·rw [if_neg (by omega)]
  ·rw [if_pos (by omega), w64 (by omega), if_pos (by omega), show ((a + k : Nat) : Int) - (a : Int) = (k : Int) by omega, set1_eq _ X (by omega) (by omega), Option.bind_some]
   dsimp only
   rw [w64 (by omega), show ((a + k : Nat) : Int) + 1 = ((a + (k + 1) : Nat) : Int) by omega]
   exact ih (k + 1) (by omega) (by omega)
theorem set_eq (W X : W32) {a c : Nat} (hc : 1 ≤ c) (h : a + c ≤ 32) : field_Set.g (W.toNat : Int) (a : Int) (c : Int) (X.toNat : Int) = some (((setV W X a c).toNat : Int), ()) := by
 unfold field_Set.g field_Set.f field_each_c209.g field_each_c209.f
 simp only [dt, df]
 rw [if_pos (by omega), if_pos (by omega), w64 (by omega), if_neg (by omega)]
 have hmx : mx (a : Int) 0 = ((a + 0 : Nat) : Int) := by unfold mx; split <;> omega
 rw [hmx]
 have := each_set (1000 + ((a : Int)).toNat + ((c : Int)).toNat + ((W.toNat : Int)).toNat + ((X.toNat : Int)).toNat) X W hc h (1000 + ((a : Int)).toNat + ((c : Int)).toNat + ((W.toNat : Int)).toNat + ((X.toNat : Int)).toNat) 0 (by omega) (by omega)
 rw [show setV W X a 0 = W from rfl] at this
 rw [this, Option.bind_some]
theorem get1_eq (O W : W32) {b p : Nat} (hb : b < 32) (hp : p < 32) : field_Get_1.g (b : Int) (p : Int) (O.toNat : Int) (W.toNat : Int) = some (((O ||| (((W >>> b) &&& 1#32) <<< p)).toNat : Int), (W.toNat : Int), ()) := by
 unfold field_Get_1.g field_Get_1.f
 have e1 : (1 : Int) = ((1#32).toNat : Int) := rfl
 rw [if_neg (by omega), if_neg (by omega), shr32 W b (by omega), e1, and32, shl32 _ p (by omega), or32]
theorem each_get (n : Nat) (W : W32) {a c : Nat} (hc : 1 ≤ c) (h : a + c ≤ 32) : ∀ (m k : Nat), k ≤ c → c - k < m → field_each_c173.l2 n m (a : Int) (c : Int) ((a + k : Nat) : Int) ((getV W a k).toNat : Int) (W.toNat : Int) = some (((getV W a c).toNat : Int), (W.toNat : Int), ()) := by
 intro m
 induction m with
 | zero => intro k _ hm; omega
 | succ m ih =>
  intro k hk hm
  rw [field_each_c173.l2]
  simp only [dt]
  by_cases e : k = c
  ·subst e
   by_cases e2 : a + k < 32
   ·rw [if_pos (by omega), if_neg (by rw [w64 (by omega)]; omega)]
   ·rw [if_neg (by omega)]
  ·rw [if_pos (by omega), w64 (by omega), if_pos (by omega), show ((a + k : Nat) : Int) - (a : Int) = (k : Int) by omega, get1_eq _ W (by omega) (by omega), Option.bind_some]
   dsimp only
   rw [w64 (by omega), show ((a + k : Nat) : Int) + 1 = ((a + (k + 1) : Nat) : Int) by omega]
   exact ih (k + 1) (by omega) (by omega)
theorem get_eq (W : W32) {a c : Nat} (hc : 1 ≤ c) (h : a + c ≤ 32) : field_Get.g (W.toNat : Int) (a : Int) (c : Int) = some (((getV W a c).toNat : Int), ()) := by
 unfold field_Get.g field_Get.f field_each_c173.g field_each_c173.f
 simp only [dt, df]
 rw [if_pos (by omega), if_pos (by omega), w64 (by omega), if_neg (by omega)]
 have hmx : mx (a : Int) 0 = ((a + 0 : Nat) : Int) := by unfold mx; split <;> omega
 rw [hmx]
 have := each_get (1000 + ((a : Int)).toNat + ((c : Int)).toNat + ((0 : Int)).toNat + ((W.toNat : Int)).toNat) W hc h (1000 + ((a : Int)).toNat + ((c : Int)).toNat + ((0 : Int)).toNat + ((W.toNat : Int)).toNat) 0 (by omega) (by omega)
 rw [show ((getV W a 0).toNat : Int) = 0 from rfl] at this
 rw [this, Option.bind_some]
end Rv
namespace Rv
open Go
def layF : W32 → List (Nat × Nat × Int) → W32
 | W, [] => W
 | W, (a, n, x) :: r => layF (setV W (BitVec.ofInt 32 x) a n) r
abbrev fld (f : Nat × Nat × Int) : Int × Int × Int × Unit := ((f.1 : Int), (f.2.1 : Int), f.2.2, ())
abbrev dFld : Int × Int × Int × Unit := ((0 : Int), ((0 : Int), ((0 : Int), ())))
theorem lay_loop (n : Nat) (fs : List (Nat × Nat × Int)) (hf : ∀ f ∈ fs, 1 ≤ f.2.1 ∧ f.1 + f.2.1 ≤ 32) (hl : fs.length ≤ 1000) : ∀ (m i : Nat) (W : W32), i ≤ fs.length → fs.length - i < m →
  isa_lay.l3 n m (W.toNat : Int) (fs.map fld) ((fs.map fld).length : Int) (i : Int) = some (((layF W (fs.drop i)).toNat : Int), ()) := by
 intro m
 induction m with
 | zero => intro i _ _ h; omega
 | succ m ih =>
  intro i W hi hm
  rw [isa_lay.l3]
  simp only [dt, List.length_map]
  by_cases h : i < fs.length
  ·have hd : fs.drop i = fs[i] :: fs.drop (i + 1) := List.drop_eq_getElem_cons h
   have hg : (fs.map fld).getD ((i : Int)).toNat dFld = fld fs[i] := by
    rw [Int.toNat_natCast, List.getD_eq_getElem?_getD, List.getElem?_eq_getElem (by simpa using h)]; simp
   obtain ⟨h1, h2⟩ := hf fs[i] (List.getElem_mem h)
   rw [if_pos (by omega), if_pos (by omega), if_pos (by decide), if_pos (by decide), if_pos (by decide), hg]
   have q1 : ∀ x y z : Int, ([x, y, z] : List Int).getD ((0 : Int)).toNat 0 = x := fun _ _ _ => rfl
   have q2 : ∀ x y z : Int, ([x, y, z] : List Int).getD ((1 : Int)).toNat 0 = y := fun _ _ _ => rfl
   have q3 : ∀ x y z : Int, ([x, y, z] : List Int).getD ((2 : Int)).toNat 0 = z := fun _ _ _ => rfl
   rw [q1, q2, q3]
   dsimp only [fld]
   rw [wr32, set_eq _ _ h1 h2, Option.bind_some]
   dsimp only
   rw [w64 (by omega), show (i : Int) + 1 = ((i + 1 : Nat) : Int) by omega, hd]
   have := ih (i + 1) (setV W (BitVec.ofInt 32 fs[i].2.2) fs[i].1 fs[i].2.1) (by omega) (by omega)
   rw [List.length_map] at this
   exact this
  ·rw [if_neg (by omega), List.drop_eq_nil_of_le (by omega)]; rfl
theorem lay_eq (fs : List (Nat × Nat × Int)) (hf : ∀ f ∈ fs, 1 ≤ f.2.1 ∧ f.1 + f.2.1 ≤ 32) (hl : fs.length ≤ 1000) (l : List (Int × Int × Int × Unit)) (e : l = fs.map fld) : isa_lay.g l = some (((layF 0 fs).toNat : Int), ()) := by
 subst e
 unfold isa_lay.g isa_lay.f
 have := lay_loop (1000 + (fs.map fld).length) fs hf hl (1000 + (fs.map fld).length) 0 0 (by omega) (by rw [List.length_map]; omega)
 rw [List.drop_zero] at this
 exact this
def hdN (f : Nat) (u v : Bool) : Nat := f * 4 + (if u then 2 else 0) + (if v then 1 else 0)
theorem ihead_eq (f : Nat) (hf : f < 4) (u v : Bool) : isa_head.g (f : Int) u v = some (28, 4, (hdN f u v : Int), ()) := by
 have : ∀ f : Nat, f < 4 → ∀ u v : Bool, isa_head.g (f : Int) u v = some (28, 4, (hdN f u v : Int), ()) := by decide +kernel
 exact this f hf u v
def flds (k o a b c i : Int) (u : Bool) : List (Nat × Nat × Int) :=
 if k = 1 then [(28, 4, (hdN 0 u false : Int)), (24, 4, a), (20, 4, b), (16, 4, o), (0, 4, c)] else
 if k = 3 ∨ k = 4 then [(28, 4, (hdN 0 true (decide (k = 4)) : Int)), (24, 4, a)] else
 if k = 2 then [(28, 4, (hdN 1 u (decide (i < 0)) : Int)), (24, 4, a), (20, 4, b), (16, 4, o), (0, 16, i)] else
 if k = 5 then [(28, 4, (hdN 2 (decide (2 ≤ o)) (decide (Int.tmod o 2 = 1)) : Int)), (24, 4, a), (20, 4, b), (0, 20, i)] else
 if k = 6 then [(28, 4, (hdN 3 false u : Int)), (24, 4, o), (0, 4, c)] else
 [(28, 4, (hdN 3 true u : Int)), (24, 4, o), (0, 24, i)]
theorem flds_ok (k o a b c i : Int) (u : Bool) : (∀ f ∈ flds k o a b c i u, 1 ≤ f.2.1 ∧ f.1 + f.2.1 ≤ 32) ∧ (flds k o a b c i u).length ≤ 1000 := by
 unfold flds
 split
 ·exact ⟨by simp, by simp⟩
 ·split
  ·exact ⟨by simp, by simp⟩
  ·split
   ·exact ⟨by simp, by simp⟩
   ·split
    ·exact ⟨by simp, by simp⟩
    ·split
     ·exact ⟨by simp, by simp⟩
     ·exact ⟨by simp, by simp⟩
def wordV (k o a b c i : Int) (u : Bool) : W32 := layF 0 (flds k o a b c i u)
theorem lay_fl (k o a b c i : Int) (u : Bool) (l : List (Int × Int × Int × Unit)) (e : l = (flds k o a b c i u).map fld) : isa_lay.g l = some (((wordV k o a b c i u).toNat : Int), ()) :=
 lay_eq _ (flds_ok k o a b c i u).1 (flds_ok k o a b c i u).2 l e
theorem iword_eq (k o a b c i : Int) (u : Bool) : isa_word.g k o a b c i u = some (((wordV k o a b c i u).toNat : Int), ()) := by
 have J : ∀ n, k ≠ 1 → k ≠ 2 → k ≠ 3 → k ≠ 4 → k ≠ 5 → k ≠ 6 → isa_word.j14 n k o a b c i u 24 4 o = some (((wordV k o a b c i u).toNat : Int), ()) := fun n h1 h2 h3 h4 h5 h6 => by
  unfold isa_word.j14
  rw [show (3 : Int) = ((3 : Nat) : Int) from rfl, ihead_eq 3 (by decide), Option.bind_some, lay_fl k o a b c i u _ (by unfold flds; simp [h1, h2, h3, h4, h5, h6]), Option.bind_some]
 unfold isa_word.g
 generalize 1000 + k.toNat + o.toNat + a.toNat + b.toNat + c.toNat + i.toNat = n
 unfold isa_word.f
 simp only [dt]
 have e0 : (0 : Int) = ((0 : Nat) : Int) := rfl
 by_cases h1 : k = 1
 ·rw [if_pos h1]
  have := ihead_eq 0 (by decide) u false
  rw [show ((0 : Nat) : Int) = 0 from rfl] at this
  rw [this, Option.bind_some, lay_fl k o a b c i u _ (by unfold flds; simp [h1]), Option.bind_some]
 ·rw [if_neg h1]
  have h0 := ihead_eq 0 (by decide) true (decide (k = 4))
  rw [show ((0 : Nat) : Int) = 0 from rfl] at h0
  have g2 := ihead_eq 1 (by decide) u (decide (i < 0))
  rw [show ((1 : Nat) : Int) = 1 from rfl] at g2
  have g5 := ihead_eq 2 (by decide) (decide (2 ≤ o)) (decide (Int.tmod o 2 = 1))
  rw [show ((2 : Nat) : Int) = 2 from rfl] at g5
  have g6 := ihead_eq 3 (by decide) false u
  rw [show ((3 : Nat) : Int) = 3 from rfl] at g6
  rw [h0, g2, g5, g6]
  simp only [Option.bind_some]
  by_cases h3 : k = 3
  ·rw [if_pos h3, if_pos h3, lay_fl k o a b c i u _ (by unfold flds; simp [h3]), Option.bind_some]
  ·rw [if_neg h3]
   by_cases h4 : k = 4
   ·rw [if_pos h4, lay_fl k o a b c i u _ (by unfold flds; simp [h4]), Option.bind_some]
   ·rw [if_neg h4]
    by_cases h2 : k = 2
    ·rw [if_pos h2, lay_fl k o a b c i u _ (by unfold flds; simp [h2]), Option.bind_some]
    ·rw [if_neg h2]
     by_cases h5 : k = 5
     ·rw [if_pos h5, lay_fl k o a b c i u _ (by unfold flds; simp [h5]), Option.bind_some]
     ·rw [if_neg h5]
      by_cases h6 : k = 6
      ·rw [if_pos h6, lay_fl k o a b c i u _ (by unfold flds; simp [h6]), Option.bind_some]
      ·rw [if_neg h6]
       exact J n h1 h2 h3 h4 h5 h6
abbrev Gn (W : W32) (a n : Nat) : Int := ((getV W a n).toNat : Int)
theorem gn_range (W : W32) (a : Nat) {n : Nat} (hn : n ≤ 32) : 0 ≤ Gn W a n ∧ Gn W a n < 2 ^ n := by
 have := get_lt W a hn
 refine ⟨Int.natCast_nonneg _, ?_⟩
 have h2 : ((2 ^ n : Nat) : Int) = 2 ^ n := by rw [Int.natCast_pow]; rfl
 rw [← h2]
 exact Int.ofNat_lt.2 this
theorem read1_eq (W : W32) (a n : Nat) (hn : 1 ≤ n) (h : a + n ≤ 32) : isa_read_1.g (a : Int) (n : Int) (W.toNat : Int) = some (Gn W a n, ()) := by
 unfold isa_read_1.g isa_read_1.f
 rw [get_eq W hn h, Option.bind_some]
 dsimp only
 have := gn_range W a (n := n) (by omega)
 have h32 : (getV W a n).toNat < 2 ^ 32 := (getV W a n).isLt
 rw [w64 (by omega)]
def sgV (W : W32) (n : Nat) : Int := IntKind.i64.wrap ((IntKind.i32.wrap ((W <<< (32 - n)).toNat : Int)).fdiv (2 ^ (32 - n)))
theorem signed_eq (W : W32) (n : Nat) (h : 1 ≤ n) (h2 : n ≤ 32) : field_Signed.g (W.toNat : Int) (n : Int) = some (sgV W n, ()) := by
 unfold field_Signed.g field_Signed.f field_known.g field_known.f
 have hk : mn (mx (n : Int) 1) 32 = (n : Int) := by unfold mn mx; split <;> split <;> omega
 rw [hk, Option.bind_some]
 dsimp only
 rw [w64 (by omega), show (32 : Int) - (n : Int) = ((32 - n : Nat) : Int) by omega, if_neg (by omega), if_neg (by omega), shl32 W (32 - n) (by omega)]
 have e : min (((32 - n : Nat) : Int)).toNat IntKind.i32.bits = 32 - n := by show min (((32 - n : Nat) : Int)).toNat 32 = _; omega
 rw [e]
 rfl
theorem sg_zero {W : W32} {n : Nat} (h : n ≤ 32) (h0 : getV W 0 n = 0) : sgV W n = 0 := by
 have : W <<< (32 - n) = 0 := bits_eq fun j hj => by
  rw [BitVec.getLsbD_shiftLeft]
  by_cases e : j < 32 - n
  ·simp [e]
  ·have := congrArg (fun V : W32 => V.getLsbD (j - (32 - n))) h0
   simp only [getV_bit W h (show j - (32 - n) < 32 by omega)] at this
   rw [Nat.zero_add] at this
   have h3 : j - (32 - n) < n := by omega
   simp [h3] at this
   simp [e, hj, this]
 unfold sgV
 rw [this]
 show IntKind.i64.wrap ((IntKind.i32.wrap 0).fdiv (2 ^ (32 - n))) = 0
 rw [show IntKind.i32.wrap 0 = 0 from rfl, Int.zero_fdiv]
 rfl
def readT (W : W32) : Int × Int × Int × Int × Int × Int × Bool × Unit :=
 if Gn W 30 2 = 0 then
  (if Gn W 29 1 = 1 ∧ Gn W 16 4 = 0 then (3 + Gn W 28 1, 0, Gn W 24 4, 0, 0, 0, false, ()) else (1, Gn W 16 4, Gn W 24 4, Gn W 20 4, Gn W 0 4, 0, decide (Gn W 29 1 = 1), ()))
 else if Gn W 30 2 = 1 then (2, Gn W 16 4, Gn W 24 4, Gn W 20 4, 0, Gn W 0 16 - Gn W 28 1 * 65536, decide (Gn W 29 1 = 1), ())
 else if Gn W 30 2 = 2 then (5, Gn W 29 1 * 2 + Gn W 28 1, Gn W 24 4, Gn W 20 4, 0, sgV W 20, false, ())
 else if Gn W 29 1 = 1 then (7, Gn W 24 4, 0, 0, 0, sgV W 24, decide (Gn W 28 1 = 1), ())
 else (6, Gn W 24 4, 0, 0, Gn W 0 4, 0, decide (Gn W 28 1 = 1), ())
theorem iread_eq (W : W32) : isa_read.g (W.toNat : Int) = some (readT W) := by
 unfold isa_read.g isa_read.f
 have r1 := read1_eq W 29 1 (by decide) (by decide)
 have r2 := read1_eq W 28 1 (by decide) (by decide)
 have r3 := read1_eq W 24 4 (by decide) (by decide)
 have r4 := read1_eq W 20 4 (by decide) (by decide)
 have r5 := read1_eq W 16 4 (by decide) (by decide)
 have r6 := read1_eq W 30 2 (by decide) (by decide)
 have r7 := read1_eq W 0 4 (by decide) (by decide)
 have r8 := read1_eq W 0 16 (by decide) (by decide)
 have s1 := signed_eq W 20 (by decide) (by decide)
 have s2 := signed_eq W 24 (by decide) (by decide)
 have b1 := gn_range W 29 (n := 1) (by decide)
 have b2 := gn_range W 28 (n := 1) (by decide)
 have b8 := gn_range W 0 (n := 16) (by decide)
 have p16 : IntKind.i64.wrap (Gn W 28 1 * 2 ^ (min (16 : Int).toNat IntKind.i64.bits)) = Gn W 28 1 * 65536 := by
  show IntKind.i64.wrap (Gn W 28 1 * 65536) = _
  rw [w64 (by omega)]
 simp only [Int.cast_ofNat_Int] at r1 r2 r3 r4 r5 r6 r7 r8 s1 s2
 simp only [r1, r2, r3, r4, r5, r6, r7, r8, s1, s2, Option.bind_some, dt, isa_read.j16, p16]
 unfold readT
 by_cases h1 : Gn W 30 2 = 0
 ·rw [if_pos h1, if_pos h1]
  by_cases h2 : Gn W 29 1 = 1
  ·rw [if_pos h2]
   by_cases h3 : Gn W 16 4 = 0
   ·rw [if_pos h3, if_pos ⟨h2, h3⟩, w64 (by omega)]
   ·rw [if_neg h3, if_neg (fun h => h3 h.2)]
  ·rw [if_neg h2, if_neg (fun h => h2 h.1)]
 ·rw [if_neg h1, if_neg h1]
  by_cases h2 : Gn W 30 2 = 1
  ·rw [if_pos h2, if_pos h2, w64 (by omega)]
  ·rw [if_neg h2, if_neg h2]
   by_cases h3 : Gn W 30 2 = 2
   ·rw [if_pos h3, if_pos h3, w64 (x := Gn W 29 1 * 2) (by omega), w64 (by omega)]
   ·rw [if_neg h3, if_neg h3]
    by_cases h4 : Gn W 29 1 = 1
    ·rw [if_pos h4, if_pos h4]
    ·rw [if_neg h4, if_neg h4]
theorem gn_out (W X : W32) {a n b m : Nat} (h : a + n ≤ 32) (hb : b + m ≤ 32) (h1 : b + m ≤ a ∨ a + n ≤ b) : Gn (setV W X a n) b m = Gn W b m := by unfold Gn; rw [get_out W X h hb h1]
theorem gn_in (W : W32) {x : Int} {a n : Nat} (h : a + n ≤ 32) (hx : 0 ≤ x ∧ x < 2 ^ n) : Gn (setV W (BitVec.ofInt 32 x) a n) a n = x := by
 have h1 : (2 : Int) ^ n = ((2 ^ n : Nat) : Int) := by rw [Int.natCast_pow]; rfl
 have h2 : 2 ^ n ≤ 2 ^ 32 := Nat.pow_le_pow_right (by decide) (by omega)
 have h3 : (BitVec.ofInt 32 x).toNat = x.toNat := by
  rw [BitVec.toNat_ofInt]
  rw [h1] at hx
  generalize 2 ^ n = q at *
  omega
 unfold Gn
 rw [get_in W _ h (Nat.le_refl _) (Nat.le_refl _), Nat.sub_self, get_all (by omega) (by rw [h3]; rw [h1] at hx; omega), h3]
 omega
theorem gn_r (W : W32) {x : Int} {a : Nat} (h : a + 4 ≤ 32) (hx : 0 ≤ x ∧ x < 16) : Gn (setV W (BitVec.ofInt 32 x) a 4) a 4 = x := gn_in W h hx
theorem gn_sub (W X : W32) {a n b m : Nat} (h : a + n ≤ 32) (h1 : a ≤ b) (h2 : b + m ≤ a + n) : Gn (setV W X a n) b m = Gn X (b - a) m := by unfold Gn; rw [get_in W X h h1 h2]
theorem gn_zero (b m : Nat) (hm : m ≤ 32) : Gn 0 b m = 0 := by unfold Gn; rw [get_zero b m hm]; rfl
theorem hd_gn : ∀ f : Nat, f < 4 → ∀ u v : Bool, Gn (BitVec.ofInt 32 (hdN f u v : Int)) 2 2 = f ∧ Gn (BitVec.ofInt 32 (hdN f u v : Int)) 1 1 = (if u then 1 else 0) ∧ Gn (BitVec.ofInt 32 (hdN f u v : Int)) 0 1 = (if v then 1 else 0) := by decide +kernel
def rg (x : Int) : Prop := 0 ≤ x ∧ x < 16
inductive GoodI0 : Int → Int → Int → Int → Int → Bool → Prop
 | reg {o a b c : Int} {u : Bool} : 0 < o → o < 12 → rg a → rg b → rg c → (u = true → 8 ≤ o ∧ o ≤ 10) → GoodI0 1 o a b c u
 | mov {a c : Int} : rg a → rg c → GoodI0 1 0 a 0 c false
 | imm {o a b : Int} {u : Bool} : 0 < o → o < 12 → rg a → rg b → (u = true → 8 ≤ o ∧ o ≤ 10) → GoodI0 2 o a b 0 u
 | movi {a : Int} {u : Bool} : rg a → GoodI0 2 0 a 0 0 u
 | hi {a : Int} : rg a → GoodI0 3 0 a 0 0 false
 | fl {a : Int} : rg a → GoodI0 4 0 a 0 0 false
 | mem {o a b : Int} : 0 ≤ o → o < 4 → rg a → rg b → GoodI0 5 o a b 0 false
 | br {o c : Int} {u : Bool} : rg o → rg c → GoodI0 6 o 0 0 c u
 | jmp {o : Int} {u : Bool} : rg o → GoodI0 7 o 0 0 0 u
theorem read_reg {o a b c : Int} {u : Bool} (ho : rg o) (ha : rg a) (hb : rg b) (hc : rg c) (hu : u = true → o ≠ 0) : readT (wordV 1 o a b c 0 u) = (1, o, a, b, c, 0, u, ()) := by
 obtain ⟨h1, h2, h3⟩ := hd_gn 0 (by decide) u false
 generalize hW : wordV 1 o a b c 0 u = W
 unfold wordV flds at hW
 rw [if_pos rfl] at hW
 simp only [layF] at hW
 have w1 : Gn W 30 2 = 0 := by rw [← hW, gn_out _ _ (by decide) (by decide) (by decide), gn_out _ _ (by decide) (by decide) (by decide), gn_out _ _ (by decide) (by decide) (by decide), gn_out _ _ (by decide) (by decide) (by decide), gn_sub _ _ (by decide) (by decide) (by decide)]; exact h1
 have w2 : Gn W 29 1 = if u then 1 else 0 := by rw [← hW, gn_out _ _ (by decide) (by decide) (by decide), gn_out _ _ (by decide) (by decide) (by decide), gn_out _ _ (by decide) (by decide) (by decide), gn_out _ _ (by decide) (by decide) (by decide), gn_sub _ _ (by decide) (by decide) (by decide)]; exact h2
 have w3 : Gn W 24 4 = a := by rw [← hW, gn_out _ _ (by decide) (by decide) (by decide), gn_out _ _ (by decide) (by decide) (by decide), gn_out _ _ (by decide) (by decide) (by decide), gn_r _ (by decide) ha]
 have w4 : Gn W 20 4 = b := by rw [← hW, gn_out _ _ (by decide) (by decide) (by decide), gn_out _ _ (by decide) (by decide) (by decide), gn_r _ (by decide) hb]
 have w5 : Gn W 16 4 = o := by rw [← hW, gn_out _ _ (by decide) (by decide) (by decide), gn_r _ (by decide) ho]
 have w6 : Gn W 0 4 = c := by rw [← hW, gn_r _ (by decide) hc]
 unfold readT
 rw [w1, w2, w3, w4, w5, w6, if_pos rfl]
 cases u with
 | false => simp
 | true => simp [hu rfl]
theorem read_imm {o a b : Int} {u : Bool} (ho : rg o) (ha : rg a) (hb : rg b) : readT (wordV 2 o a b 0 0 u) = (2, o, a, b, 0, 0, u, ()) := by
 obtain ⟨h1, h2, h3⟩ := hd_gn 1 (by decide) u false
 generalize hW : wordV 2 o a b 0 0 u = W
 unfold wordV flds at hW
 rw [if_neg (by decide), if_neg (by decide), if_pos rfl] at hW
 simp only [layF] at hW
 rw [show decide ((0 : Int) < 0) = false from rfl] at hW
 have w1 : Gn W 30 2 = 1 := by rw [← hW, gn_out _ _ (by decide) (by decide) (by decide), gn_out _ _ (by decide) (by decide) (by decide), gn_out _ _ (by decide) (by decide) (by decide), gn_out _ _ (by decide) (by decide) (by decide), gn_sub _ _ (by decide) (by decide) (by decide)]; exact h1
 have w2 : Gn W 29 1 = if u then 1 else 0 := by rw [← hW, gn_out _ _ (by decide) (by decide) (by decide), gn_out _ _ (by decide) (by decide) (by decide), gn_out _ _ (by decide) (by decide) (by decide), gn_out _ _ (by decide) (by decide) (by decide), gn_sub _ _ (by decide) (by decide) (by decide)]; exact h2
 have w7 : Gn W 28 1 = 0 := by rw [← hW, gn_out _ _ (by decide) (by decide) (by decide), gn_out _ _ (by decide) (by decide) (by decide), gn_out _ _ (by decide) (by decide) (by decide), gn_out _ _ (by decide) (by decide) (by decide), gn_sub _ _ (by decide) (by decide) (by decide)]; exact h3
 have w3 : Gn W 24 4 = a := by rw [← hW, gn_out _ _ (by decide) (by decide) (by decide), gn_out _ _ (by decide) (by decide) (by decide), gn_out _ _ (by decide) (by decide) (by decide), gn_r _ (by decide) ha]
 have w4 : Gn W 20 4 = b := by rw [← hW, gn_out _ _ (by decide) (by decide) (by decide), gn_out _ _ (by decide) (by decide) (by decide), gn_r _ (by decide) hb]
 have w5 : Gn W 16 4 = o := by rw [← hW, gn_out _ _ (by decide) (by decide) (by decide), gn_r _ (by decide) ho]
 have w6 : Gn W 0 16 = 0 := by rw [← hW, gn_in _ (by decide) (by decide)]
 unfold readT
 rw [w1, w2, w3, w4, w5, w6, w7, if_neg (by decide), if_pos rfl]
 cases u <;> simp
theorem read_hi {k a : Int} (hk : k = 3 ∨ k = 4) (ha : rg a) : readT (wordV k 0 a 0 0 0 false) = (k, 0, a, 0, 0, 0, false, ()) := by
 obtain ⟨h1, h2, h3⟩ := hd_gn 0 (by decide) true (decide (k = 4))
 generalize hW : wordV k 0 a 0 0 0 false = W
 unfold wordV flds at hW
 rw [if_neg (by omega), if_pos hk] at hW
 simp only [layF] at hW
 have w1 : Gn W 30 2 = 0 := by rw [← hW, gn_out _ _ (by decide) (by decide) (by decide), gn_sub _ _ (by decide) (by decide) (by decide)]; exact h1
 have w2 : Gn W 29 1 = 1 := by rw [← hW, gn_out _ _ (by decide) (by decide) (by decide), gn_sub _ _ (by decide) (by decide) (by decide)]; exact h2
 have w7 : Gn W 28 1 = if decide (k = 4) then 1 else 0 := by rw [← hW, gn_out _ _ (by decide) (by decide) (by decide), gn_sub _ _ (by decide) (by decide) (by decide)]; exact h3
 have w3 : Gn W 24 4 = a := by rw [← hW, gn_r _ (by decide) ha]
 have w5 : Gn W 16 4 = 0 := by rw [← hW, gn_out _ _ (by decide) (by decide) (by decide), gn_out _ _ (by decide) (by decide) (by decide), gn_zero _ _ (by decide)]
 unfold readT
 rw [w1, w2, w3, w5, w7, if_pos rfl, if_pos ⟨rfl, rfl⟩]
 rcases hk with rfl | rfl <;> simp
theorem read_mem {o a b : Int} (ho : 0 ≤ o ∧ o < 4) (ha : rg a) (hb : rg b) : readT (wordV 5 o a b 0 0 false) = (5, o, a, b, 0, 0, false, ()) := by
 obtain ⟨h1, h2, h3⟩ := hd_gn 2 (by decide) (decide (2 ≤ o)) (decide (Int.tmod o 2 = 1))
 generalize hW : wordV 5 o a b 0 0 false = W
 unfold wordV flds at hW
 rw [if_neg (by decide), if_neg (by decide), if_neg (by decide), if_pos rfl] at hW
 simp only [layF] at hW
 have w1 : Gn W 30 2 = 2 := by rw [← hW, gn_out _ _ (by decide) (by decide) (by decide), gn_out _ _ (by decide) (by decide) (by decide), gn_out _ _ (by decide) (by decide) (by decide), gn_sub _ _ (by decide) (by decide) (by decide)]; exact h1
 have w2 : Gn W 29 1 = if decide (2 ≤ o) then 1 else 0 := by rw [← hW, gn_out _ _ (by decide) (by decide) (by decide), gn_out _ _ (by decide) (by decide) (by decide), gn_out _ _ (by decide) (by decide) (by decide), gn_sub _ _ (by decide) (by decide) (by decide)]; exact h2
 have w7 : Gn W 28 1 = if decide (Int.tmod o 2 = 1) then 1 else 0 := by rw [← hW, gn_out _ _ (by decide) (by decide) (by decide), gn_out _ _ (by decide) (by decide) (by decide), gn_out _ _ (by decide) (by decide) (by decide), gn_sub _ _ (by decide) (by decide) (by decide)]; exact h3
 have w3 : Gn W 24 4 = a := by rw [← hW, gn_out _ _ (by decide) (by decide) (by decide), gn_out _ _ (by decide) (by decide) (by decide), gn_r _ (by decide) ha]
 have w4 : Gn W 20 4 = b := by rw [← hW, gn_out _ _ (by decide) (by decide) (by decide), gn_r _ (by decide) hb]
 have w6 : sgV W 20 = 0 := sg_zero (by decide) (by
  rw [← hW]
  have := gn_in (x := 0) (a := 0) (n := 20) (setV (setV (setV 0 (BitVec.ofInt 32 ((hdN 2 (decide (2 ≤ o)) (decide (Int.tmod o 2 = 1)) : Nat) : Int)) 28 4) (BitVec.ofInt 32 a) 24 4) (BitVec.ofInt 32 b) 20 4) (by decide) (by decide)
  exact BitVec.eq_of_toNat_eq (by unfold Gn at this; simpa using this))
 have : o = 0 ∨ o = 1 ∨ o = 2 ∨ o = 3 := by omega
 unfold readT
 rw [w1, w2, w3, w4, w6, w7, if_neg (by decide), if_neg (by decide), if_pos rfl]
 rcases this with rfl | rfl | rfl | rfl <;> rfl
theorem read_br {o c : Int} {u : Bool} (ho : rg o) (hc : rg c) : readT (wordV 6 o 0 0 c 0 u) = (6, o, 0, 0, c, 0, u, ()) := by
 obtain ⟨h1, h2, h3⟩ := hd_gn 3 (by decide) false u
 generalize hW : wordV 6 o 0 0 c 0 u = W
 unfold wordV flds at hW
 rw [if_neg (by decide), if_neg (by decide), if_neg (by decide), if_neg (by decide), if_pos rfl] at hW
 simp only [layF] at hW
 have w1 : Gn W 30 2 = 3 := by rw [← hW, gn_out _ _ (by decide) (by decide) (by decide), gn_out _ _ (by decide) (by decide) (by decide), gn_sub _ _ (by decide) (by decide) (by decide)]; exact h1
 have w2 : Gn W 29 1 = 0 := by rw [← hW, gn_out _ _ (by decide) (by decide) (by decide), gn_out _ _ (by decide) (by decide) (by decide), gn_sub _ _ (by decide) (by decide) (by decide)]; exact h2
 have w7 : Gn W 28 1 = if u then 1 else 0 := by rw [← hW, gn_out _ _ (by decide) (by decide) (by decide), gn_out _ _ (by decide) (by decide) (by decide), gn_sub _ _ (by decide) (by decide) (by decide)]; exact h3
 have w3 : Gn W 24 4 = o := by rw [← hW, gn_out _ _ (by decide) (by decide) (by decide), gn_r _ (by decide) ho]
 have w6 : Gn W 0 4 = c := by rw [← hW, gn_r _ (by decide) hc]
 unfold readT
 rw [w1, w2, w3, w6, w7, if_neg (by decide), if_neg (by decide), if_neg (by decide), if_neg (by decide)]
 cases u <;> simp
theorem read_jmp {o : Int} {u : Bool} (ho : rg o) : readT (wordV 7 o 0 0 0 0 u) = (7, o, 0, 0, 0, 0, u, ()) := by
 obtain ⟨h1, h2, h3⟩ := hd_gn 3 (by decide) true u
 generalize hW : wordV 7 o 0 0 0 0 u = W
 unfold wordV flds at hW
 rw [if_neg (by decide), if_neg (by decide), if_neg (by decide), if_neg (by decide), if_neg (by decide)] at hW
 simp only [layF] at hW
 have w1 : Gn W 30 2 = 3 := by rw [← hW, gn_out _ _ (by decide) (by decide) (by decide), gn_out _ _ (by decide) (by decide) (by decide), gn_sub _ _ (by decide) (by decide) (by decide)]; exact h1
 have w2 : Gn W 29 1 = 1 := by rw [← hW, gn_out _ _ (by decide) (by decide) (by decide), gn_out _ _ (by decide) (by decide) (by decide), gn_sub _ _ (by decide) (by decide) (by decide)]; exact h2
 have w7 : Gn W 28 1 = if u then 1 else 0 := by rw [← hW, gn_out _ _ (by decide) (by decide) (by decide), gn_out _ _ (by decide) (by decide) (by decide), gn_sub _ _ (by decide) (by decide) (by decide)]; exact h3
 have w3 : Gn W 24 4 = o := by rw [← hW, gn_out _ _ (by decide) (by decide) (by decide), gn_r _ (by decide) ho]
 have w6 : sgV W 24 = 0 := sg_zero (by decide) (by
  rw [← hW]
  have := gn_in (x := 0) (a := 0) (n := 24) (setV (setV 0 (BitVec.ofInt 32 ((hdN 3 true u : Nat) : Int)) 28 4) (BitVec.ofInt 32 o) 24 4) (by decide) (by decide)
  exact BitVec.eq_of_toNat_eq (by unfold Gn at this; simpa using this))
 unfold readT
 rw [w1, w2, w3, w6, w7, if_neg (by decide), if_neg (by decide), if_neg (by decide), if_pos rfl]
 cases u <;> simp
theorem read_good {k o a b c : Int} {u : Bool} (h : GoodI0 k o a b c u) : readT (wordV k o a b c 0 u) = (k, o, a, b, c, 0, u, ()) := by
 have z : rg 0 := ⟨by decide, by decide⟩
 cases h with
 | reg h1 h2 ha hb hc hu => exact read_reg ⟨by omega, by omega⟩ ha hb hc (fun _ => by omega)
 | mov ha hc => exact read_reg z ha z hc (fun h => by cases h)
 | imm h1 h2 ha hb hu => exact read_imm ⟨by omega, by omega⟩ ha hb
 | movi ha => exact read_imm z ha z
 | hi ha => exact read_hi (.inl rfl) ha
 | fl ha => exact read_hi (.inr rfl) ha
 | mem h1 h2 ha hb => exact read_mem ⟨h1, h2⟩ ha hb
 | br ho hc => exact read_br ho hc
 | jmp ho => exact read_jmp ho
theorem between_eq (n l h : Int) : isa_between.g n l h = some (decide (l ≤ n) && decide (n ≤ h), ()) := by
 unfold isa_between.g isa_between.f
 by_cases e : l ≤ n
 ·rw [if_pos (by simpa using e), decide_eq_true e]; rfl
 ·rw [if_neg (by simpa using e), decide_eq_false e]; rfl
theorem i0_range {k o a b c : Int} {u : Bool} (h : GoodI0 k o a b c u) : 1 ≤ k ∧ k ≤ 7 ∧ 0 ≤ o ∧ o ≤ 15 := by
 cases h <;> refine ⟨by decide, by decide, ?_, ?_⟩ <;> first | decide | omega | (rename_i h _; exact h.1) | (rename_i h _; have := h.2; omega) | (rename_i h; exact h.1) | (rename_i h; have := h.2; omega)
theorem isa_good {k o a b c : Int} {u : Bool} (h : GoodI0 k o a b c u) : isa_May.g k o a b c 0 u = some (true, ()) := by
 have hr := read_good h
 have hk := i0_range h
 unfold isa_May.g
 generalize 1000 + k.toNat + o.toNat + a.toNat + b.toNat + c.toNat + (0 : Int).toNat = n
 unfold isa_May.f
 rw [between_eq, Option.bind_some]
 dsimp only
 rw [decide_eq_true hk.1, decide_eq_true hk.2.1, if_pos (by decide), between_eq, Option.bind_some]
 dsimp only
 rw [decide_eq_true hk.2.2.1, decide_eq_true hk.2.2.2, if_pos (by decide), iword_eq, Option.bind_some]
 dsimp only
 rw [iread_eq, Option.bind_some, hr]
 dsimp only
 rw [if_neg (by simp)]
 simp only [dt, df, isa_May.j10, between_eq, Option.bind_some]
 cases h with
 | reg h1 h2 ha hb hc hu =>
  rw [if_pos rfl, if_pos rfl, if_neg (by omega), if_neg (by omega)]
  cases u with
  | false => rfl
  | true => simp [hu rfl]
 | mov ha hc => rfl
 | imm h1 h2 ha hb hu =>
  rw [if_neg (by decide), if_pos rfl, if_neg (by omega), if_neg (by omega)]
  cases u with
  | false => rfl
  | true => simp [hu rfl]
 | movi ha => cases u <;> rfl
 | hi ha => rfl
 | fl ha => rfl
 | mem h1 h2 ha hb => rfl
 | br ho hc => rfl
 | jmp ho => rfl
theorem readT_range (W : W32) : rg (readT W).2.2.1 ∧ rg (readT W).2.2.2.1 ∧ rg (readT W).2.2.2.2.1 := by
 have z : rg 0 := ⟨by decide, by decide⟩
 have a : ∀ p, rg (Gn W p 4) := fun p => gn_range W p (n := 4) (by decide)
 unfold readT
 split
 ·split
  ·exact ⟨a _, z, z⟩
  ·exact ⟨a _, a _, a _⟩
 ·split
  ·exact ⟨a _, a _, z⟩
  ·split
   ·exact ⟨a _, a _, z⟩
   ·split
    ·exact ⟨z, z, z⟩
    ·exact ⟨z, z, a _⟩
theorem isa_total (k o a b c i : Int) (u : Bool) : ∃ r, isa_May.g k o a b c i u = some (r, ()) ∧ (r = true → (1 ≤ k ∧ k ≤ 7) ∧ rg a ∧ rg b ∧ rg c) := by
 unfold isa_May.g
 generalize 1000 + k.toNat + o.toNat + a.toNat + b.toNat + c.toNat + i.toNat = n
 unfold isa_May.f
 rw [between_eq, Option.bind_some]
 dsimp only
 by_cases hk : 1 ≤ k ∧ k ≤ 7
 case neg => rw [if_neg (by simp; omega)]; exact ⟨_, rfl, fun h => by cases h⟩
 rw [if_pos (by simp [hk]), between_eq, Option.bind_some]
 dsimp only
 by_cases ho : 0 ≤ o ∧ o ≤ 15
 case neg => rw [if_neg (by simp; omega)]; exact ⟨_, rfl, fun h => by cases h⟩
 rw [if_pos (by simp [ho]), iword_eq, Option.bind_some]
 dsimp only
 rw [iread_eq, Option.bind_some]
 obtain ⟨r1, r2, r3⟩ := readT_range (wordV k o a b c i u)
 generalize readT (wordV k o a b c i u) = y at *
 split
 ·exact ⟨_, rfl, fun h => by cases h⟩
 ·rename_i he
  simp only [Bool.not_eq_true', Bool.not_eq_false, Bool.and_eq_true, decide_eq_true_eq] at he
  have hg : (1 ≤ k ∧ k ≤ 7) ∧ rg a ∧ rg b ∧ rg c := ⟨hk, he.2.2.1 ▸ r1, he.2.2.2.1 ▸ r2, he.2.2.2.2.1 ▸ r3⟩
  simp only [dt, df, isa_May.j10, between_eq, Option.bind_some]
  repeat' split
  all_goals exact ⟨_, rfl, fun _ => hg⟩
end Rv
namespace Rv
open Go
def isL (b : UInt8) : Bool := decide (65 ≤ b.toNat ∧ b.toNat ≤ 90 ∨ 97 ≤ b.toNat ∧ b.toNat ≤ 122 ∨ b.toNat = 95)
def isD (b : UInt8) : Bool := decide (48 ≤ b.toNat ∧ b.toNat ≤ 57)
def isW (b : UInt8) : Bool := isL b || isD b
def wordOf (s : Str) : Str := s.takeWhile isW
theorem some_tt {p : Prop} [Decidable p] (h : p) : some (true, ()) = some (decide p, ()) := by simp [h]
theorem some_ff {p : Prop} [Decidable p] (h : ¬ p) : some (false, ()) = some (decide p, ()) := by simp [h]
theorem some_pq {p q : Prop} [Decidable p] [Decidable q] (h : p ↔ q) : some (decide p, ()) = some (decide q, ()) := by simp [h]
theorem letter_eq (b : UInt8) : scan_letter.g (b.toNat : Int) = some (isL b, ()) := by
 unfold scan_letter.g scan_letter.f isL
 simp only [dt, df]
 (repeat' split) <;> first | (refine some_tt ?_; omega) | (refine some_ff ?_; omega) | (refine some_pq ?_; omega)
theorem digit_eq (b : UInt8) : scan_digit.g (b.toNat : Int) = some (isD b, ()) := by
 unfold scan_digit.g scan_digit.f isD
 simp only [dt, df]
 (repeat' split) <;> first | (refine some_tt ?_; omega) | (refine some_ff ?_; omega) | (refine some_pq ?_; omega)
theorem word_loop (s : Str) (hs : s.length ≤ 9223372036854775807) (n : Nat) : ∀ (m k : Nat), k ≤ s.length → s.length - k < m → scan_word.l2 n m s (k : Int) = some (s.take (k + (wordOf (s.drop k)).length), ()) := by
 intro m
 induction m with
 | zero => intro k _ h; omega
 | succ m ih =>
  intro k hk hm
  have hend : scan_word.j4 n s (k : Int) = some (s.take k, ()) := by
   unfold scan_word.j4
   rw [if_pos (by omega)]
   simp
  simp only [scan_word.l2, dt, df]
  by_cases hlt : k < s.length
  ·have hd := drop_cons hlt
   have step : scan_word.j3 n (scan_word.l2 n m) s (k : Int) = some (s.take (k + 1 + (wordOf (s.drop (k + 1))).length), ()) := by
    unfold scan_word.j3
    rw [w64 (by omega)]
    exact ih (k + 1) (by omega) (by omega)
   rw [if_pos (by omega), if_pos (by omega), bt_nat, letter_eq, Option.bind_some]
   cases hl : isL (s.getD k 0) with
   | true =>
    rw [if_neg (by simp), step, hd]
    simp only [wordOf, List.takeWhile_cons, isW, hl, Bool.true_or, if_true, List.length_cons]
    rw [show k + 1 + ((s.drop (k + 1)).takeWhile isW).length = k + (((s.drop (k + 1)).takeWhile isW).length + 1) by omega]
   | false =>
    rw [if_pos rfl, if_pos (by omega), digit_eq, Option.bind_some]
    cases hdg : isD (s.getD k 0) with
    | true =>
     rw [if_pos rfl, step, hd]
     simp only [wordOf, List.takeWhile_cons, isW, hl, hdg, Bool.or_true, if_true, List.length_cons]
     rw [show k + 1 + ((s.drop (k + 1)).takeWhile isW).length = k + (((s.drop (k + 1)).takeWhile isW).length + 1) by omega]
    | false =>
     rw [if_neg (by simp), hend, hd]
     simp only [wordOf, List.takeWhile_cons, isW, hl, hdg, Bool.or_self, Bool.false_eq_true, if_false, List.length_nil, Nat.add_zero]
  ·have : k = s.length := by omega
   subst this
   rw [if_neg (by omega), hend]
   simp [wordOf]
theorem word_eq (s : Str) (hs : s.length ≤ 9223372036854775807) : scan_word.g s = some (wordOf s, ()) := by
 unfold scan_word.g scan_word.f
 have := word_loop s hs (1000 + s.length) (1000 + s.length) 0 (by omega) (by omega)
 rw [show ((0 : Nat) : Int) = 0 from rfl] at this
 rw [this]
 congr 2
 simp only [List.drop_zero, Nat.zero_add]
 exact (List.prefix_iff_eq_take.1 (List.takeWhile_prefix isW)).symm
def lowN (c : Int) : Int := if c / 32 % 2 = 1 then c else c + 32
theorem lower_tab : ((List.range 256).all fun n => decide (bitsI .or .u8 (n : Int) 32 = lowN n)) = true := by decide +kernel
theorem lower_eq (b : UInt8) : internal_strconv_lower.g (b.toNat : Int) = some (lowN b.toNat, ()) := by
 unfold internal_strconv_lower.g internal_strconv_lower.f
 have := List.all_eq_true.1 lower_tab b.toNat (by have := b.toNat_lt; simpa using this)
 rw [of_decide_eq_true this]
def digOf (b : UInt8) : Option Nat :=
 if 48 ≤ b.toNat ∧ b.toNat ≤ 57 then some (b.toNat - 48) else if 97 ≤ b.toNat ∧ b.toNat ≤ 122 then some (b.toNat - 87) else if 65 ≤ b.toNat ∧ b.toNat ≤ 90 then some (b.toNat - 55) else none
def numFrom (base : Nat) : Nat → Str → Option Nat
 | n, [] => some n
 | n, c :: r => match digOf c with
  | some d => if d < base then (if n * base + d < 4294967296 then numFrom base (n * base + d) r else none) else none
  | none => none
def PuR (o : Option Nat) (r : Option (Int × Option Int × Unit)) : Prop :=
 (∀ v, o = some v → r = some ((v : Int), none, ())) ∧ (o = none → ∃ x e, r = some (x, some e, ()) ∧ (e = 1 ∨ e = 2))
theorem PuR.bad {x e : Int} (h : e = 1 ∨ e = 2) : PuR none (some (x, some e, ())) := ⟨fun _ e => (by cases e), fun _ => ⟨x, e, rfl, h⟩⟩
theorem map_getD (s : Str) (k : Nat) (h : k < s.length) : (s.map fun b => (b.toNat : Int)).getD ((k : Int)).toNat 0 = ((s.getD k 0).toNat : Int) := by
 simp [List.getD, h]
theorem pu_digit {n : Nat} {rl : Int → Bool → Str → Int → Int → Bool → Int → (List Int) → Int → Int → Option (Int × (Option Int) × Unit)} {base d v k : Nat} {s9 : Str} {cutoff : Int} {t : List Int} {l : Int} {o : Nat → Option Nat} (hb : base = 10 ∨ base = 16) (hd : d < 36) (hv : v < 4294967296) (hc : 4294967296 ≤ cutoff) (hk : k < 9223372036854775807)
  (hr : ∀ v, v < 4294967296 → PuR (o v) (rl base false s9 cutoff 4294967295 false v t l ((k + 1 : Nat) : Int))) :
  PuR (if d < base then (if v * base + d < 4294967296 then o (v * base + d) else none) else none) (internal_strconv_ParseUint.j46 n rl base false s9 cutoff 4294967295 false v d t l k) := by
 unfold internal_strconv_ParseUint.j46 internal_strconv_ParseUint.j55
 have hm : v * base < 68719476736 := by
  rcases hb with rfl | rfl <;> omega
 rw [w8u (by omega), w64 (x := (k : Int) + 1) (by omega), w64u (x := (base : Int)) (by omega), w64u (x := (d : Int)) (by omega)]
 have e1 : ((v : Int) * (base : Int)) = ((v * base : Nat) : Int) := by simp
 rw [e1]
 have hr' := fun h => hr (v * base + d) h
 generalize v * base = M at *
 rw [w64u (x := (M : Int)) (by omega), w64u (x := (M : Int) + d) (by omega)]
 simp only [dt, df]
 by_cases h1 : d < base
 ·by_cases h2 : M + d < 4294967296
  ·rw [if_pos h1, if_pos h2, if_neg (by omega), if_neg (by omega), if_pos (by omega), if_neg (by omega)]
   have := hr' h2
   simpa using this
  ·rw [if_pos h1, if_neg h2, if_neg (by omega), if_neg (by omega), if_pos (by omega), if_pos (by omega)]
   exact PuR.bad (.inl rfl)
 ·rw [if_neg h1, if_pos (by omega)]
  exact PuR.bad (.inr rfl)
theorem pu_loop (s s9 : Str) (base : Nat) (cutoff : Int) (hb : base = 10 ∨ base = 16) (hc : 4294967296 ≤ cutoff) (hs : s.length < 9223372036854775807) (n : Nat) : ∀ (m k v : Nat), k ≤ s.length → s.length - k < m → v < 4294967296 →
  PuR (numFrom base v (s.drop k)) (internal_strconv_ParseUint.l36 n m base false s9 cutoff 4294967295 false v (s.map fun b => (b.toNat : Int)) ((s.map fun b => (b.toNat : Int)).length : Int) k) := by
 intro m
 induction m with
 | zero => intro k v _ h; omega
 | succ m ih =>
  intro k v hk hm hv
  simp only [internal_strconv_ParseUint.l36, dt, df]
  by_cases hlt : k < s.length
  ·have hl : k < (s.map fun b => (b.toNat : Int)).length := by simpa using hlt
   rw [if_pos (by omega), if_pos (by omega), drop_cons hlt]
   simp only [map_getD s k hlt, lower_eq, Option.bind_some, Bool.false_eq_true, if_false]
   have step : ∀ d, digOf (s.getD k 0) = some d → d < 36 → PuR (numFrom base v (s.getD k 0 :: s.drop (k + 1))) (internal_strconv_ParseUint.j46 n (internal_strconv_ParseUint.l36 n m) base false s9 cutoff 4294967295 false v d (s.map fun b => (b.toNat : Int)) ((s.map fun b => (b.toNat : Int)).length : Int) k) := by
    intro d hd hd36
    simp only [numFrom, hd]
    exact pu_digit (o := fun v => numFrom base v (s.drop (k + 1))) hb hd36 hv hc (by omega) fun v hv => ih (k + 1) v (by omega) (by omega) hv
   have bad : digOf (s.getD k 0) = none → PuR (numFrom base v (s.getD k 0 :: s.drop (k + 1))) (some ((0 : Int), some (2 : Int), ())) := by
    intro hd
    simp only [numFrom, hd]
    exact PuR.bad (.inr rfl)
   generalize hbb : s.getD k 0 = b at *
   have hb1 := byte_lt b
   have dig1 : (48 : Int) ≤ b.toNat → (b.toNat : Int) ≤ 57 → digOf b = some (b.toNat - 48) := fun h1 h2 => by unfold digOf; rw [if_pos (by omega)]
   have dig2 : ¬((48 : Int) ≤ b.toNat ∧ (b.toNat : Int) ≤ 57) → (97 : Int) ≤ lowN b.toNat → lowN b.toNat ≤ (122 : Int) → ∃ d, digOf b = some d ∧ d < 36 ∧ IntKind.u8.wrap (IntKind.u8.wrap (lowN b.toNat - 97) + 10) = (d : Int) := fun h1 h2 h3 => by
    rw [w8u (x := lowN b.toNat - 97) (by omega), w8u (by omega)]
    unfold lowN at h2 h3 ⊢
    unfold digOf
    rw [if_neg (by omega)]
    split at h2
    ·rw [if_pos (by omega)] at h3
     rw [if_pos (by omega), if_pos (by omega)]
     exact ⟨_, rfl, by omega, by omega⟩
    ·rw [if_neg (by omega)] at h3
     rw [if_neg (by omega), if_pos (by omega), if_neg (by omega)]
     exact ⟨_, rfl, by omega, by omega⟩
   have dig3 : ¬((48 : Int) ≤ b.toNat ∧ (b.toNat : Int) ≤ 57) → ¬((97 : Int) ≤ lowN b.toNat ∧ lowN b.toNat ≤ (122 : Int)) → digOf b = none := fun h1 h2 => by
    unfold lowN at h2
    unfold digOf
    rw [if_neg (by omega)]
    split at h2
    ·rw [if_neg (by omega), if_neg (by omega)]
    ·rw [if_neg (by omega), if_neg (by omega)]
   have wr : (48 : Int) ≤ b.toNat → (b.toNat : Int) ≤ 57 → IntKind.u8.wrap ((b.toNat : Int) - 48) = ((b.toNat - 48 : Nat) : Int) := fun h1 h2 => by rw [w8u (by omega)]; omega
   have lets : ¬((48 : Int) ≤ b.toNat ∧ (b.toNat : Int) ≤ 57) → PuR (numFrom base v (b :: s.drop (k + 1))) (if (97 : Int) ≤ lowN b.toNat then (if lowN b.toNat ≤ (122 : Int) then internal_strconv_ParseUint.j46 n (internal_strconv_ParseUint.l36 n m) base false s9 cutoff 4294967295 false v (IntKind.u8.wrap (IntKind.u8.wrap (lowN b.toNat - 97) + 10)) (s.map fun b => (b.toNat : Int)) ((s.map fun b => (b.toNat : Int)).length : Int) k
     else some ((0 : Int), some (2 : Int), ())) else some ((0 : Int), some (2 : Int), ())) := by
    intro h0
    by_cases h1 : (97 : Int) ≤ lowN b.toNat
    ·rw [if_pos h1]
     by_cases h2 : lowN b.toNat ≤ (122 : Int)
     ·rw [if_pos h2]
      obtain ⟨d, hd, hd36, he⟩ := dig2 h0 h1 h2
      rw [he]
      exact step d hd hd36
     ·rw [if_neg h2]; exact bad (dig3 h0 fun h => h2 h.2)
    ·rw [if_neg h1]; exact bad (dig3 h0 fun h => h1 h.1)
   have rest : PuR (numFrom base v (b :: s.drop (k + 1))) (if (48 : Int) ≤ b.toNat then (if (b.toNat : Int) ≤ 57 then internal_strconv_ParseUint.j46 n (internal_strconv_ParseUint.l36 n m) base false s9 cutoff 4294967295 false v (IntKind.u8.wrap ((b.toNat : Int) - 48)) (s.map fun b => (b.toNat : Int)) ((s.map fun b => (b.toNat : Int)).length : Int) k
     else (if (97 : Int) ≤ lowN b.toNat then (if lowN b.toNat ≤ (122 : Int) then internal_strconv_ParseUint.j46 n (internal_strconv_ParseUint.l36 n m) base false s9 cutoff 4294967295 false v (IntKind.u8.wrap (IntKind.u8.wrap (lowN b.toNat - 97) + 10)) (s.map fun b => (b.toNat : Int)) ((s.map fun b => (b.toNat : Int)).length : Int) k
     else some ((0 : Int), some (2 : Int), ())) else some ((0 : Int), some (2 : Int), ())))
     else (if (97 : Int) ≤ lowN b.toNat then (if lowN b.toNat ≤ (122 : Int) then internal_strconv_ParseUint.j46 n (internal_strconv_ParseUint.l36 n m) base false s9 cutoff 4294967295 false v (IntKind.u8.wrap (IntKind.u8.wrap (lowN b.toNat - 97) + 10)) (s.map fun b => (b.toNat : Int)) ((s.map fun b => (b.toNat : Int)).length : Int) k
     else some ((0 : Int), some (2 : Int), ())) else some ((0 : Int), some (2 : Int), ()))) := by
    by_cases h1 : (48 : Int) ≤ b.toNat
    ·rw [if_pos h1]
     by_cases h2 : (b.toNat : Int) ≤ 57
     ·rw [if_pos h2, wr h1 h2]; exact step _ (dig1 h1 h2) (by omega)
     ·rw [if_neg h2]; exact lets fun h => h2 h.2
    ·rw [if_neg h1]; exact lets fun h => h1 h.1
   split
   ·exact rest
   ·exact rest
  ·have : k = s.length := by omega
   subst this
   rw [if_neg (by simp), List.drop_length]
   simp only [Bool.false_eq_true, if_false]
   exact ⟨fun v' e => by simp only [numFrom, Option.some.injEq] at e; rw [e], fun e => by simp [numFrom] at e⟩
theorem parse_inner (s : Str) (base : Nat) (hb : base = 10 ∨ base = 16) (hs : s.length < 9223372036854775807) : PuR (if s = [] then none else numFrom base 0 s) (internal_strconv_ParseUint.g s base 32) := by
 unfold internal_strconv_ParseUint.g internal_strconv_ParseUint.f
 simp only [dt, df]
 by_cases h0 : s = []
 ·rw [if_pos h0, if_pos h0]
  exact PuR.bad (.inr rfl)
 ·rw [if_neg h0, if_neg h0, if_pos (by omega), if_pos (by omega)]
  have hb0 : decide ((base : Int) = 0) = false := by simp; omega
  rw [hb0]
  unfold internal_strconv_ParseUint.j21
  simp only [dt, df]
  rw [if_neg (by omega), if_pos (by omega), if_neg (by omega)]
  unfold internal_strconv_ParseUint.j25
  simp only [dt, df]
  have fin : ∀ cutoff : Int, 4294967296 ≤ cutoff → PuR (numFrom base 0 s) (internal_strconv_ParseUint.j32 (1000 + s.length + (base : Int).toNat + (32 : Int).toNat) s base 32 false s cutoff) := by
   intro cutoff hc
   unfold internal_strconv_ParseUint.j32
   have e1 : IntKind.u64.wrap 32 = 32 := w64u (by omega)
   rw [e1, if_neg (by omega)]
   have e2 : IntKind.u64.wrap (IntKind.u64.wrap (1 * 2 ^ min (32 : Int).toNat IntKind.u64.bits) - 1) = 4294967295 := by decide
   rw [e2]
   have := pu_loop s s base cutoff hb hc hs (1000 + s.length + (base : Int).toNat + (32 : Int).toNat) (1000 + s.length + (base : Int).toNat + (32 : Int).toNat) 0 0 (by omega) (by omega) (by omega)
   simpa using this
  rcases hb with rfl | rfl
  ·rw [if_pos (by omega)]; exact fin _ (by omega)
  ·rw [if_neg (by omega), if_pos (by omega)]; exact fin _ (by omega)
theorem parse_eq (s : Str) (base : Nat) (hb : base = 10 ∨ base = 16) (hs : s.length ≤ 281474976710656) : (∀ v, (if s = [] then none else numFrom base 0 s) = some v → strconv_ParseUint.g s base 32 = some ((v : Int), true, ())) ∧
  ((if s = [] then none else numFrom base 0 s) = none → ∃ x, strconv_ParseUint.g s base 32 = some (x, false, ())) := by
 obtain ⟨h1, h2⟩ := parse_inner s base hb (by omega)
 refine ⟨fun v hv => ?_, fun hn => ?_⟩
 ·unfold strconv_ParseUint.g strconv_ParseUint.f
  rw [h1 v hv]; rfl
 ·obtain ⟨x, e, he, hc⟩ := h2 hn
  unfold strconv_ParseUint.g strconv_ParseUint.f
  rw [he]
  simp only [Option.bind_some, Option.isNone_some, Bool.not_false, if_true, L.toErrorO, Option.some.injEq]
  rw [if_pos ⟨hs, hc⟩]
  exact ⟨x, rfl⟩
theorem contains_mem : ∀ {s : Str} {c : UInt8}, Lib.contains s [c] = true → c ∈ s
 | [], c, h => by simp [Lib.contains, Lib.index] at h
 | b :: l, c, h => by
  by_cases hb : c = b
  ·simp [hb]
  ·have : Lib.contains l [c] = true := by
    simp only [Lib.contains, Lib.index, List.isPrefixOf, Bool.and_true, beq_iff_eq, decide_eq_true_eq] at h ⊢
    rw [if_neg hb] at h
    split at h
    ·omega
    ·have := Lib.index_ge l [c]
     rename_i hne
     have : ¬ Lib.index l [c] = -1 := by simpa using hne
     omega
   exact List.mem_cons_of_mem _ (contains_mem this)
theorem numFrom_bad {base : Nat} : ∀ {s : Str} {v : Nat}, (95 : UInt8) ∈ s → numFrom base v s = none
 | [], _, h => by cases h
 | c :: r, v, h => by
  simp only [numFrom]
  rcases List.mem_cons.1 h with h | h
  ·rw [← h]
   have : digOf 95 = none := by decide
   rw [this]
  ·(repeat' split) <;> first | rfl | exact numFrom_bad h
theorem numFrom_lt {base : Nat} : ∀ {s : Str} {v w : Nat}, v < 4294967296 → numFrom base v s = some w → w < 4294967296
 | [], _, _, hv, h => by simp only [numFrom, Option.some.injEq] at h; omega
 | c :: r, v, w, hv, h => by
  simp only [numFrom] at h
  split at h
  ·split at h
   ·split at h
    ·exact numFrom_lt (by assumption) h
    ·cases h
   ·cases h
  ·cases h
def num (s : Str) : Option Nat :=
 if ([48, 120] : Str).isPrefixOf s then (if s.drop 2 = [] then none else numFrom 16 0 (s.drop 2)) else if s = [] then none else numFrom 10 0 s
theorem num_lt {s : Str} {v : Nat} (h : num s = some v) : v < 4294967296 := by
 unfold num at h
 split at h <;> split at h <;> first | (cases h; done) | exact numFrom_lt (by omega) h
theorem number_part (s : Str) (base : Nat) (n : Nat) (hb : base = 10 ∨ base = 16) (hs : s.length ≤ 1000000) :
  (∀ v, (if s = [] then none else numFrom base 0 s) = some v → scan_number.j5 n s base = some ((v : Int), true, ())) ∧ ((if s = [] then none else numFrom base 0 s) = none → ∃ x, scan_number.j5 n s base = some (x, false, ())) := by
 have hcO : L.containsO s [95] = some (Lib.contains s [95], ()) := by unfold L.containsO; rw [if_pos (by omega)]
 unfold scan_number.j5
 rw [hcO, Option.bind_some]
 obtain ⟨h1, h2⟩ := parse_eq s base hb (by omega)
 by_cases hc : Lib.contains s [95] = true
 ·simp only [hc, if_true]
  have hm := contains_mem hc
  have hne : s ≠ [] := by rintro rfl; cases hm
  rw [if_neg hne, numFrom_bad hm]
  exact ⟨fun v e => (by cases e), fun _ => ⟨_, rfl⟩⟩
 ·simp only [hc, Bool.false_eq_true, if_false]
  refine ⟨fun v hv => ?_, fun hn => ?_⟩
  ·have hlt : v < 4294967296 := by
    split at hv
    ·cases hv
    ·exact numFrom_lt (by omega) hv
   rw [h1 v hv, Option.bind_some, w32u (by omega)]
  ·obtain ⟨x, hx⟩ := h2 hn
   rw [hx, Option.bind_some]
   exact ⟨_, rfl⟩
theorem number_eq (s : Str) (hs : s.length ≤ 1000000) : (∀ v, num s = some v → scan_number.g s = some ((v : Int), true, ())) ∧ (num s = none → ∃ x, scan_number.g s = some (x, false, ())) := by
 unfold scan_number.g scan_number.f num L.cutIs L.cutRest Lib.trimPrefix Lib.hasPrefix
 by_cases hp : ([48, 120] : Str).isPrefixOf s = true
 ·simp only [hp, if_true]
  exact number_part (s.drop 2) 16 _ (.inr rfl) (by simp; omega)
 ·have hp' : ([48, 120] : Str).isPrefixOf s = false := Bool.eq_false_iff.2 hp
  simp only [hp', Bool.false_eq_true, if_false]
  exact number_part s 10 _ (.inl rfl) hs
abbrev Tok := Int × Int × Str × Int × Unit
def isS (c : UInt8) : Bool := ([44, 58, 43, 45, 42, 40, 41, 61] : Str).contains c
def tokAt (c : UInt8) (r : Str) : Except Int (Nat × Int × Str × Int) :=
 if isL c then .ok (0, 1, wordOf (c :: r), 0)
 else if isD c then match num (wordOf (c :: r)) with
  | some v => .ok (0, 2, wordOf (c :: r), v)
  | none => .error 21
 else if c = 46 ∧ (∃ d ∈ r.head?, isL d) then .ok (1, 4, wordOf r, 0)
 else if isS c then .ok (0, 3, [c], 0)
 else .error 20
def lineR (k : Int) : Str → Except Int (List Tok)
 | [] => .ok []
 | c :: r =>
  if c = 59 then .ok []
  else if c = 32 ∨ c = 9 then lineR (k + 1) r
  else match tokAt c r with
   | .error e => .error e
   | .ok (d, q, t, v) => match lineR (k + d + t.length) (r.drop (d + t.length - 1)) with
    | .error e => .error e
    | .ok l => .ok ((q, k, t, v, ()) :: l)
termination_by s => s.length
decreasing_by
 all_goals simp
 all_goals omega
theorem lineR_nil (k : Int) : lineR k [] = .ok [] := by rw [lineR]
theorem lineR_cons (k : Int) (c : UInt8) (r : Str) : lineR k (c :: r) = if c = 59 then .ok [] else if c = 32 ∨ c = 9 then lineR (k + 1) r else match tokAt c r with
   | .error e => .error e
   | .ok (d, q, t, v) => match lineR (k + d + t.length) (r.drop (d + t.length - 1)) with
    | .error e => .error e
    | .ok l => .ok ((q, k, t, v, ()) :: l) := by rw [lineR]
theorem sign_tab : ((List.range 256).all fun n => decide ((0 ≤ L.indexByte ([44, 58, 43, 45, 42, 40, 41, 61] : Str) (n : Int)) = (isS (UInt8.ofNat n) = true))) = true := by decide +kernel
theorem sign_eq (b : UInt8) : (0 ≤ L.indexByte ([44, 58, 43, 45, 42, 40, 41, 61] : Str) (b.toNat : Int)) = (isS b = true) := by
 have := List.all_eq_true.1 sign_tab b.toNat (by have := b.toNat_lt; simpa using this)
 have h := of_decide_eq_true this
 simpa using h
def lineOut (out : List Tok) : Except Int (List Tok) → List Tok × Int × Unit
 | .ok l => (out ++ l, 0, ())
 | .error e => ([], e, ())
theorem lineOut_snoc (out : List Tok) (t : Tok) (x : Except Int (List Tok)) : lineOut (out ++ [t]) x = lineOut out (match x with | .error e => .error e | .ok l => .ok (t :: l)) := by
 cases x <;> simp [lineOut]
theorem wordOf_le (s : Str) : (wordOf s).length ≤ s.length := (List.takeWhile_prefix isW).length_le
theorem wordOf_pos {c : UInt8} {r : Str} (h : isW c = true) : 1 ≤ (wordOf (c :: r)).length := by
 simp [wordOf, List.takeWhile_cons, h]
theorem line_loop (s : Str) (hs : s.length ≤ 1000000) (n : Nat) : ∀ (m k : Nat) (out : List Tok), k ≤ s.length → s.length - k < m → out.length ≤ k → scan_Line.g0 n m s out (k : Int) = some (lineOut out (lineR k (s.drop k))) := by
 intro m
 induction m with
 | zero => intro k out _ h; omega
 | succ m ih =>
  intro k out hk hm hout
  have e1 : IntKind.i64.wrap ((k : Int) + 1) = ((k + 1 : Nat) : Int) := by rw [w64 (by omega)]; omega
  by_cases hlt : k < s.length
  ·have tok : ∀ (d : Nat) (q : Int) (t : Str) (v : Int), 1 ≤ d + t.length → k + d + t.length ≤ s.length → scan_Line.j23 n (scan_Line.g0 n m) s out ((k + d : Nat) : Int) q (k : Int) t v = some (lineOut out (match lineR ((k : Int) + d + t.length) ((s.drop (k + 1)).drop (d + t.length - 1)) with
     | .error e => .error e
     | .ok l => .ok ((q, k, t, v, ()) :: l))) := by
    intro d q t v h1 h2
    unfold scan_Line.j23
    rw [if_pos (by simp; omega), w64 (by omega)]
    have := ih (k + d + t.length) (out ++ [(q, (k : Int), t, v, ())]) h2 (by omega) (by simp; omega)
    rw [lineOut_snoc] at this
    rw [show ((k + d : Nat) : Int) + (t.length : Int) = ((k + d + t.length : Nat) : Int) by omega, List.drop_drop, show k + 1 + (d + t.length - 1) = k + d + t.length by omega, show (k : Int) + (d : Int) + (t.length : Int) = ((k + d + t.length : Nat) : Int) by omega]
    exact this
   have tok0 := fun q t v h1 h2 => tok 0 q t v h1 h2
   simp only [Nat.add_zero, Nat.zero_add] at tok0
   have tok1 := fun q t v h1 h2 => tok 1 q t v h1 h2
   have skip : scan_Line.g0 n m s out ((k + 1 : Nat) : Int) = some (lineOut out (lineR ((k : Int) + 1) (s.drop (k + 1)))) := by
    rw [show (k : Int) + 1 = ((k + 1 : Nat) : Int) by omega]
    exact ih (k + 1) out (by omega) (by omega) (by omega)
   rw [drop_cons hlt, lineR_cons]
   simp only [scan_Line.g0, dt, df]
   simp only [e1, bt_nat, letter_eq, digit_eq, Option.bind_some, Int.toNat_natCast, List.take_length, sign_eq]
   rw [if_pos (by omega), if_pos (by omega)]
   have hw0 := word_eq (s.drop k) (by simp; omega)
   have hw1 := word_eq (s.drop (k + 1)) (by simp; omega)
   rw [hw0, hw1, drop_cons hlt]
   have hl0 := wordOf_le (s.drop k)
   have hl1 := wordOf_le (s.drop (k + 1))
   rw [drop_cons hlt] at hl0
   have hd0 : (s.drop (k + 1)).length = s.length - (k + 1) := by simp
   have hd1 : (s.getD k 0 :: s.drop (k + 1)).length = s.length - k := by simp; omega
   have hsign : (s.take (k + 1)).drop k = [s.getD k 0] := by
    rw [List.drop_take, drop_cons hlt]
    simp [show k + 1 - k = 1 by omega]
   have hhead : (∃ d ∈ (s.drop (k + 1)).head?, isL d = true) ↔ k + 1 < s.length ∧ isL (s.getD (k + 1) 0) = true := by
    by_cases h : k + 1 < s.length
    ·rw [drop_cons h]; simp [h]
    ·rw [List.drop_eq_nil_of_le (by omega)]; simp [h]
   have hwp := @wordOf_pos (s.getD k 0) (s.drop (k + 1))
   have hwq : k + 1 < s.length → isL (s.getD (k + 1) 0) = true → 1 ≤ (wordOf (s.drop (k + 1))).length := fun h h' => by
    rw [drop_cons h]; exact wordOf_pos (by unfold isW; rw [h']; rfl)
   rw [hsign]
   have b59 : (((s.getD k 0).toNat : Int) = 59) = (s.getD k 0 = 59) := byte_is _ 59 (by decide)
   have b32 : (((s.getD k 0).toNat : Int) = 32) = (s.getD k 0 = 32) := byte_is _ 32 (by decide)
   have b9 : (((s.getD k 0).toNat : Int) = 9) = (s.getD k 0 = 9) := byte_is _ 9 (by decide)
   have b46 : (((s.getD k 0).toNat : Int) = 46) = (s.getD k 0 = 46) := byte_is _ 46 (by decide)
   generalize s.getD k 0 = b at *
   by_cases h59 : b = 59
   ·rw [if_pos (by rw [h59]; rfl), if_pos h59]
    simp [lineOut]
   ·rw [if_neg (fun h => h59 (b59.mp h)), if_neg h59, if_pos (by omega)]
    by_cases h32 : b = 32
    ·rw [if_neg (fun h => h (b32.mpr h32)), if_pos (.inl h32)]
     exact skip
    ·rw [if_pos (fun h => h32 (b32.mp h))]
     by_cases h9 : b = 9
     ·rw [if_pos (b9.mpr h9), if_pos (.inr h9)]
      exact skip
     ·rw [if_neg (fun h => h9 (b9.mp h)), if_neg (show ¬ (b = 32 ∨ b = 9) from fun h => h.elim h32 h9)]
      unfold tokAt
      by_cases hL : isL b = true
      ·rw [if_pos hL, if_pos hL, if_pos (by omega)]
       simp only [Option.bind_some]
       rw [tok0 _ _ _ (hwp (by simp [isW, hL])) (by omega)]
       simp
      ·rw [if_neg hL, if_neg hL]
       by_cases hD : isD b = true
       ·rw [if_pos hD, if_pos hD, if_pos (by omega)]
        simp only [Option.bind_some]
        obtain ⟨h1, h2⟩ := number_eq (wordOf (b :: s.drop (k + 1))) (by omega)
        cases hn : num (wordOf (b :: s.drop (k + 1))) with
        | none =>
         obtain ⟨x, hx⟩ := h2 hn
         rw [hx]
         simp [lineOut]
        | some v =>
         rw [h1 v hn]
         simp only [Option.bind_some, Bool.not_true, Bool.false_eq_true, if_false]
         rw [tok0 _ _ _ (hwp (by simp [isW, hD])) (by omega)]
         simp
       ·rw [if_neg hD, if_neg hD]
        have sgn : (if isS b = true then (if 0 ≤ ((k + 1 : Nat) : Int) ∧ ((k + 1 : Nat) : Int) ≤ (s.length : Int) then (if 0 ≤ (k : Int) ∧ (k : Int) ≤ ((k + 1 : Nat) : Int) then scan_Line.j23 n (scan_Line.g0 n m) s out k 3 k [b] 0 else none) else none) else some ([], 20, ())) =
          some (lineOut out (match (if isS b = true then Except.ok (0, 3, [b], 0) else Except.error 20 : Except Int (Nat × Int × Str × Int)) with
           | .error e => .error e
           | .ok (d, q, t, v) => match lineR (k + d + t.length) ((s.drop (k + 1)).drop (d + t.length - 1)) with
            | .error e => .error e
            | .ok l => .ok ((q, k, t, v, ()) :: l))) := by
         by_cases hS : isS b = true
         ·rw [if_pos hS, if_pos hS, if_pos (by omega), if_pos (by omega), tok0 _ _ _ (by simp) (by simp; omega)]
          simp
         ·rw [if_neg hS, if_neg hS]
          simp [lineOut]
        by_cases h46 : b = 46
        ·rw [if_pos (b46.mpr h46)]
         by_cases hk1 : k + 1 < s.length
         ·rw [if_pos (by omega), if_pos (by omega)]
          by_cases hL1 : isL (s.getD (k + 1) 0) = true
          ·rw [if_pos hL1, if_pos (by omega), if_pos ⟨h46, hhead.mpr ⟨hk1, hL1⟩⟩]
           simp only [Option.bind_some]
           have := hwq hk1 hL1
           rw [tok1 _ _ _ (by omega) (by omega)]
          ·rw [if_neg hL1, if_neg (show ¬ (b = 46 ∧ ∃ d ∈ (s.drop (k + 1)).head?, isL d = true) from fun h => hL1 (hhead.mp h.2).2)]
           exact sgn
         ·rw [if_neg (by omega), if_neg (show ¬ (b = 46 ∧ ∃ d ∈ (s.drop (k + 1)).head?, isL d = true) from fun h => hk1 (hhead.mp h.2).1)]
          exact sgn
        ·rw [if_neg (fun h => h46 (b46.mp h)), if_neg (show ¬ (b = 46 ∧ ∃ d ∈ (s.drop (k + 1)).head?, isL d = true) from fun h => h46 h.1)]
         exact sgn
  ·have : k = s.length := by omega
   subst this
   simp only [scan_Line.g0, dt, df]
   rw [if_neg (by omega), List.drop_length, lineR_nil]
   simp [lineOut]
theorem line_eq (s : Str) (hs : s.length ≤ 1000000) : scan_Line.g s = some (lineOut [] (lineR 0 s)) := by
 unfold scan_Line.g scan_Line.f
 have := line_loop s hs (1000 + s.length) (1000 + s.length) 0 [] (by omega) (by omega) (by simp)
 simpa using this
end Rv
namespace Rv
open Go
def shift (j : Int) (t : Tok) : Tok := (t.1, t.2.1 + j, t.2.2)
def exMap {α β : Type} (f : α → β) : Except Int α → Except Int β
 | .error e => .error e
 | .ok a => .ok (f a)
theorem lineR_shift (j : Int) : ∀ (n : Nat) (k : Int) (s : Str), s.length ≤ n → lineR (k + j) s = exMap (List.map (shift j)) (lineR k s)
 | _, k, [], _ => by rw [lineR_nil, lineR_nil]; rfl
 | 0, k, c :: r, h => by simp at h
 | n + 1, k, c :: r, h => by
  simp only [List.length_cons] at h
  rw [lineR_cons, lineR_cons]
  by_cases h59 : c = 59
  ·rw [if_pos h59, if_pos h59]; rfl
  ·rw [if_neg h59, if_neg h59]
   by_cases hb : c = 32 ∨ c = 9
   ·rw [if_pos hb, if_pos hb, show k + j + 1 = k + 1 + j by omega]
    exact lineR_shift j n (k + 1) r (by omega)
   ·rw [if_neg hb, if_neg hb]
    cases tokAt c r with
    | error e => rfl
    | ok x =>
     obtain ⟨d, q, t, v⟩ := x
     simp only
     rw [show k + j + (d : Int) + (t.length : Int) = k + d + t.length + j by omega, lineR_shift j n (k + d + t.length) (r.drop (d + t.length - 1)) (by simp; omega)]
     cases lineR (k + d + t.length) (r.drop (d + t.length - 1)) with
     | error e => rfl
     | ok l => rfl
theorem word_no59 {s : Str} : (59 : UInt8) ∉ s.takeWhile isW := by
 intro h
 have h1 : (s.takeWhile isW).all isW = true := List.all_takeWhile
 have := List.all_eq_true.1 h1 59 h
 exact absurd this (by decide)
theorem takeW (s : Str) : s.take (s.takeWhile isW).length = s.takeWhile isW := (List.prefix_iff_eq_take.1 (List.takeWhile_prefix isW)).symm
theorem tokAt_ok {c : UInt8} {r : Str} {d : Nat} {q : Int} {t : Str} {v : Int} (h : tokAt c r = .ok (d, q, t, v)) : 1 ≤ d + t.length ∧ d + t.length - 1 ≤ r.length ∧ (59 : UInt8) ∉ r.take (d + t.length - 1) := by
 have wc : isW c = true → 1 ≤ 0 + (wordOf (c :: r)).length ∧ 0 + (wordOf (c :: r)).length - 1 ≤ r.length ∧ (59 : UInt8) ∉ r.take (0 + (wordOf (c :: r)).length - 1) := by
  intro hc
  have : wordOf (c :: r) = c :: r.takeWhile isW := by simp [wordOf, List.takeWhile_cons, hc]
  rw [this]
  have hl := (List.takeWhile_prefix isW (l := r)).length_le
  simp only [List.length_cons]
  refine ⟨by omega, by omega, ?_⟩
  rw [show 0 + ((r.takeWhile isW).length + 1) - 1 = (r.takeWhile isW).length by omega, takeW]
  exact word_no59
 unfold tokAt at h
 split at h
 ·rename_i hL
  simp only [Except.ok.injEq, Prod.mk.injEq] at h
  obtain ⟨rfl, rfl, rfl, rfl⟩ := h
  exact wc (by simp [isW, hL])
 ·split at h
  ·rename_i hD
   split at h
   ·simp only [Except.ok.injEq, Prod.mk.injEq] at h
    obtain ⟨rfl, rfl, rfl, rfl⟩ := h
    exact wc (by simp [isW, hD])
   ·cases h
  ·split at h
   ·simp only [Except.ok.injEq, Prod.mk.injEq] at h
    obtain ⟨rfl, rfl, rfl, rfl⟩ := h
    have hl := wordOf_le r
    refine ⟨by omega, by omega, ?_⟩
    rw [show 1 + (wordOf r).length - 1 = (r.takeWhile isW).length by unfold wordOf; omega, takeW]
    exact word_no59
   ·split at h
    ·simp only [Except.ok.injEq, Prod.mk.injEq] at h
     obtain ⟨rfl, rfl, rfl, rfl⟩ := h
     simp
    ·cases h
theorem takeW_app {s : Str} {b : UInt8} {y : Str} (hb : isW b = false) : (s ++ b :: y).takeWhile isW = s.takeWhile isW := by
 induction s with
 | nil => simp [List.takeWhile_cons, hb]
 | cons c s ih =>
  simp only [List.cons_append, List.takeWhile_cons]
  rw [ih]
theorem tokAt_app {c : UInt8} {r : Str} {b : UInt8} {y : Str} (hb : isW b = false) : tokAt c (r ++ b :: y) = tokAt c r := by
 have h1 : wordOf (c :: (r ++ b :: y)) = wordOf (c :: r) := takeW_app (s := c :: r) hb
 have h2 : wordOf (r ++ b :: y) = wordOf r := takeW_app hb
 have h3 : (∃ d ∈ (r ++ b :: y).head?, isL d = true) ↔ (∃ d ∈ r.head?, isL d = true) := by
  cases r with
  | nil =>
   have : isL b = false := by cases h : isL b with
    | true => simp [isW, h] at hb
    | false => rfl
   simp [this]
  | cons e r => simp
 unfold tokAt
 rw [h1, h2]
 simp only [h3]
theorem lineR_app {b : UInt8} (hb : b = 32 ∨ b = 9) (y : Str) : ∀ (n : Nat) (k : Int) (x : Str), x.length ≤ n → lineR k (x ++ b :: y) = match lineR k x with
  | .error e => .error e
  | .ok l => if (59 : UInt8) ∈ x then .ok l else match lineR (k + x.length + 1) y with
   | .error e => .error e
   | .ok m => .ok (l ++ m) := by
 have hW : isW b = false := by rcases hb with rfl | rfl <;> decide
 have h59b : b ≠ 59 := by rcases hb with rfl | rfl <;> decide
 intro n
 induction n with
 | zero =>
  intro k x hx
  have : x = [] := List.length_eq_zero_iff.1 (by omega)
  subst this
  rw [List.nil_append, lineR_cons, if_neg h59b, if_pos hb, lineR_nil]
  simp only [List.not_mem_nil, if_false, List.length_nil, List.nil_append]
  rw [show k + ((0 : Nat) : Int) + 1 = k + 1 by omega]
  cases lineR (k + 1) y <;> rfl
 | succ n ih =>
  intro k x hx
  cases x with
  | nil => exact ih k [] (by simp)
  | cons c r =>
   simp only [List.length_cons] at hx
   rw [List.cons_append, lineR_cons, lineR_cons]
   by_cases h59 : c = 59
   ·rw [if_pos h59, if_pos h59]
    simp [h59]
   ·rw [if_neg h59, if_neg h59]
    have hmem : ((59 : UInt8) ∈ c :: r) = ((59 : UInt8) ∈ r) := by
     simp only [List.mem_cons, eq_iff_iff, or_iff_right_iff_imp]
     intro e; exact absurd e.symm h59
    by_cases hbl : c = 32 ∨ c = 9
    ·rw [if_pos hbl, if_pos hbl, ih (k + 1) r (by omega)]
     simp only [hmem, List.length_cons]
     rw [show k + 1 + (r.length : Int) + 1 = k + ((r.length + 1 : Nat) : Int) + 1 by omega]
    ·rw [if_neg hbl, if_neg hbl, tokAt_app hW]
     cases hT : tokAt c r with
     | error e => rfl
     | ok z =>
      obtain ⟨d, q, t, v⟩ := z
      obtain ⟨h1, h2, h3⟩ := tokAt_ok hT
      simp only
      rw [List.drop_append_of_le_length h2, ih _ _ (by simp; omega)]
      have hm2 : ((59 : UInt8) ∈ r.drop (d + t.length - 1)) = ((59 : UInt8) ∈ r) := by
       apply propext
       constructor
       ·exact List.mem_of_mem_drop
       ·intro h
        rw [← List.take_append_drop (d + t.length - 1) r, List.mem_append] at h
        exact h.resolve_left h3
      rw [List.length_drop, show k + (d : Int) + (t.length : Int) + ((r.length - (d + t.length - 1) : Nat) : Int) + 1 = k + ((r.length + 1 : Nat) : Int) + 1 by omega]
      simp only [hm2, hmem, List.length_cons]
      cases lineR (k + d + t.length) (r.drop (d + t.length - 1)) with
      | error e => rfl
      | ok l =>
       by_cases h59r : (59 : UInt8) ∈ r
       ·simp only [h59r, if_true]
       ·simp only [h59r, if_false]
        cases lineR (k + ((r.length + 1 : Nat) : Int) + 1) y <;> rfl
theorem lineR_blanks (k : Int) : ∀ (n : Nat) (y : Str), lineR k (List.replicate n 32 ++ y) = lineR (k + n) y
 | 0, y => by simp
 | n + 1, y => by
  rw [List.replicate_succ, List.cons_append, lineR_cons, if_neg (by decide), if_pos (.inl rfl), lineR_blanks (k + 1) n y, show k + 1 + (n : Int) = k + ((n + 1 : Nat) : Int) by omega]
theorem lineR_len : ∀ (n : Nat) (k : Int) (s : Str) (l : List Tok), s.length ≤ n → lineR k s = .ok l → l.length ≤ s.length
 | _, k, [], l, _, h => by rw [lineR_nil] at h; cases h; simp
 | 0, k, c :: r, l, hn, _ => by simp at hn
 | n + 1, k, c :: r, l, hn, h => by
  simp only [List.length_cons] at hn ⊢
  rw [lineR_cons] at h
  split at h
  ·cases h; simp
  ·split at h
   ·have := lineR_len n (k + 1) r l (by omega) h; omega
   ·split at h
    ·cases h
    ·split at h
     ·cases h
     ·rename_i l' hl
      cases h
      have := lineR_len n _ _ l' (by simp; omega) hl
      simp at this ⊢; omega
theorem lineOut_len {k : Int} {s : Str} : (lineOut [] (lineR k s)).1.length ≤ s.length := by
 cases h : lineR k s with
 | error e => simp [lineOut]
 | ok l => simpa [lineOut] using lineR_len s.length k s l (Nat.le_refl _) h
theorem set_map {α : Type} (f : α → α) (dflt : α) (l : List α) (k : Nat) (hk : k < l.length) : (((l.take k).map f ++ l.drop k).set k (f (((l.take k).map f ++ l.drop k).getD k dflt))) = (l.take (k + 1)).map f ++ l.drop (k + 1) := by
 have h1 : ((l.take k).map f).length = k := by simp; omega
 have h2 : ((l.take k).map f ++ l.drop k).getD k dflt = l[k] := by
  rw [List.getD_eq_getElem?_getD, List.getElem?_append_right (by omega), h1, Nat.sub_self]
  simp [hk]
 rw [h2, List.set_append_right _ _ (by omega), h1, Nat.sub_self, List.drop_eq_getElem_cons hk, List.set_cons_zero, List.take_succ_eq_append_getElem hk, List.map_append]
 simp
theorem map_len {α : Type} (f : α → α) (l : List α) (k : Nat) (hk : k ≤ l.length) : ((l.take k).map f ++ l.drop k).length = l.length := by
 simp; omega
theorem lineR_bound : ∀ (n : Nat) (k : Int) (s : Str) (l : List Tok), s.length ≤ n → lineR k s = .ok l → ∀ t ∈ l, k ≤ t.2.1 ∧ t.2.1 ≤ k + s.length
 | _, k, [], l, _, h => by rw [lineR_nil] at h; cases h; intro t ht; cases ht
 | 0, k, c :: r, l, hn, _ => by simp at hn
 | n + 1, k, c :: r, l, hn, h => by
  simp only [List.length_cons] at hn ⊢
  rw [lineR_cons] at h
  split at h
  ·cases h; intro t ht; cases ht
  ·split at h
   ·intro t ht
    have := lineR_bound n (k + 1) r l (by omega) h t ht; omega
   ·split at h
    ·cases h
    ·rename_i d q tx v hT
     obtain ⟨h1, h2, _⟩ := tokAt_ok hT
     split at h
     ·cases h
     ·rename_i l' hl
      cases h
      intro t ht
      rcases List.mem_cons.1 ht with rfl | ht
      ·simp only; omega
      ·have := lineR_bound n _ _ l' (by simp; omega) hl t ht
       simp at this; omega
end Rv
namespace Rv
open Go
theorem wordOf_all {s : Str} (h : s.all isW = true) : wordOf s = s := by
 unfold wordOf
 induction s with
 | nil => rfl
 | cons c r ih =>
  rw [List.all_cons, Bool.and_eq_true] at h
  rw [List.takeWhile_cons, if_pos h.1, ih h.2]
theorem blank_facts {c : UInt8} (h : isW c = true) : c ≠ 59 ∧ ¬ (c = 32 ∨ c = 9) := by
 refine ⟨fun e => ?_, fun e => ?_⟩
 ·subst e; exact absurd h (by decide)
 ·rcases e with rfl | rfl <;> exact absurd h (by decide)
end Rv
namespace Rv
open Go
def okName (s : Str) : Prop := (∃ c r, s = c :: r ∧ isL c = true) ∧ s.all isW = true ∧ s.length ≤ 12
theorem fit_byte : ((List.range 12).all fun k => isW ((([97, 98, 99, 88, 89, 90, 95, 48, 49, 57, 82, 109] : Str).take (k + 1)).drop k).head! && decide (((([97, 98, 99, 88, 89, 90, 95, 48, 49, 57, 82, 109] : Str).take (k + 1)).drop k).length = 1)) = true := by decide +kernel
theorem fit07_loop2 {Q : UInt8 → Prop} (s : Str) (hs : s.length ≤ 9223372036854775807) (n : Nat) : ∀ (m i : Nat) (out : Str), i ≤ s.length → 6 - i < m → i ≤ 6 → out.length = i + 1 → (∃ c r, out = c :: r ∧ Q c) → out.all isW = true →
  ∃ r, rivetref07_Fit.l4 n m s ([97, 98, 99, 88, 89, 90, 95, 48, 49, 57, 82, 109] : Str) out (i : Int) = some (r, ()) ∧ (∃ c t, r = c :: t ∧ Q c) ∧ r.all isW = true ∧ r.length ≤ 7 ∧ r.length ≤ s.length + 1 := by
 intro m
 induction m with
 | zero => intro i out _ h; omega
 | succ m ih =>
  intro i out hi hm h6 hl hh ha
  simp only [rivetref07_Fit.l4, dt]
  by_cases h1 : i < s.length
  ·rw [if_pos (by omega)]
   by_cases h2 : i < 6
   ·rw [if_pos (by omega), if_pos (by omega), if_pos (by omega), bt_nat]
    have hb := byte_lt (s.getD i 0)
    generalize s.getD i 0 = b at *
    have e0 : Int.tmod (IntKind.i64.wrap (b.toNat : Int)) 12 = ((b.toNat % 12 : Nat) : Int) := by
     rw [w64 (by omega)]
     have : Int.tmod (b.toNat : Int) 12 = (b.toNat : Int) % 12 := Int.tmod_eq_emod_of_nonneg (by omega)
     rw [this]; omega
    rw [e0]
    have hk : b.toNat % 12 < 12 := Nat.mod_lt _ (by omega)
    generalize b.toNat % 12 = k at *
    rw [w64 (x := (k : Int) + 1) (by omega), w64 (x := (i : Int) + 1) (by omega), show (k : Int) + 1 = ((k + 1 : Nat) : Int) by omega, show (i : Int) + 1 = ((i + 1 : Nat) : Int) by omega, Int.toNat_natCast, Int.toNat_natCast]
    have hf := List.all_eq_true.1 fit_byte k (by simpa using hk)
    simp only [Bool.and_eq_true, decide_eq_true_eq] at hf
    obtain ⟨f1, f2⟩ := hf
    generalize ((([97, 98, 99, 88, 89, 90, 95, 48, 49, 57, 82, 109] : Str).take (k + 1)).drop k) = w at *
    obtain ⟨c, rfl⟩ : ∃ c, w = [c] := by
     match w, f2 with
     | [c], _ => exact ⟨c, rfl⟩
    rw [if_pos ⟨by omega, by simp only [List.length_cons, List.length_nil]; omega⟩, if_pos ⟨by omega, by omega⟩, if_pos (by simp; omega)]
    refine ih (i + 1) (out ++ [c]) (by omega) (by omega) (by omega) (by simp; omega) ?_ ?_
    ·obtain ⟨a, r, rfl, h⟩ := hh
     exact ⟨a, r ++ [c], rfl, h⟩
    ·have f1 : isW c = true := f1
     rw [List.all_append, ha, List.all_cons, f1]; rfl
   ·rw [if_neg (by omega)]
    exact ⟨out, rfl, hh, ha, by omega, by omega⟩
  ·rw [if_neg (by omega)]
   exact ⟨out, rfl, hh, ha, by omega, by omega⟩
theorem fit07_loop {Q : UInt8 → Prop} (s : Str) (hs : s.length ≤ 9223372036854775807) (n m i : Nat) (out : Str) (h1 : i ≤ s.length) (h2 : 6 - i < m) (h3 : i ≤ 6) (h4 : out.length = i + 1) (h5 : ∃ c r, out = c :: r ∧ Q c) (h6 : out.all isW = true) :
  ∃ r, rivetref07_Fit.l4 n m s ([97, 98, 99, 88, 89, 90, 95, 48, 49, 57, 82, 109] : Str) out (i : Int) = some (r, ()) ∧ (∃ c t, r = c :: t ∧ Q c) ∧ r.all isW = true ∧ r.length ≤ 7 := by
 obtain ⟨r, g1, g2, g3, g4, _⟩ := fit07_loop2 s hs n m i out h1 h2 h3 h4 h5 h6
 exact ⟨r, g1, g2, g3, g4⟩
def isH (c : UInt8) : Prop := isL c = true ∧ c ≠ 82 ∧ isD c = false
theorem fit07_eq' (s : Str) (hs : s.length ≤ 9223372036854775807) : ∃ r, rivetref07_Fit.g s = some (r, ()) ∧ (∃ c t, r = c :: t ∧ isH c ∧ (s.length ≤ 6 → c ≠ 122)) ∧ r.all isW = true ∧ r.length ≤ 7 := by
 unfold rivetref07_Fit.g rivetref07_Fit.f
 have e1 : Int.tmod (s.length : Int) 26 = ((s.length % 26 : Nat) : Int) := by
  have : Int.tmod (s.length : Int) 26 = (s.length : Int) % 26 := Int.tmod_eq_emod_of_nonneg (by omega)
  rw [this]; omega
 have hk : s.length % 26 < 26 := Nat.mod_lt _ (by omega)
 rw [e1]
 have e2 : IntKind.u8.wrap (97 + IntKind.u8.wrap ((s.length % 26 : Nat) : Int)) = ((97 + s.length % 26 : Nat) : Int) := by
  rw [w8u (x := ((s.length % 26 : Nat) : Int)) (by omega), w8u (by omega)]; omega
 rw [e2]
 have hb : bytesOf [((97 + s.length % 26 : Nat) : Int)] = [UInt8.ofNat (97 + s.length % 26)] := rfl
 rw [hb]
 have hn : (UInt8.ofNat (97 + s.length % 26)).toNat = 97 + s.length % 26 := by rw [UInt8.toNat_ofNat', Nat.mod_eq_of_lt (by omega)]
 have hL : isL (UInt8.ofNat (97 + s.length % 26)) = true := by unfold isL; rw [hn]; simp; omega
 have hne : UInt8.ofNat (97 + s.length % 26) ≠ 82 := fun e => by have := congrArg UInt8.toNat e; rw [hn] at this; simp at this; omega
 have hD : isD (UInt8.ofNat (97 + s.length % 26)) = false := by unfold isD; rw [hn, decide_eq_false_iff_not]; omega
 have hz : s.length ≤ 6 → UInt8.ofNat (97 + s.length % 26) ≠ 122 := fun h6 e => by have := congrArg UInt8.toNat e; rw [hn] at this; simp at this; omega
 exact fit07_loop (Q := fun c => isH c ∧ (s.length ≤ 6 → c ≠ 122)) s hs (1000 + s.length) (1000 + s.length) 0 _ (by omega) (by omega) (by omega) rfl ⟨_, _, rfl, ⟨hL, hne, hD⟩, hz⟩ (by rw [List.all_cons, isW, hL]; rfl)
theorem fit07_eq (s : Str) (hs : s.length ≤ 9223372036854775807) : ∃ r, rivetref07_Fit.g s = some (r, ()) ∧ (∃ c t, r = c :: t ∧ isL c = true) ∧ r.all isW = true ∧ r.length ≤ 7 := by
 obtain ⟨r, h1, ⟨c, t, h2, h3⟩, h4⟩ := fit07_eq' s hs
 exact ⟨r, h1, ⟨c, t, h2, h3.1.1⟩, h4⟩
theorem fit13_eq (s : Str) (hs : s.length ≤ 9223372036854775807) : ∃ r, rivetref13_Fit.g s = some (r, ()) ∧ okName r := by
 unfold rivetref13_Fit.g rivetref13_Fit.f
 obtain ⟨r, hr, hh, ha, hl⟩ := fit07_eq s hs
 rw [hr, Option.bind_some]
 simp only [dt]
 split
 ·have e1 : mn (r.length : Int) 11 = r.length := by unfold mn; rw [if_neg (by omega)]
  rw [e1, if_pos (by omega)]
  simp only [Int.toNat_natCast, List.take_length, List.drop_zero]
  rw [if_pos (by simp; omega)]
  refine ⟨_, rfl, ⟨95, r, rfl, by decide⟩, ?_, by simp; omega⟩
  rw [List.all_append, ha]; rfl
 ·exact ⟨r, rfl, hh, ha, by omega⟩
theorem line_name (k : Int) {s : Str} (h : okName s) : lineR k s = .ok [(1, k, s, 0, ())] := by
 obtain ⟨⟨c, r, rfl, hL⟩, ha, _⟩ := h
 have hW : isW c = true := by simp [isW, hL]
 obtain ⟨h1, h2⟩ := blank_facts hW
 rw [lineR_cons, if_neg h1, if_neg h2]
 unfold tokAt
 rw [if_pos hL, wordOf_all ha]
 simp only [List.length_cons]
 rw [List.drop_eq_nil_of_le (by omega), lineR_nil]
theorem line_dot (k : Int) {s : Str} (h : okName s) : lineR k (46 :: s) = .ok [(4, k, s, 0, ())] := by
 have h' := h
 obtain ⟨⟨c, r, rfl, hL⟩, ha, _⟩ := h
 rw [lineR_cons, if_neg (by decide), if_neg (by decide)]
 unfold tokAt
 have d1 : ¬ isL 46 = true := by decide
 have d2 : ¬ isD 46 = true := by decide
 have d3 : (46 : UInt8) = 46 ∧ ∃ d ∈ (c :: r).head?, isL d = true := ⟨rfl, c, by simp, hL⟩
 rw [if_neg d1, if_neg d2, if_pos d3, wordOf_all ha]
 simp only [List.length_cons]
 rw [List.drop_eq_nil_of_le (by simp), lineR_nil]
theorem okName_no59 {s : Str} (h : okName s) : (59 : UInt8) ∉ s := fun hm => absurd (List.all_eq_true.1 h.2.1 59 hm) (by decide)
end Rv
