/- One operation does what its evaluation says. -/
import Derived.Test.YtlbfhddhojejfaaDoorRvM
import Derived.BigCall
import Derived.Laws.BytesString
import Derived.Lib.ConvBytes
set_option linter.all false
namespace Rv
open Go

/-- Package variables that hold a map, which nobody writes: what is found there. -/
def MapsOk (P : Program) (L : World → Prop) (M : Nat → TypeId → Option (Cell → Option (Cell × Bool))) : Prop :=
  ∀ g t F, M g t = some F → ∃ v : Value, v.oneCell' = true ∧ ∀ w, L w → w.cell? ⟨g, 0, none⟩ = some v ∧ (Instr.loadAt t (.pointer (some ⟨g, 0, none⟩))).run P w = .ok v w ∧
    ∀ kc kv p, (∀ s, kc = .str s → kv = .string (mkS s)) → (∀ k n, kc = .int k n → kv = .int k n) → F kc = some p → ∃ rv, p.1.plain = some rv ∧ ∀ ok, (Instr.lookup t v kv ok).run P w = .ok (if ok = true then .tuple #[rv, .bool p.2] else rv) w

theorem maps_none {P : Program} {L : World → Prop} : MapsOk P L fun _ _ => none := fun _ _ _ h => by cases h

/-- What an environment tells is so. -/
structure EnvOk (P : Program) (L : World → Prop) (nl : Nat) {R : Type} (E : Env R) : Prop where
  te : ∀ t i, E.te t = some i → TIok P t i
  spec : ∀ f ids sp, E.spec f ids = some sp → Sat P L f sp ∧ Enterable P f
  nl : E.nl = nl
  maps : MapsOk P L E.maps

section
variable {P : Program} {C C' : Ctx} {γ γ' : Gam} {h h' : Heap} {w w' : World} {R : Type} {r : R}

theorem callFunc_enter {f : FuncId} (he : Enterable P f) (args : Array Value) (w : World) : (callFunc f args).run P w = .ok (.enter f args) w := by
  obtain ⟨fn, hf, hb, hn⟩ := he
  have hb' : fn.body.isNone = false := by cases h : fn.body <;> simp_all
  have h1 : ¬ fn.name = "runtime.NumGoroutine" := fun e => by simp [e] at hn
  have h2 : ¬ fn.body = none := fun e => by simp [e] at hb
  simp [callFunc, go_sem, hf]
  rw [if_neg h1, if_neg h2]

theorem vop_ok {te : TypeId → Option TI} (hte : ∀ t i, te t = some i → TIok P t i) {st : St} {a : Act} (R' : Rel C γ w st a.tmps) {o : Oper} {rd : List Nat} {K : Dl → Option R} (he : (vop te st o.op fun v => K ⟨v, rd, []⟩) = some r) :
    ∃ x, K x = some r ∧ OpOk P C w st a o x := by
  obtain ⟨y, val, hk, hr, hrun⟩ := vop_sound hte R' he
  refine ⟨⟨y, rd, []⟩, hk, fun next Q hn => wp_value (hrun w (Ext.refl w)) (hn γ w val ?_)⟩
  exact R'.put o.dst hr

theorem callee_run {st : St} {a : Act} (R' : Rel C γ w st a.tmps) {o : Oper} {c : Operand} {args : Array Operand} {argTypes : Array TypeId} (ho : o.op = .call { callee := .value c, args, argTypes }) {f : FuncId} {cs : List Cell}
    (hc : calleeOf st c = some (f, cs)) (he : Enterable P f) : ∃ caps : List Value, All2 (RepC C γ st.h w) cs caps ∧ (execOp a.eval o).run P w = .ok (.enter f (args.map a.eval ++ caps.toArray)) w := by
  obtain ⟨dst, op, ty, pos, after, guard⟩ := o
  simp only at ho
  subst ho
  unfold calleeOf at hc
  split at hc
  · simp only [Option.some.injEq, Prod.mk.injEq] at hc
    obtain ⟨rfl, rfl⟩ := hc
    refine ⟨[], trivial, ?_⟩
    rw [execOp_call_go, callFunc_enter he]
    simp
  · rename_i t
    split at hc
    · rename_i f' cs' hs
      simp only [Option.some.injEq, Prod.mk.injEq] at hc
      obtain ⟨rfl, rfl⟩ := hc
      obtain ⟨caps, hv, ha⟩ := R'.slot t _ hs
      refine ⟨caps, ha, ?_⟩
      have hx : execOp a.eval { dst, op := .call { callee := .value (.tmp t), args, argTypes }, type := ty, pos, after, guard } = (do let d ← Deferred.ofValue (a.tmps.getD t undef) (args.map a.eval); invoke d.target d.args) := rfl
      rw [hx, hv]
      have hx2 : (do let d ← Deferred.ofValue (.func (.func f') #[] caps.toArray) (args.map a.eval); invoke d.target d.args) = callFunc f' (#[] ++ args.map a.eval ++ caps.toArray) := rfl
      rw [hx2, callFunc_enter he]
      simp
    · cases hc
  · cases hc

theorem call_ok {E : Env R} (hE : EnvOk P C.L C.nl E) {st : St} {a : Act} (R' : Rel C γ w st a.tmps) {o : Oper} {c : Operand} {args : Array Operand} {argTypes : Array TypeId} (ho : o.op = .call { callee := .value c, args, argTypes })
    {f : FuncId} {cs : List Cell} (hc : calleeOf st c = some (f, cs)) {ids : List FuncId} {sp : Spec} (hsp : E.spec f ids = some sp) {vs : List V} (hv : opdsV st args.toList = some vs) {ab : Abs sp.a.T} (hab : sp.a.abs ⟨vs ++ cs.map (fun c => V.v (.c c)), st.h⟩ = some ab)
    (hok : callOk st.h (o.dst.getD 0) sp ab (vs.length + cs.length) = true) {y : sp.r.T} (hy : sp.f ab.x = some y) :
    OpOk P C w st a o (install st (o.dst.getD 0) sp ab y) := by
  intro next Q hn
  obtain ⟨hsat, hent⟩ := hE.spec f ids sp hsp
  unfold callOk at hok
  simp only [Bool.and_eq_true, decide_eq_true_eq] at hok
  obtain ⟨⟨⟨hlen, hpl⟩, hb0⟩, hnk⟩ := hok
  obtain ⟨caps, hcaps, hex⟩ := callee_run R' ho hc hent
  have hcs : All2 (RepV C γ st.h w) (cs.map fun c => V.v (.c c)) caps := by
    have : ∀ {cs : List Cell} {caps : List Value}, All2 (RepC C γ st.h w) cs caps → All2 (RepV C γ st.h w) (cs.map fun c => V.v (.c c)) caps := by
      intro cs
      induction cs with
      | nil => intro caps h; cases caps with
        | nil => trivial
        | cons _ _ => exact h.elim
      | cons c cs ih => intro caps h; cases caps with
        | nil => exact h.elim
        | cons v caps => exact ⟨h.1, ih h.2⟩
    exact this hcaps
  have Ra0 := rel_of_all R' ((opdsV_sound R' hv).append hcs)
  have hargs : (args.toList.map a.eval ++ caps).toArray = args.map a.eval ++ caps.toArray := by
    apply Array.ext'
    simp
  rw [hargs] at Ra0
  obtain ⟨hkn, hdk⟩ := abs_apart hab
  obtain ⟨γa, Rb, hbl, hbb, _⟩ := abs_sound hab Ra0 (C' := callee C γ st.h w ab.bm ab.keys ab.m.deps) (nm := nmJ) (fun i j e => by simp only [nmJ] at e; omega) (callee_w R'.inv ab.bm ab.keys ab.m.deps)
    (fun d g ho hg hd => .inr (.inr ⟨d, ho, hd⟩)) (fun k e g c hk he hl hg => .inr ⟨k, e, c, hk, he, hl, hg⟩)
    (fun i hi => by
      have hi : i < ab.bm.length := hi
      have h1 : ab.bm[i]? = some ab.bm[i] := List.getElem?_eq_getElem hi
      refine ⟨rfl, ab.bm[i], h1, ?_⟩
      show γ _ = (ab.bm[i]?).bind γ
      rw [h1]; rfl)
  have hl : (vs ++ cs.map (fun c => V.v (.c c))).length = sp.a.slots.length := by rw [List.length_append, List.length_map]; exact hlen
  rw [hl] at Rb
  unfold Oper.wp
  rw [hex, Oper.upon_enter]
  refine Calls.mono (hsat ab.x y hy (callee C γ st.h w ab.bm ab.keys ab.m.deps) γa _ rfl hbl Rb) fun e w' hh => ?_
  obtain ⟨γr, rs, rfl, Rr⟩ := hh
  obtain ⟨γ', hfin⟩ := install_rel (d := o.dst.getD 0) (dst := o.dst) R' (by rw [hbl]; exact hpl) hb0 hnk hkn hdk (fun k hk => by
    obtain ⟨i, hi⟩ := List.mem_iff_getElem?.1 hk
    exact (hbb i k hi).2) Rr
  exact hn γ' w' _ hfin

theorem strConv_types {te : TypeId → Option TI} (hte : ∀ t i, te t = some i → TIok P t i) {src dst : TypeId} (hh : strConv te src dst = true) : ∃ e, P.underlying src = some (.slice e) ∧ P.underlying e = some (.int .u8) ∧ P.underlying dst = some .string := by
  unfold strConv at hh
  simp only [Bool.and_eq_true] at hh
  obtain ⟨h1, h2⟩ := hh
  have hd : P.underlying dst = some .string := by
    unfold isStr at h1
    split at h1
    · rename_i ti hti; exact (hte _ _ hti).str h1
    · cases h1
  split at h2
  · rename_i e he
    split at h2
    · rename_i ti hti
      split at h2
      · rename_i hk
        refine ⟨e, ?_, (hte _ _ hti).int _ hk, hd⟩
        cases h0 : te src with
        | none => rw [h0] at he; simp at he
        | some i0 => rw [h0] at he; exact (hte _ _ h0).elem e he
      · cases h2
    · cases h2
  · cases h2

theorem bytesConv_types {te : TypeId → Option TI} (hte : ∀ t i, te t = some i → TIok P t i) {src dst : TypeId} (hh : bytesConv te src dst = true) : ∃ e, P.underlying src = some .string ∧ P.underlying dst = some (.slice e) ∧ P.underlying e = some (.int .u8) := by
  unfold bytesConv at hh
  simp only [Bool.and_eq_true] at hh
  obtain ⟨h1, h2⟩ := hh
  have hd : P.underlying src = some .string := by
    unfold isStr at h1
    split at h1
    · rename_i ti hti; exact (hte _ _ hti).str h1
    · cases h1
  split at h2
  · rename_i e he
    split at h2
    · rename_i ti hti
      split at h2
      · rename_i hk
        refine ⟨e, hd, ?_, (hte _ _ hti).int _ hk⟩
        cases h0 : te dst with
        | none => rw [h0] at he; simp at he
        | some i0 => rw [h0] at he; exact (hte _ _ h0).elem e he
      · cases h2
    · cases h2
  · cases h2

/-- A world with more blocks. -/
theorem Rel.ext {st : St} {tmps : Array Value} (R' : Rel C γ w st tmps) {w' : World} (hE : Ext w w') (S : Step C w w') : Rel C γ w' st tmps := by
  have T : Trans C γ st.h w C γ st.h w' := ⟨hE.1, fun k e hk => ⟨e, hk, .inr ⟨rfl, rfl, Alike.refl e⟩⟩, fun g hg _ => hE.2 g hg, fun k e c g hk hl hg _ => ⟨k, e, c, hk, hl, hg, .inl rfl⟩, fun _ _ h => h, fun _ h => h⟩
  exact R'.step T (R'.inv.step S T (fun k e hk => BoxR.step T (R'.inv.box k e hk) rfl fun hl g c hγ => hE.2 g (key_lt R'.inv hk hl hγ)) R'.inv.inj R'.inv.own)

theorem bytes_ok {st : St} {a : Act} (R' : Rel C γ w st a.tmps) {o : Oper} {src dst e : TypeId} {x : Operand} {s : Str} (ho : o.op = .convert src dst x) (h1 : P.underlying src = some .string) (h2 : P.underlying dst = some (.slice e)) (h3 : P.underlying e = some (.int .u8))
    (hx : opd st x = some (.c (.str s))) : OpOk P C w st a o ⟨.v (.c (.sl none (.int .u8) (s.map fun b => (b.toNat : Int)))), [], []⟩ := by
  intro next Q hn
  have hv : a.eval x = .string (mkS s) := (R'.opd hx).1
  have hsz : (mkS s).size = s.length := rfl
  have hrun : (execOp a.eval o).run P w = .ok (.value (.slice (some ⟨w.heap.size, 0, none⟩) (mkS s).size (grownCap w (mkS s).size 0 e))) (Lib.bytesWorld w e (mkS s)) := by
    have hx : execOp a.eval o = (do pure (.value (← convert src dst (a.eval x)))) := by simp [execOp, ho]
    rw [hx, Sem.run_bind, hv, Lib.run_convert_string_bytes w src dst e (mkS s) h1 h2 h3, Result.andThen_ok, Sem.run_pure]
  have hE : Ext w (Lib.bytesWorld w e (mkS s)) := ⟨by rw [Lib.bytesWorld_size]; omega, fun g hg => Lib.bytesWorld_at_old w e (mkS s) g hg⟩
  have S : Step C w (Lib.bytesWorld w e (mkS s)) := Step.of_ext hE rfl rfl rfl
  have R1 := R'.ext hE S
  have I := R'.inv
  have hrep : RepV C γ st.h (Lib.bytesWorld w e (mkS s)) (.v (.c (.sl none (.int .u8) (s.map fun b => (b.toNat : Int))))) (.slice (some ⟨w.heap.size, 0, none⟩) (mkS s).size (grownCap w (mkS s).size 0 e)) := ?hrep
  · exact wp_value hrun (hn γ _ _ (R1.put o.dst hrep))
  refine ⟨rfl, ?_⟩
  refine ⟨some ⟨w.heap.size, 0, none⟩, grownCap w (mkS s).size 0 e, by simp [hsz], ?_, fun i n hi => ?_⟩
  · have := grownCap_ge w (mkS s).size 0 e
    simpa [hsz] using this
  · simp only [List.getElem?_map, Option.map_eq_some_iff] at hi
    obtain ⟨b, hb, rfl⟩ := hi
    have hlt : i < s.length := (List.getElem?_eq_some_iff.1 hb).1
    refine ⟨w.heap.size, 0, [.int .u8 b.toNat], rfl, ⟨I.rd _ (I.new _ I.size), fun k e' c hk hl hγ => ?_⟩, by rw [Lib.bytesWorld_size]; omega, rfl, fun j u hj => ?_⟩
    · have := key_lt I hk hl hγ
      omega
    · cases j with
      | zero =>
        simp only [List.getElem?_cons_zero, Option.some.injEq] at hj
        subst hj
        have := Lib.bytesWorld_cell w e (mkS s) i (by rw [hsz]; exact hlt)
        have hg : (mkS s).data.toList.getD i 0 = b := by
          show s.getD i 0 = b
          rw [List.getD_eq_getElem?_getD, hb]; rfl
        rw [hg] at this
        simpa [Ty.size] using this
      | succ j => simp at hj

theorem foldl_push (ns : List Int) : ∀ (s : ByteArray), ns.foldl (fun r n => r.push (UInt8.ofNat n.toNat)) s = ⟨s.data ++ (bytesOf ns).toArray⟩ := by
  induction ns with
  | nil => intro s; simp [bytesOf]
  | cons n ns ih =>
    intro s
    simp only [List.foldl_cons, ih]
    congr 1
    simp [bytesOf, ByteArray.push, Array.push_append]

theorem rowR_ints {ok : Nat → Prop} {k : IntKind} : ∀ {xs : List Int} {news : List Value}, RowR w ok (.int k) xs news → news.length = xs.length → news = xs.map (Value.int k)
  | [], news, _, hl => by simpa using hl
  | x :: xs, [], _, hl => by simp at hl
  | x :: xs, v :: news, hr, hl => by
    have h0 := hr 0 x rfl
    simp only [Ty.size, Nat.zero_mul, List.drop_zero, List.take_succ_cons, List.take_zero] at h0
    have h0 : [v] = [.int k x] := h0
    simp only [List.cons.injEq, and_true] at h0
    rw [h0, List.map_cons]
    congr 1
    refine rowR_ints (ok := ok) (fun i y hy => ?_) (by simpa using hl)
    have := hr (i + 1) y (by simpa using hy)
    simpa [Ty.size] using this

theorem bytes_run (I : Inv C γ h w) {x : V1} {xs : List Int} (hm : moreOf h (.int .u8) x = some xs) {v : Value} (hv : RepV1 C γ h w x v) : ∃ A c, v = .slice A xs.length c ∧ (Conv.bytesToString v).run P w = .ok (.string (mkS (bytesOf xs))) w := by
  obtain ⟨d, hr⟩ := moreOf_sound I hm hv
  obtain ⟨A, c, news, hA, hl, hrow, _, hc⟩ := flat hr
  have hl' : news.length = xs.length := by simpa [Ty.size] using hl
  have hn := rowR_ints hrow hl'
  refine ⟨A, c, hA, ?_⟩
  rw [hA]
  cases A with
  | none =>
    rcases hc with h0 | ⟨a, ha, _⟩
    · have : xs = [] := List.length_eq_zero_iff.1 h0
      subst this
      simp [Conv.bytesToString, Sem.run_pure]
      rfl
    · cases ha
  | some a =>
    have hload : (loadCells a xs.length).run P w = .ok (xs.map (Value.int .u8)).toArray w := by
      have := run_loadCells_list (P := P) w a (xs.map (Value.int .u8)) fun j u e => by
        rcases hc with h0 | ⟨b, hb, hcell⟩
        · have : xs = [] := List.length_eq_zero_iff.1 h0
          subst this; simp at e
        · simp only [Option.some.injEq] at hb
          subst hb
          exact hcell j u (by rw [hn]; exact e)
      simpa using this
    rw [run_bytesToString w a xs.length c xs hload, foldl_push]
    congr 2
    simp [mkS]

theorem evalF_sound {E : Env R} (hE : EnvOk P C.L C.nl E) {st : St} {a : Act} (R' : Rel C γ w st a.tmps) {o : Oper} {K : Dl → Option R} (he : evalF E st o K = some r) : ∃ x, K x = some r ∧ OpOk P C w st a o x := by
  unfold evalF at he
  split at he
  · rename_i t ho
    split at he
    · rename_i ti hti
      exact ⟨_, he, alloc_ok R' (hE.te _ _ hti) ho⟩
    · cases he
  · rename_i t x ho
    obtain ⟨v, hv, he⟩ := orNone_some he
    exact ⟨_, he, boxop_ok R' hv ho⟩
  · rename_i t n parts ho
    split at he
    · cases he
    · rename_i e hel
      split at he
      · rename_i ti ps hti hp
        split at he
        · rename_i t' ht
          split at he
          · rename_i z hz
            obtain ⟨hn, he⟩ := if_some he
            obtain ⟨xs, hx, he⟩ := orNone_some he
            exact ⟨_, he, buildSlice_ok hE.te R' ho hel hti hp ht hz hn hx⟩
          · cases he
        · cases he
      · cases he
  · rename_i t x v ho
    split at he
    · rename_i hd
      obtain ⟨xv, hx, he⟩ := orNone_some he
      obtain ⟨vv, hv, he⟩ := orNone_some he
      obtain ⟨up, hk, hok⟩ := store_ok hE.te R' ho hd hx hv he
      exact ⟨_, hk, hok⟩
    · cases he
  · rename_i args argTypes ho
    split at he
    · rename_i s x sT xT ha hat
      obtain ⟨hst, he1⟩ := if_some he
      subst hst
      obtain ⟨sv, hs, he⟩ := orNone_some he1
      obtain ⟨xv, hx, he⟩ := orNone_some he
      exact append_ok hE.te R' ho ha hat hs hx he
    · cases he
  · rename_i c args argTypes ho
    split at he
    · rename_i f cs vs hc hv
      split at he
      · rename_i sp hsp
        split at he
        · rename_i ab hab
          obtain ⟨hok, he⟩ := if_some he
          cases hy : sp.f ab.x with
          | none => rw [hy] at he; cases he
          | some y =>
            rw [hy] at he
            exact ⟨_, he, call_ok hE R' ho hc hsp hv hab hok hy⟩
        · cases he
      · cases he
    · cases he
  · rename_i t g ho
    split at he
    · rename_i F hF
      obtain ⟨v, h1, h2⟩ := hE.maps g t F hF
      refine ⟨_, he, fun next Q hn => wp_value (val := v) (w' := w) ?_ (hn γ w v (R'.put o.dst (y := .v (.c (.glob g))) ⟨h1, fun w' hw' => (h2 w' hw').1⟩))⟩
      have hx : execOp a.eval o = (do pure (.value (← Instr.loadAt t (.pointer (some ⟨g, 0, none⟩))))) := by simp [execOp, ho, Act.eval]
      rw [hx, Sem.run_bind, (h2 w R'.inv.laid).2.1, Result.andThen_ok, Sem.run_pure]
    · cases he
  · rename_i t x k ok ho
    split at he
    · rename_i g kc hx hk
      split at he
      · rename_i F hF
        obtain ⟨p, hp, he⟩ := orNone_some he
        obtain ⟨v, h1, h2⟩ := hE.maps g t F hF
        have hv : a.eval x = v := by
          have := (R'.opd hx).1.2 w R'.inv.laid
          rw [(h2 w R'.inv.laid).1] at this
          simpa using this.symm
        have hkv := (R'.opd hk).1
        obtain ⟨rv, h3, h4⟩ := (h2 w R'.inv.laid).2.2 kc (a.eval k) p (fun s e => by subst e; exact hkv) (fun k n e => by subst e; exact hkv) hp
        have hrp : RepC C γ st.h w p.1 rv := plain_rep h3
        refine ⟨_, he, fun next Q hn => wp_value (val := if ok = true then .tuple #[rv, .bool p.2] else rv) (w' := w) ?_ (hn γ w _ (R'.put o.dst ?_))⟩
        · have hx : execOp a.eval o = (do pure (.value (← Instr.lookup t (a.eval x) (a.eval k) ok))) := by simp [execOp, ho]
          rw [hx, Sem.run_bind, hv, h4 ok, Result.andThen_ok, Sem.run_pure]
        · cases ok with
          | true => exact ⟨[rv, .bool p.2], rfl, hrp, rfl, trivial⟩
          | false => exact hrp
      · cases he
    · cases he
  · rename_i src dst x ho
    split at he
    · rename_i hsc
      obtain ⟨v, hv, he⟩ := orNone_some he
      obtain ⟨xs, hxs, he⟩ := orNone_some he
      refine ⟨_, he, fun next Q hn => ?_⟩
      obtain ⟨e, h1, h2, h3⟩ := strConv_types hE.te hsc
      obtain ⟨A, c, hA, hrun⟩ := bytes_run (P := P) R'.inv hxs (R'.opd hv).1
      refine wp_value (val := .string (mkS (bytesOf xs))) (w' := w) ?_ (hn γ w _ (R'.put o.dst (y := .v (.c (.str (bytesOf xs)))) rfl))
      have hx : execOp a.eval o = (do pure (.value (← convert src dst (a.eval x)))) := by simp [execOp, ho]
      rw [hx, Sem.run_bind, hA, run_convert_bytes_string w src dst e A xs.length c h1 h2 h3, ← hA, hrun, Result.andThen_ok, Sem.run_pure]
    · split at he
      · rename_i hbc
        split at he
        · rename_i s hx
          obtain ⟨e, h1, h2, h3⟩ := bytesConv_types hE.te hbc
          exact ⟨_, he, bytes_ok R' ho h1 h2 h3 hx⟩
        · cases he
      · rw [← ho] at he
        exact vop_ok hE.te R' he
  · exact vop_ok hE.te R' he

end
end Rv
