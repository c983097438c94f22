/- From a row's data to a shape's values; a law, called. -/
import Derived.Test.YtlbfhddhojejfaaDoorRvU
import Derived.ProofKit
import Derived.ChangeArms
import Derived.Carry
import Derived.HandedShaped
import Derived.Handed
import Derived.LaidMore
import Derived.OpenShut
import Derived.SizedLaws
set_option linter.all false
namespace Rv
open Go Go.RowKit

/- Types of data. -/
def fsB (P : Program) (rec : TypeId → Ty → Bool) : List Field → Nat → Ty → Bool
  | [], _, .nil => true
  | f :: fs, off, .pair A B => decide (f.offset = off) && rec f.type A && decide (P.cellsOf f.type = A.size) && fsB P rec fs (off + A.size) B
  | _, _, _ => false

def arrB (P : Program) (rec : TypeId → Ty → Bool) (e : TypeId) : Nat → Ty → Bool
  | 0, .nil => true
  | n + 1, .pair A B => rec e A && decide (P.cellsOf e = A.size) && arrB P rec e n B
  | _, _ => false

def tyB (P : Program) : Nat → TypeId → Ty → Bool
  | 0, _, _ => false
  | d + 1, t, T => match T, P.underlying t with
    | .int k, some (.int k') => decide (k' = k)
    | .bool, some .bool => true
    | .str, some .string => true
    | .sl T', some (.slice e) => tyB P d e T' && decide (P.cellsOf e = T'.size) && decide (0 < T'.size)
    | .nil, some (.struct fs) => fsB P (tyB P d) fs.toList 0 .nil && decide (P.cellsOf t = 0)
    | .pair A B, some (.struct fs) => fsB P (tyB P d) fs.toList 0 (.pair A B) && decide (P.cellsOf t = (Ty.pair A B).size)
    | .pair A B, some (.array n e) => arrB P (tyB P d) e n (.pair A B) && decide (P.cellsOf t = (Ty.pair A B).size)
    | _, _ => false

/-- What a row's reading tells of the values. -/
def Ty.wf : (T : Ty) → T.D → Prop
  | .int k, n => (Lit.int k n).wf = true
  | .bool, _ => True
  | .str, s => s.length ≤ maxLen
  | .sl T, xs => xs.length ≤ maxLen ∧ ∀ x ∈ xs, T.wf x
  | .nil, _ => True
  | .pair A B, x => A.wf x.1 ∧ B.wf x.2

theorem pick_list {α : Type} {p : Nat → α → Prop} : ∀ {n : Nat}, (∀ i, i < n → ∃ y, p i y) → ∃ l : List α, l.length = n ∧ ∀ i y, l[i]? = some y → p i y
  | 0, _ => ⟨[], rfl, fun i y h => by simp at h⟩
  | n + 1, h => by
    obtain ⟨l, h1, h2⟩ := pick_list (n := n) fun i hi => h i (by omega)
    obtain ⟨y, hy⟩ := h n (by omega)
    refine ⟨l ++ [y], by simp [h1], fun i z hz => ?_⟩
    rw [List.getElem?_append] at hz
    split at hz
    · exact h2 i z hz
    · have : i = n := by
        have := (List.getElem?_eq_some_iff.1 hz).1
        simp at this; omega
      subst this
      simp [h1] at hz
      subst hz
      exact hy

section
variable {H : Type} {enc : TypeId × Value → H} {P : Program} {w : World} {base : Nat} {sp : Nat → Bool} {held : Bool}

theorem cells_get {a : Addr} {n : Nat} {l : List Value} (h : w.cells? base a n = some l) : l.length = n ∧ ∀ j v, l[j]? = some v → w.cell? (a.add j) = some v := by
  unfold World.cells? at h
  split at h
  · have hl := mapM_some_length h
    refine ⟨by simpa using hl, fun j v hv => ?_⟩
    have hj : j < n := by have := (List.getElem?_eq_some_iff.1 hv).1; simp at hl; omega
    have := mapM_some_get h j j (by simp [hj])
    rw [this, hv]
  · cases h

theorem cell_spot {a : Addr} {v : Value} (h : w.cell? a = some v) : a.spot = none ∧ a.block < w.heap.size := by
  refine ⟨?_, World.block_lt_of_cell? w a h⟩
  unfold World.cell? at h
  split at h
  · split at h
    · cases h
    · rename_i hs; simpa using hs
  · cases h

theorem add_spot (a : Addr) (n : Nat) (h : (a.add n).spot = none) : n ≠ 0 ∨ a.spot = none := by
  unfold Addr.add at h
  split at h
  · exact .inr h
  · exact .inl ‹_›

theorem trod_rd {ok : Nat → Prop} (hok : ∀ g, g < w.heap.size → ok g) : ∀ (d : Nat) {t : TypeId} {T : Ty} {fuel : Nat} {cs : List Value} {x : DataW H × List MemPlace}, tyB P d t T = true → DataW.trod enc P w base sp held fuel t cs = some x → ∃ y : T.D, Rd w ok T y cs ∧ T.wf y
  | 0, _, _, _, _, _, h, _ => by cases h
  | d + 1, t, T, fuel, cs, x, h, ht => by
    have fields : ∀ (fs : List Field) (off : Nat) (S : Ty) (xs : List (DataW H × List MemPlace)) (n : Nat), fsB P (tyB P d) fs off S = true → xs.length = fs.length → off + S.size ≤ cs.length →
        (∀ (i : Nat) (f : Field), fs[i]? = some f → DataW.trod enc P w base sp held n f.type ((cs.drop f.offset).take (P.cellsOf f.type)) = xs[i]?) → ∃ y : S.D, Rd w ok S y ((cs.drop off).take S.size) ∧ S.wf y := by
      intro fs
      induction fs with
      | nil =>
        intro off S xs n hf _ _ _
        cases S with
        | nil => exact ⟨(), by simp [Rd, Ty.size], trivial⟩
        | _ => cases hf
      | cons f fs ih =>
        intro off S xs n hf hl hc hx
        cases S with
        | pair A B =>
          simp only [fsB, Bool.and_eq_true, decide_eq_true_eq] at hf
          obtain ⟨⟨⟨h1, h2⟩, h3⟩, h4⟩ := hf
          cases xs with
          | nil => simp at hl
          | cons x0 xs =>
            simp only [Ty.size] at hc
            have h0 := hx 0 f rfl
            simp only [List.getElem?_cons_zero] at h0
            rw [h1, h3] at h0
            obtain ⟨y1, r1, w1⟩ := trod_rd hok d h2 h0
            obtain ⟨y2, r2, w2⟩ := ih (off + A.size) B xs n h4 (by simpa using hl) (by omega) fun i f hi => by
              have := hx (i + 1) f (by simpa using hi)
              simpa using this
            refine ⟨(y1, y2), ⟨_, _, ?_, r1, r2⟩, w1, w2⟩
            simp only [Ty.size]
            rw [List.take_add, List.drop_drop]
        | _ => cases hf
    have elemz : ∀ (e : TypeId) (k i : Nat) (S : Ty) (n : Nat), arrB P (tyB P d) e k S = true → i * P.cellsOf e + S.size ≤ cs.length →
        (∀ j, i ≤ j → j < i + k → ∃ z, DataW.trod enc P w base sp held n e ((cs.drop (j * P.cellsOf e)).take (P.cellsOf e)) = some z) → ∃ y : S.D, Rd w ok S y ((cs.drop (i * P.cellsOf e)).take S.size) ∧ S.wf y := by
      intro e k
      induction k with
      | zero =>
        intro i S n hf _ _
        cases S with
        | nil => exact ⟨(), by simp [Rd, Ty.size], trivial⟩
        | _ => cases hf
      | succ k ih =>
        intro i S n hf hc hx
        cases S with
        | pair A B =>
          simp only [arrB, Bool.and_eq_true, decide_eq_true_eq] at hf
          obtain ⟨⟨h1, h2⟩, h3⟩ := hf
          simp only [Ty.size] at hc
          obtain ⟨z, hz⟩ := hx i (Nat.le_refl _) (by omega)
          obtain ⟨y1, r1, w1⟩ := trod_rd hok d h1 hz
          have e1 : (i + 1) * P.cellsOf e = i * P.cellsOf e + A.size := by rw [Nat.succ_mul, h2]
          obtain ⟨y2, r2, w2⟩ := ih (i + 1) B n h3 (by omega) fun j hj1 hj2 => hx j (by omega) (by omega)
          rw [e1] at r2
          rw [h2] at r1 r2
          refine ⟨(y1, y2), ⟨_, _, ?_, r1, r2⟩, w1, w2⟩
          simp only [Ty.size]
          rw [List.take_add, List.drop_drop, h2]
        | _ => cases hf
    unfold tyB at h
    split at h
    · rename_i k k' hu
      have : k' = k := by simpa using h
      subst this
      obtain ⟨n, rfl, _, hw⟩ := DataW.trod_int hu ht
      exact ⟨n, rfl, hw⟩
    · rename_i hu
      obtain ⟨b, rfl, _⟩ := DataW.trod_bool hu ht
      exact ⟨b, rfl, trivial⟩
    · rename_i hu
      obtain ⟨s, rfl, _, hs⟩ := DataW.trod_string hu ht
      exact ⟨s.data.toList, rfl, by simpa [Ty.wf] using hs⟩
    · rename_i T' e hu
      simp only [Bool.and_eq_true, decide_eq_true_eq] at h
      obtain ⟨⟨h1, h2⟩, h3⟩ := h
      rcases DataW.trod_slice hu ht with ⟨rfl, _⟩ | ⟨a, len, cap, elems, rest, n, _, rfl, _, _, hl, hcm, hlen, hel, _⟩
      · exact ⟨[], ⟨none, 0, by simp, by simp, fun i x e => by simp at e⟩, by simp [Ty.wf]⟩
      · rw [h2] at hel
        have each : ∀ i, i < len → ∃ y : T'.D, ∃ ds, w.cells? base (a.add (i * T'.size)) T'.size = some ds ∧ Rd w ok T' y ds ∧ T'.wf y := by
          intro i hi
          have := hel i hi
          have hs : elems[i]? = some elems[i] := by simp [hlen, hi]
          rw [hs] at this
          simp only [Option.bind_eq_some_iff] at this
          obtain ⟨ds, hd1, hd2⟩ := this
          obtain ⟨y, hy1, hy2⟩ := trod_rd hok d h1 hd2
          exact ⟨y, ds, hd1, hy1, hy2⟩
        obtain ⟨ys, hyl, hys⟩ := pick_list (p := fun i (y : T'.D) => ∃ ds, w.cells? base (a.add (i * T'.size)) T'.size = some ds ∧ Rd w ok T' y ds ∧ T'.wf y) each
        have spot : 0 < len → a.spot = none ∧ a.block < w.heap.size := by
          intro hpos
          obtain ⟨y, ds, hd, _, _⟩ := each 0 hpos
          obtain ⟨hdl, hdc⟩ := cells_get hd
          have : 0 < ds.length := by omega
          have hv := hdc 0 ds[0] (by simp [this])
          obtain ⟨s1, s2⟩ := cell_spot hv
          have e0 : (a.add (0 * T'.size)).add 0 = a := by simp [Addr.add]
          rw [e0] at s1 s2
          exact ⟨s1, s2⟩
        refine ⟨ys, ⟨some a, cap, by rw [hyl], by omega, fun i x hi => ?_⟩, by simp only [hyl]; omega, fun x hx => ?_⟩
        · obtain ⟨ds, hd1, hd2, _⟩ := hys i x hi
          have hil : i < len := by have := (List.getElem?_eq_some_iff.1 hi).1; omega
          obtain ⟨s1, s2⟩ := spot (by omega)
          obtain ⟨g, o, s⟩ := a
          simp only at s1 s2
          subst s1
          refine ⟨g, o, ds, rfl, hok g s2, s2, hd2, fun j v hj => ?_⟩
          have := (cells_get hd1).2 j v hj
          rwa [add_eq, add_eq] at this
        · obtain ⟨i, hi, rfl⟩ := List.getElem_of_mem hx
          obtain ⟨_, _, _, hw⟩ := hys i ys[i] (by simp)
          exact hw
    · rename_i fs hu
      simp only [Bool.and_eq_true, decide_eq_true_eq] at h
      obtain ⟨h1, h2⟩ := h
      obtain ⟨xs, n, _, _, hcl, hxl, hx⟩ := DataW.trod_struct hu ht
      have : cs = [] := List.length_eq_zero_iff.1 (by omega)
      subst this
      exact ⟨(), rfl, trivial⟩
    · rename_i A B fs hu
      simp only [Bool.and_eq_true, decide_eq_true_eq] at h
      obtain ⟨h1, h2⟩ := h
      obtain ⟨xs, n, _, _, hcl, hxl, hx⟩ := DataW.trod_struct hu ht
      obtain ⟨y, hy, hw⟩ := fields fs.toList 0 (.pair A B) xs n h1 (by simpa using hxl) (by omega) fun i f hi => hx i f (by simpa using hi)
      rw [List.drop_zero, ← h2, ← hcl, List.take_length] at hy
      exact ⟨y, hy, hw⟩
    · rename_i A B n e hu
      simp only [Bool.and_eq_true, decide_eq_true_eq] at h
      obtain ⟨h1, h2⟩ := h
      obtain ⟨xs, m, _, _, hcl, hxl, hx⟩ := DataW.trod_array hu ht
      obtain ⟨y, hy, hw⟩ := elemz e n 0 (.pair A B) m h1 (by omega) fun j _ hj => ⟨xs[j]'(by omega), by rw [hx j (by omega)]; simp⟩
      rw [Nat.zero_mul, List.drop_zero, ← h2, ← hcl, List.take_length] at hy
      exact ⟨y, hy, hw⟩
    · cases h
end

/- Kinds of a datum's cells. -/
def Ty.cds : Ty → List CD
  | .int k => [.int k]
  | .bool => [.bool]
  | .str => [.str]
  | .sl t => [.sl t]
  | .nil => []
  | .pair a b => a.cds ++ b.cds

def argS (Ts : List Ty) : List SD := Ts.map fun T => if T.isAgg then .agg T.cds else match T.cds with | [c] => .c c | l => .agg l

def slotsFrom : Nat → List SD → List (Nat × SD)
  | _, [] => []
  | i, s :: r => (i, s) :: slotsFrom (i + 1) r

def argShape (Ts : List Ty) : Shape := ⟨slotsFrom 0 (argS Ts), []⟩

/-- What is told of the values of a row of kinds. -/
def wfL : (l : List CD) → TL l → Prop
  | [], _ => True
  | .int k :: r, x => (Lit.int k x.1).wf = true ∧ wfL r x.2
  | .str :: r, x => x.1.length ≤ maxLen ∧ wfL r x.2
  | .sl t :: r, x => (Ty.sl t).wf x.1 ∧ wfL r x.2
  | _ :: r, x => wfL r x.2

def tlApp : (l m : List CD) → TL l → TL m → TL (l ++ m)
  | [], _, _, y => y
  | _ :: l, m, x, y => (x.1, tlApp l m x.2 y)

section
variable {P : Program} {C : Ctx} {γ : Gam} {h : Heap} {w : World}

theorem wfL_app : ∀ {l m : List CD} {x : TL l} {y : TL m}, wfL l x → wfL m y → wfL (l ++ m) (tlApp l m x y)
  | [], _, _, _, _, hy => hy
  | .int k :: l, m, x, y, hx, hy => ⟨hx.1, wfL_app hx.2 hy⟩
  | .str :: l, m, x, y, hx, hy => ⟨hx.1, wfL_app hx.2 hy⟩
  | .sl t :: l, m, x, y, hx, hy => ⟨hx.1, wfL_app hx.2 hy⟩
  | .bool :: l, m, x, y, hx, hy => wfL_app (l := l) hx hy
  | .row _ _ :: l, m, x, y, hx, hy => wfL_app (l := l) hx hy
  | .ptr _ _ :: l, m, x, y, hx, hy => wfL_app (l := l) hx hy
  | .raw _ :: l, m, x, y, hx, hy => wfL_app (l := l) hx hy
  | .err :: l, m, x, y, hx, hy => wfL_app (l := l) hx hy
  | .ifo _ _ :: l, m, x, y, hx, hy => wfL_app (l := l) hx hy
  | .any :: l, m, x, y, hx, hy => wfL_app (l := l) hx hy

theorem mkL_app {nm : Nm} : ∀ {l m : List CD} {x : TL l} {y : TL m} {k : Nat}, (∀ c ∈ l, c.isRow = false) → (mkL nm (l ++ m) (tlApp l m x y) k).1 = (mkL nm l x k).1 ++ (mkL nm m y k).1 ∧ (mkL nm (l ++ m) (tlApp l m x y) k).2.1 = (mkL nm l x k).2.1 ++ (mkL nm m y k).2.1
  | [], _, _, _, _, _ => ⟨rfl, rfl⟩
  | c :: l, m, x, y, k, hr => by
    have hc : (c.mk nm x.1 k).2.2 = k := by
      have := hr c (by simp)
      cases c <;> first | rfl | cases this
    have ih := mkL_app (nm := nm) (l := l) (m := m) (x := x.2) (y := y) (k := k) fun c hc => hr c (by simp [hc])
    simp only [List.cons_append, mkL, tlApp, hc, ih.1, ih.2]
    exact ⟨trivial, by rw [List.append_assoc]⟩

theorem Ty.cds_row : ∀ (T : Ty), ∀ c ∈ T.cds, c.isRow = false
  | .int _, c, h => by simp [Ty.cds] at h; rw [h]; rfl
  | .bool, c, h => by simp [Ty.cds] at h; rw [h]; rfl
  | .str, c, h => by simp [Ty.cds] at h; rw [h]; rfl
  | .sl _, c, h => by simp [Ty.cds] at h; rw [h]; rfl
  | .nil, c, h => by simp [Ty.cds] at h
  | .pair a b, c, h => by
    simp only [Ty.cds, List.mem_append] at h
    exact h.elim (Ty.cds_row a c) (Ty.cds_row b c)

theorem rows_none {nm : Nm} : ∀ {l : List CD} {x : TL l} {k : Nat}, (∀ c ∈ l, c.isRow = false) → (mkL nm l x k).2.1 = []
  | [], _, _, _ => rfl
  | c :: l, x, k, hr => by
    simp only [mkL]
    rw [rows_none fun c hc => hr c (by simp [hc])]
    have := hr c (by simp)
    cases c <;> first | rfl | cases this

/-- A datum's values, and its cells. -/
theorem rd_tl {nm : Nm} : ∀ {T : Ty} {y : T.D} {cs : List Value}, Rd w (okb C γ h none) T y cs → T.wf y → ∃ x : TL T.cds, wfL T.cds x ∧ ∀ k, All2 (RepC C γ h w) (mkL nm T.cds x k).1 cs
  | .int k, y, cs, hr, hw => ⟨(y, ()), ⟨hw, trivial⟩, fun m => by rw [show cs = _ from hr]; exact ⟨rfl, trivial⟩⟩
  | .bool, y, cs, hr, hw => ⟨(y, ()), trivial, fun m => by rw [show cs = _ from hr]; exact ⟨rfl, trivial⟩⟩
  | .str, y, cs, hr, hw => ⟨(y, ()), ⟨hw, trivial⟩, fun m => by rw [show cs = _ from hr]; exact ⟨rfl, trivial⟩⟩
  | .sl t, y, cs, hr, hw => by
    refine ⟨(y, ()), ⟨hw, trivial⟩, fun m => ?_⟩
    obtain ⟨A, c, hcs, hrest⟩ := hr
    subst hcs
    exact ⟨⟨rfl, RdS.iff.2 ⟨A, c, rfl, hrest⟩⟩, trivial⟩
  | .nil, y, cs, hr, hw => ⟨(), trivial, fun m => by rw [show cs = _ from hr]; trivial⟩
  | .pair a b, y, cs, hr, hw => by
    obtain ⟨c1, c2, rfl, h1, h2⟩ := hr
    obtain ⟨x1, w1, r1⟩ := rd_tl h1 hw.1
    obtain ⟨x2, w2, r2⟩ := rd_tl h2 hw.2
    refine ⟨tlApp _ _ x1 x2, wfL_app w1 w2, fun m => ?_⟩
    show All2 _ (mkL nm (a.cds ++ b.cds) (tlApp a.cds b.cds x1 x2) m).1 _
    rw [(mkL_app (Ty.cds_row a)).1]
    exact (r1 m).append (r2 m)

theorem slotsFrom_all : ∀ (Ts : List Ty) (i : Nat), ((slotsFrom i (argS Ts)).flatMap fun p => p.2.cds) = Ts.flatMap Ty.cds
  | [], _ => rfl
  | T :: r, i => by
    have := slotsFrom_all r (i + 1)
    simp only [argS, List.map_cons, slotsFrom, List.flatMap_cons] at this ⊢
    rw [this]
    congr 1
    split
    · rfl
    · split
      · rename_i hc; rw [hc]; rfl
      · rfl

theorem argShape_all (Ts : List Ty) : (argShape Ts).all = Ts.flatMap Ty.cds := by
  unfold Shape.all argShape
  rw [slotsFrom_all]; simp

theorem slotsFrom_len : ∀ (l : List SD) (i : Nat), (slotsFrom i l).length = l.length
  | [], _ => rfl
  | _ :: l, i => by simp [slotsFrom, slotsFrom_len l]

/-- The context of a whole call. -/
def top (w : World) (L : World → Prop) : Ctx := { w0 := w, own := fun g => w.heap.size ≤ g, rd := fun _ => True, L := L }

theorem top_inv {L : World → Prop} (hL : L w) (hst : ∀ a b : World, L a → (∀ g, g < w.heap.size → b.heap[g]? = a.heap[g]?) → L b) : Inv (top w L) (fun _ => none) (Heap.ofList []) w where
  box := fun k e hk => by cases hk
  inj := fun k k' e e' g c c' hk => by cases hk
  own := fun k e g c hk => by cases hk
  frame := fun _ _ _ => rfl
  size := Nat.le_refl _
  os := rfl
  tape := rfl
  output := rfl
  new := fun _ h => h
  rd := fun _ _ => trivial
  laid := hL
  stable := fun a b ha hb => hst a b ha fun g hg => hb g (by show ¬ w.heap.size ≤ g; omega)
  lent := fun i hi => absurd hi (Nat.not_lt_zero i)

theorem val_form {t : TypeId} {T : Ty} {d : Nat} {r : Reach} {base : Nat} {v : Value} (h : tyB P d t T = true) (hv : Value.okWide P w r base t v) : if T.isAgg then ∃ us : List Value, v = .agg us.toArray else v.cells.toList = [v] := by
  cases d with
  | zero => cases h
  | succ d =>
    unfold tyB at h
    split at h
    · rename_i hu
      simp only [Ty.isAgg, Bool.false_eq_true, if_false]
      unfold Value.okWide at hv
      rw [hu] at hv
      simp only at hv
      unfold Cell.okWide Cell.ok at hv
      rw [hu] at hv
      cases v <;> first | rfl | simp at hv
    · rename_i hu
      obtain ⟨b, rfl⟩ := WideShapes.okWide_bool hu hv
      simp [Ty.isAgg, Value.cells]
    · rename_i hu
      simp only [Ty.isAgg, Bool.false_eq_true, if_false]
      unfold Value.okWide at hv
      rw [hu] at hv
      simp only at hv
      unfold Cell.okWide Cell.ok at hv
      rw [hu] at hv
      cases v <;> first | rfl | simp at hv
    · rename_i hu
      obtain ⟨a, l, c, rfl⟩ := WideShapes.okWide_slice hu hv
      simp [Ty.isAgg, Value.cells]
    · rename_i hu
      obtain ⟨cs, rfl, _⟩ := WideShapes.okWide_struct hu hv
      exact ⟨cs.toList, by simp⟩
    · rename_i hu
      obtain ⟨cs, rfl, _⟩ := WideShapes.okWide_struct hu hv
      exact ⟨cs.toList, by simp⟩
    · rename_i hu
      simp only [Value.okWide, hu] at hv
      obtain ⟨cs, rfl, _⟩ := hv
      exact ⟨cs.toList, by simp⟩
    · cases h

theorem args_tl {H : Type} {enc : TypeId × Value → H} {base : Nat} {sp : Nat → Bool} {held : Bool} {nm : Nm} {r : Reach} {b0 : Nat} (hok : ∀ g, g < w.heap.size → okb C γ h none g) {vals : Array Value} : ∀ {ts : List TypeId} {Ts : List Ty} {vs : List Value} {ds : List (DataW H)} {p : List MemPlace} (i : Nat),
    DataW.TrodAll enc P w base sp held ts vs ds p → All2 (fun t T => tyB P 20 t T = true) ts Ts → (∀ (j : Nat) t v, ts[j]? = some t → vs[j]? = some v → Value.okWide P w r b0 t v) → (∀ (j : Nat) v, vs[j]? = some v → vals.getD (i + j) undef = v) →
    ∃ x : TL (Ts.flatMap Ty.cds), wfL _ x ∧ (∀ k, All2 (RepC C γ h w) (mkL nm (Ts.flatMap Ty.cds) x k).1 (flatV vals (slotsFrom i (argS Ts)))) ∧ SlotsOk vals (slotsFrom i (argS Ts))
  | [], [], [], [], _, i, _, _, _, _ => ⟨(), trivial, fun k => trivial, fun j ds hm => by simp [slotsFrom, argS] at hm⟩
  | t :: ts, T :: Ts, v :: vs, d :: ds, p, i, hA, hT, hv, hvals => by
    obtain ⟨p1, q1, ⟨fuel, ht⟩, hrest, _⟩ := hA
    obtain ⟨x2, w2, r2, s2⟩ := args_tl hok (i + 1) hrest hT.2 (fun j t v h1 h2 => hv (j + 1) t v (by simpa using h1) (by simpa using h2)) (fun j v hj => by have := hvals (j + 1) v (by simpa using hj); rwa [show i + 1 + j = i + (j + 1) by omega])
    obtain ⟨y, hy, hyw⟩ := trod_rd hok 20 hT.1 ht
    obtain ⟨x1, w1, r1⟩ := rd_tl (C := C) (γ := γ) (h := h) (nm := nm) hy hyw
    have hvi : vals.getD i undef = v := hvals 0 v rfl
    have form := val_form hT.1 (hv 0 t v rfl rfl)
    refine ⟨tlApp T.cds (Ts.flatMap Ty.cds) x1 x2, wfL_app w1 w2, fun k => ?_, ?_⟩
    · show All2 _ (mkL nm (T.cds ++ Ts.flatMap Ty.cds) (tlApp T.cds (Ts.flatMap Ty.cds) x1 x2) k).1 _
      rw [(mkL_app (Ty.cds_row T)).1]
      simp only [argS, List.map_cons, slotsFrom]
      by_cases ha : T.isAgg = true
      · rw [if_pos ha]
        simp only [flatV, hvi]
        exact (r1 k).append (r2 k)
      · rw [if_neg ha]
        rw [if_neg ha] at form
        have r1k := r1 k
        rw [form] at r1k
        cases T with
        | int k' => simp only [Ty.cds, flatV, hvi]; exact r1k.append (r2 k)
        | bool => simp only [Ty.cds, flatV, hvi]; exact r1k.append (r2 k)
        | str => simp only [Ty.cds, flatV, hvi]; exact r1k.append (r2 k)
        | sl t' => simp only [Ty.cds, flatV, hvi]; exact r1k.append (r2 k)
        | nil => exact absurd rfl ha
        | pair a b => exact absurd rfl ha
    · intro j ds hm
      simp only [argS, List.map_cons, slotsFrom, List.mem_cons, Prod.mk.injEq] at hm
      rcases hm with ⟨rfl, hm⟩ | hm
      · by_cases ha : T.isAgg = true
        · rw [if_pos ha] at hm form
          subst hm
          obtain ⟨us, rfl⟩ := form
          refine ⟨us, hvi, ?_⟩
          have := (r1 0).length
          rw [(mkL_count _ _ _ _).2.2] at this
          simpa [Value.cells] using this.symm
        · rw [if_neg ha] at hm
          subst hm
          cases T <;> first | exact trivial | exact absurd rfl ha
      · exact s2 j ds hm
  | [], [], [], _ :: _, _, _, hA, _, _, _ => hA.elim
  | [], [], _ :: _, _, _, _, hA, _, _, _ => by cases hA
  | [], _ :: _, _, _, _, _, _, hT, _, _ => hT.elim
  | _ :: _, [], _, _, _, _, _, hT, _, _ => hT.elim
  | _ :: _, _ :: _, [], _, _, _, hA, _, _, _ => by cases hA
  | _ :: _, _ :: _, _ :: _, [], _, _, hA, _, _, _ => by cases hA

/-- A law, called: it answers true, and what was there is there. -/
theorem law_calls {H : Type} {enc : TypeId × Value → H} {base : Nat} {sp : Nat → Bool} {held : Bool} {r : Reach} {b0 : Nat} {L : World → Prop} {f : FuncId} {Ts : List Ty} {g : (argShape Ts).T → Option (flatS [CD.bool]).T} (hs : Sat P L f ⟨argShape Ts, flatS [.bool], g⟩)
    (hg : ∀ x : (argShape Ts).T, wfL (argShape Ts).all x → g x = some (true, ())) (hL : L w) (hst : ∀ a b : World, L a → (∀ g, g < w.heap.size → b.heap[g]? = a.heap[g]?) → L b)
    {ts : List TypeId} {args : Array Value} {ds : List (DataW H)} {p : List MemPlace} (hA : DataW.TrodAll enc P w base sp held ts args.toList ds p) (hT : All2 (fun t T => tyB P 20 t T = true) ts Ts) (hv : ∀ (j : Nat) t v, ts[j]? = some t → args[j]? = some v → Value.okWide P w r b0 t v) :
    Calls P f args w fun e w' => e = .returned (.bool true) ∧ Below w.heap.size w w' := by
  have I := top_inv (w := w) hL hst
  obtain ⟨x', hw', hr, hok⟩ := args_tl (C := top w L) (γ := fun _ => none) (h := Heap.ofList []) (nm := nmJ) (vals := args) (r := r) (b0 := b0) (fun g _ => ⟨trivial, fun k e c hk => by cases hk⟩) 0 hA hT (fun j t v h1 h2 => hv j t v h1 (by rw [← Array.getElem?_toList]; exact h2)) (fun j v hj => by
    rw [Nat.zero_add, Array.getD_eq_getD_getElem?, ← Array.getElem?_toList, hj]; rfl)
  have eqT : TL (Ts.flatMap Ty.cds) = (argShape Ts).T := by show _ = TL (argShape Ts).all; rw [argShape_all]
  have castmk : ∀ (l : List CD) (e : l = Ts.flatMap Ty.cds) (h : TL (Ts.flatMap Ty.cds) = TL l) (k : Nat), mkL nmJ l (cast h x') k = mkL nmJ (Ts.flatMap Ty.cds) x' k := by
    intro l e h k; subst e; rfl
  have castwf : ∀ (l : List CD) (e : l = Ts.flatMap Ty.cds) (h : TL (Ts.flatMap Ty.cds) = TL l), wfL l (cast h x') := by
    intro l e h; subst e; exact hw'
  have hx := hg (cast eqT x') (castwf _ (argShape_all Ts) eqT)
  have hlen : All2 (fun t T => tyB P 20 t T = true) ts Ts → ts.length = Ts.length := fun h => h.length
  have hla : ∀ {ts : List TypeId} {vs : List Value} {ds : List (DataW H)} {p : List MemPlace}, DataW.TrodAll enc P w base sp held ts vs ds p → vs.length = ts.length := by
    intro ts
    induction ts with
    | nil => intro vs ds p h; cases vs with
      | nil => rfl
      | cons _ _ => cases h
    | cons t ts ih => intro vs ds p h; cases vs with
      | nil => cases h
      | cons v vs => cases ds with
        | nil => cases h
        | cons d ds => obtain ⟨_, _, _, hr, _⟩ := h; simp [ih hr]
  have hsz : args.size = (argShape Ts).slots.length := by
    have h1 := hla hA
    have h2 := hlen hT
    simp only [Array.length_toList] at h1
    show _ = (slotsFrom 0 (argS Ts)).length
    rw [slotsFrom_len, argS, List.length_map]
    omega
  have hrows : (mkL nmJ (argShape Ts).all (cast eqT x') (argShape Ts).boxes.length).2.1 = [] := by
    rw [castmk _ (argShape_all Ts) eqT]
    exact rows_none fun c hc => by
      obtain ⟨T, _, hc⟩ := List.mem_flatMap.1 hc
      exact Ty.cds_row T c hc
  have hh : ((argShape Ts).mk' nmJ (argShape Ts).slots.length (cast eqT x')).h = Heap.ofList [] := by
    have : ((argShape Ts).mk' nmJ (argShape Ts).slots.length (cast eqT x')).h = Heap.ofList ([] ++ (mkL nmJ (argShape Ts).all (cast eqT x') (argShape Ts).boxes.length).2.1) := rfl
    rw [this, hrows]; rfl
  obtain ⟨h1, h2, _⟩ := putSlots_sound (C := top w L) (γ := fun _ => none) (h := Heap.ofList []) (w := w) (vals := args) (sl := (argShape Ts).slots) (l := List.replicate (argShape Ts).slots.length V.dead) (rest := []) hok (fun i v hi => by
      rw [List.getElem?_replicate] at hi
      split at hi
      · simp only [Option.some.injEq] at hi; subst hi; trivial
      · cases hi) (by rw [List.append_nil]; exact hr (argShape Ts).boxes.length)
  have R : Rel (top w L) (fun _ => none) (top w L).w0 ((argShape Ts).mk' nmJ (argShape Ts).slots.length (cast eqT x')) args := by
    refine ⟨?_, ?_, ?_⟩
    · show args.size = (putSlots _ _ _).1.length
      rw [putSlots_len, List.length_replicate, hsz]
    · rw [hh]
      intro i v hi
      refine h2 i v ?_
      rw [← castmk _ (argShape_all Ts) eqT]
      exact hi
    · rw [hh]; exact I
  refine (hs (cast eqT x') (true, ()) hx (top w L) (fun _ => none) args rfl rfl R).mono fun e w' ⟨γ', rs, he, R'⟩ => ?_
  have hb : rs = #[.bool true] := by
    have h0 := R'.slot 0 (.v (.c (.bool true))) rfl
    have hsz' : rs.size = 1 := R'.size
    have h0 : rs.getD 0 undef = .bool true := h0
    match rs, hsz', h0 with
    | ⟨[v]⟩, _, h0 => simp at h0; rw [h0]
  subst hb
  refine ⟨he, R'.inv.os, R'.inv.tape, R'.inv.output, R'.inv.size, fun k hk => R'.inv.frame k hk (by show ¬ w.heap.size ≤ k; omega)⟩

end
end Rv
