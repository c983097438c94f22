/- strings.Builder's writing methods at this dump, where copyCheck's other way is refused, and scan.Join. (The lines of copyCheck and WriteString are the shelf's, turned to this dump.) -/
import Derived.Test.YtlbfhddhojejfaaDoorRvUa
import Derived.Test.YtlbfhddhojejfaaDoorRvL0
import Derived.Test.YtlbfhddhojejfaaDoorShelfN
import Derived.Shelf.Strings.BuilderK
import Derived.WalkKit
import Derived.BigCall
set_option linter.all false
namespace Rv
open Go Go.RowKit Go.Proofs
noncomputable section
set_option maxRecDepth 100000

theorem bld_size : (Tryd.prog.info? 62).map (·.size) = some 2 := by kernel_rfl
theorem bld_lies : liesAt Tryd.prog Tryd.prog.depth 62 (2 / Tryd.prog.cellsOf 62) 0 62 1 = true := by kernel_rfl

theorem copyCheck_used (b : Nat) (w : World) (h0 : w.cell? ⟨b, 0, none⟩ = some (.pointer (some ⟨b, 0, none⟩))) :
    Calls Tryd.prog 59 #[.pointer (some ⟨b, 0, none⟩)] w fun e w' => e = .returned (.tuple #[]) ∧ w' = w := by
  obtain ⟨j, hj, _⟩ := Option.map_eq_some_iff.1 bld_size
  go_enter Tryd.func59, Tryd.ntmps59
  go_wp2
  rw [Lib.run_neq_ptr_same w _ Tryd.underlying60 hj]
  go_wp2
  go_end0
  exact ⟨rfl, rfl⟩

theorem copyCheck_fresh (b : Nat) (w : World) (h0 : w.cell? ⟨b, 0, none⟩ = some (.pointer none)) (hsh : w.shape? b = some (62, 2)) (hfz : w.frozen? ⟨b, 0, none⟩ = false) :
    Calls Tryd.prog 59 #[.pointer (some ⟨b, 0, none⟩)] w fun e w' => e = .returned (.tuple #[]) ∧ w' = w.setCell ⟨b, 0, none⟩ (.pointer (some ⟨b, 0, none⟩)) := by
  obtain ⟨j, hj, hjs⟩ := Option.map_eq_some_iff.1 bld_size
  go_enter Tryd.func59, Tryd.ntmps59
  go_wp2
  rw [Lib.run_to_unsafe w ⟨b, 0, none⟩ Tryd.underlying60 Tryd.underlying92 hj (by rw [hjs]; decide) hsh (Nat.zero_lt_succ 1)]
  simp only [Result.andThen]
  rw [Oper.upon_value]
  go_wp2
  rw [run_callFunc_extern Tryd.func80 (by kernel_rfl) (by kernel_rfl) (by kernel_rfl) (e := Extern.AbiNoEscape.same) (by kernel_rfl)]
  rw [Lib.run_noEscape]
  simp only [Result.andThen]
  rw [Oper.upon_value]
  go_wp2
  rw [Lib.run_from_unsafe w ⟨b, 0, none⟩ Tryd.underlying92 Tryd.underlying60 hj hsh bld_lies]
  simp only [Result.andThen]
  rw [Oper.upon_value]
  go_wp2
  go_end0
  exact ⟨rfl, rfl⟩

theorem copyCheck_k (B b : Nat) (bs : List Value) (w : World) (h : Lib.IsBuilderF 62 5 B b bs w) :
    Calls Tryd.prog 59 #[.pointer (some ⟨b, 0, none⟩)] w fun e w' => e = .returned (.tuple #[]) ∧ (Lib.BuilderAtF 62 5 B b (.pointer (some ⟨b, 0, none⟩)) bs w' ∧ Below B w w' ∧ Lib.OthersKept 5 (some b) w w') := by
  rcases h with h | h
  · refine (copyCheck_fresh b w h.cell0 h.shape h.frozen0).mono ?_
    rintro e w' ⟨rfl, rfl⟩
    exact ⟨rfl, h.used _, (Below.refl B w).setCell (p := ⟨b, 0, none⟩) h.1 _, (Lib.OthersKept.refl _ _ w).setCell ⟨b, 0, none⟩ rfl _⟩
  · refine (copyCheck_used b w h.cell0).mono ?_
    rintro e w' ⟨rfl, rfl⟩
    exact ⟨rfl, h, Below.refl B _, Lib.OthersKept.refl _ _ _⟩

set_option maxHeartbeats 2000000 in
theorem writeString_k (B b : Nat) (bs : List Value) (s : ByteArray) (w : World) (h : Lib.IsBuilderF 62 5 B b bs w) (hlen : bs.length + s.size ≤ 140737488355328) (hBw : B ≤ w.heap.size) :
    Calls Tryd.prog 46 #[.pointer (some ⟨b, 0, none⟩), .string s] w fun e w' => e = .returned (.tuple #[.int .i64 s.size, .nilIface]) ∧ (Lib.BuilderAtF 62 5 B b (.pointer (some ⟨b, 0, none⟩)) (bs ++ Lib.strCells s) w' ∧ Below B w w' ∧ Lib.OthersKept 5 (some b) w w') := by
  obtain ⟨i0, hi, hz0, hz1, hz2⟩ := info_parts (show (Tryd.prog.info? 5).map (fun i => (i.zero, i.size, i.bytes)) = some (some (.int .u8 0), 1, 1) by kernel_rfl)
  have hcc := copyCheck_k B b bs w h
  go_enter Tryd.func46, Tryd.ntmps46
  go_wp2_with (go_at_call 59; refine hcc.mono ?_)
  rintro e w1 ⟨rfl, h1, hb1, hk1⟩
  obtain ⟨hB, v, hbk, hown, hne⟩ := h1
  have c0 : w1.cell? ⟨b, 0, none⟩ = some (.pointer (some ⟨b, 0, none⟩)) := by rw [Lib.cell_of_heap hbk]; rfl
  have c1 : w1.cell? ⟨b, 1, none⟩ = some v := by rw [Lib.cell_of_heap hbk]; rfl
  go_wp2_with (at_builtin; refine Lib.wpList_append_own_stringF _ rfl _ _ 32 9 rfl B 5 i0 Tryd.underlying32 Tryd.underlying9 hi hz0 hz1 hz2 _ _ _ rfl hown s rfl ?c3 ?c4 ?c5 ?_)
  case c3 => unfold maxLen; omega
  case c4 => omega
  case c5 => have := hb1.size; omega
  intro v' w2 hown' hgrow _
  have hlt : b < w1.heap.size := by
    rcases Nat.lt_or_ge b w1.heap.size with h' | h'
    · exact h'
    · simp [Array.getElem?_eq_none h'] at hbk
  have hb2 : w2.heap[b]? = some (.cells #[.pointer (some ⟨b, 0, none⟩), v] 62 (0, 0)) := by
    rw [hgrow.block b hlt (fun e => hne e.symm)]
    exact hbk
  have d0 : w2.cell? ⟨b, 0, none⟩ = some (.pointer (some ⟨b, 0, none⟩)) := by rw [Lib.cell_of_heap hb2]; rfl
  have d1 : w2.cell? ⟨b, 1, none⟩ = some v := by rw [Lib.cell_of_heap hb2]; rfl
  have f1 : w2.frozen? ⟨b, 1, none⟩ = false := Lib.frozen_of_heap hb2 1
  obtain ⟨ao, n', cap, rfl⟩ : ∃ ao n' cap, v' = .slice ao n' cap := by
    rcases hown'.2 with ⟨hv, _⟩ | ⟨g, cap, cur, fz, hv, _⟩
    · exact ⟨_, _, _, hv⟩
    · exact ⟨_, _, _, hv⟩
  go_wp2
  go_ret2
  refine ⟨rfl, ?_, ?_, (hk1.grown hgrow (Lib.ownsRowF_kind hown)).setCell ⟨b, 1, none⟩ rfl _⟩
  · exact Lib.BuilderAtF.put (T := 62) (e := 5) hB hb2 (bs' := bs ++ Lib.strCells s) (by simpa [Lib.strCells_length] using hown') (by decide)
  · exact (hb1.grown hgrow (by have := hb1.size; omega) (fun k hk => (hown.lt k hk).1)).setCell (p := ⟨b, 1, none⟩) hB _

/-- Tokens. -/
abbrev TK : Ty := .pair (.int .i64) (.pair (.int .i64) (.pair .str (.pair (.int .u32) .nil)))

theorem rd_tok {w : World} {ok : Nat → Prop} {x : TK.D} {ds : List Value} (h : Rd w ok TK x ds) : ds = [.int .i64 x.1, .int .i64 x.2.1, .string (mkS x.2.2.1), .int .u32 x.2.2.2.1] := by
  obtain ⟨c1, c2, rfl, h1, c3, c4, rfl, h2, c5, c6, rfl, h3, c7, c8, rfl, h4, h5⟩ := h
  have h1 : c1 = [.int .i64 x.1] := h1
  have h2 : c3 = [.int .i64 x.2.1] := h2
  have h3 : c5 = [.string (mkS x.2.2.1)] := h3
  have h4 : c7 = [.int .u32 x.2.2.2.1] := h4
  have h5 : c8 = [] := h5
  rw [h1, h2, h3, h4, h5]; rfl

theorem size_addS (s : Str) : (mkS s ++ (⟨#[32]⟩ : ByteArray)).size = s.length + 1 := by
  simp [ByteArray.size_append, mkS, ByteArray.size]

theorem strCells_addS (s : Str) : Lib.strCells (mkS s ++ (⟨#[32]⟩ : ByteArray)) = Lib.byteCells (s ++ [32]) := by
  simp [Lib.strCells, Lib.byteCells, mkS, ByteArray.data_append]

theorem joinR_app : ∀ a b : List (Int × Int × Str × Int × Unit), L.joinR (a ++ b) = L.joinR a ++ L.joinR b
  | [], b => rfl
  | t :: a, b => by simp only [List.cons_append, L.joinR]; rw [joinR_app a b, ← List.append_assoc]

theorem joinR_at {xs : List (Int × Int × Str × Int × Unit)} {i : Nat} {x : Int × Int × Str × Int × Unit} (h : xs[i]? = some x) : L.joinR (xs.take (i + 1)) = L.joinR (xs.take i) ++ ((if x.1 = 4 then [46] else []) ++ x.2.2.1 ++ [32]) ∧
    (L.joinR (xs.take i)).length + (((if x.1 = 4 then [46] else []) ++ x.2.2.1 ++ [32] : Str)).length ≤ (L.joinR xs).length := by
  have hi : i < xs.length := (List.getElem?_eq_some_iff.1 h).1
  have hx : xs[i] = x := (List.getElem?_eq_some_iff.1 h).2
  have e1 : L.joinR (xs.take (i + 1)) = L.joinR (xs.take i) ++ ((if x.1 = 4 then [46] else []) ++ x.2.2.1 ++ [32]) := by
    rw [List.take_succ_eq_append_getElem hi, joinR_app, hx]
    simp [L.joinR]
  refine ⟨e1, ?_⟩
  have e2 : L.joinR xs = L.joinR (xs.take (i + 1)) ++ L.joinR (xs.drop (i + 1)) := by rw [← joinR_app, List.take_append_drop]
  rw [e2, e1]
  simp only [List.length_append]; omega

set_option maxHeartbeats 4000000 in
theorem join_walk (xs : List (Int × Int × Str × Int × Unit)) (A : Option Addr) (c : Nat) (w : World) (hc : xs.length ≤ c) (hx : ∀ i x, xs[i]? = some x → ∃ g o ds, A = some ⟨g, o, none⟩ ∧ g < w.heap.size ∧ Rd w (fun _ => True) TK x ds ∧ ∀ j v, ds[j]? = some v → w.cell? ⟨g, o + i * TK.size + j, none⟩ = some v)
    (hj : (L.joinR xs).length ≤ 140737488355328) (hlen : xs.length ≤ 140737488355328) :
    Calls Tryd.prog 19 #[.slice A xs.length c] w fun e w' => e = .returned (.string (mkS (L.joinR xs))) ∧ Below w.heap.size w w' := by
  go_enter Tryd.func19, Tryd.ntmps19
  go_wp2
  go_loopw [8] (fun vi wr => ∃ (i : Nat), vi = .int .i64 i ∧ i ≤ xs.length ∧ Lib.IsBuilderF 62 5 w.heap.size w.heap.size (Lib.byteCells (L.joinR (xs.take i))) wr ∧ Below w.heap.size w wr) (fun vi wr => xs.length - (intOf vi).toNat)
  case atStart =>
    refine ⟨0, rfl, Nat.zero_le _, Lib.IsBuilderF.of (Lib.fresh_isBuilder 62 5 w), (Below.refl _ w).alloc (Nat.le_refl _) _⟩
  case round =>
    obtain ⟨i, rfl, hi, hI, hbw⟩ := hrel
    have hsz : w.heap.size ≤ wr.heap.size := hbw.size
    by_cases hp : i < xs.length
    · have hat : xs[i]? = some (xs.getD i (0, 0, [], 0, ())) := by simp [List.getD, hp]
      obtain ⟨g, o, ds, rfl, hg, hrd, hcell⟩ := hx i (xs.getD i (0, 0, [], 0, ())) hat
      have hds := rd_tok hrd
      obtain ⟨hjn, hjl⟩ := joinR_at hat
      generalize hxi : xs.getD i (0, 0, [], 0, ()) = x at hds hjn hjl
      have q0 : wr.cell? ⟨g, o + i * 4, none⟩ = some (.int .i64 x.1) := by rw [hbw.cell (p := ⟨g, _, none⟩) hg]; exact hcell 0 _ (by rw [hds]; rfl)
      have q1 : wr.cell? ⟨g, o + i * 4 + 1, none⟩ = some (.int .i64 x.2.1) := by rw [hbw.cell (p := ⟨g, _, none⟩) hg]; exact hcell 1 _ (by rw [hds]; rfl)
      have q2 : wr.cell? ⟨g, o + i * 4 + 2, none⟩ = some (.string (mkS x.2.2.1)) := by rw [hbw.cell (p := ⟨g, _, none⟩) hg]; exact hcell 2 _ (by rw [hds]; rfl)
      have q3 : wr.cell? ⟨g, o + i * 4 + 3, none⟩ = some (.int .u32 x.2.2.2.1) := by rw [hbw.cell (p := ⟨g, _, none⟩) hg]; exact hcell 3 _ (by rw [hds]; rfl)
      clear hrd hcell hds hat
      have hblt : w.heap.size < wr.heap.size := by
        rcases hI with h | h <;> (obtain ⟨_, v, hv, _⟩ := h; exact (Array.getElem?_eq_some_iff.1 hv).1)
      have hsl : (mkS x.2.2.1).size = x.2.2.1.length := rfl
      simp only [List.length_append, List.length_cons, List.length_nil] at hjl
      have hI1 := fun o' => hI.alloc (o := o')
      by_cases h4 : x.1 = 4
      · rw [if_pos h4] at hjn hjl
        simp only [List.length_cons, List.length_nil] at hjl
        go_wp2_with (go_at_call 46; refine (writeString_k w.heap.size w.heap.size _ _ _ (hI1 _) (by rw [Lib.byteCells_length]; show _ + 1 ≤ _; omega) (by simp; omega)).mono ?_)
        rintro e W2 ⟨rfl, h1, b1, k1⟩
        have hT := k1 wr.heap.size _ (MapKept.heap_alloc wr _).1 (fun e => by have := Option.some.inj e; omega) (fun c fz e => by cases e)
        have p2 : W2.cell? ⟨wr.heap.size, 2, none⟩ = some (.string (mkS x.2.2.1)) := by rw [Lib.cell_of_heap hT]; rfl
        have hs2 : w.heap.size ≤ W2.heap.size := by have := (Array.getElem?_eq_some_iff.1 hT).1; omega
        go_wp2_with (go_at_call 46; refine (writeString_k w.heap.size w.heap.size _ _ _ (Or.inr h1) (by rw [List.length_append, Lib.byteCells_length, Lib.strCells_length, size_addS]; show _ + 1 + _ ≤ _; omega) hs2).mono ?_)
        rintro e W3 ⟨rfl, h2, b2, k2⟩
        go_wp2
        go_roundw
        case rel =>
          refine ⟨i + 1, by trivial, by omega, ?_, ((hbw.alloc hsz _).trans b1).trans b2⟩
          rw [hjn]
          have e : Lib.byteCells (L.joinR (xs.take i) ++ ([46] ++ x.2.2.1 ++ [32])) = Lib.byteCells (L.joinR (xs.take i)) ++ Lib.strCells ⟨#[46]⟩ ++ Lib.strCells (mkS x.2.2.1 ++ ⟨#[32]⟩) := by
            rw [strCells_addS]
            simp [Lib.byteCells, Lib.strCells]
          rw [e]
          exact Or.inr h2
        case measure =>
          simp [intOf]; omega
      · rw [if_neg h4] at hjn hjl
        simp only [List.length_nil, Nat.zero_add] at hjl
        have hT := (MapKept.heap_alloc wr (.cells #[.int .i64 x.1, .int .i64 x.2.1, .string (mkS x.2.2.1), .int .u32 x.2.2.2.1] 30)).1
        have p2 : (wr.alloc (.cells #[.int .i64 x.1, .int .i64 x.2.1, .string (mkS x.2.2.1), .int .u32 x.2.2.2.1] 30)).cell? ⟨wr.heap.size, 2, none⟩ = some (.string (mkS x.2.2.1)) := by rw [Lib.cell_of_heap hT]; rfl
        go_wp2_with (go_at_call 46; refine (writeString_k w.heap.size w.heap.size _ _ _ (hI1 _) (by rw [Lib.byteCells_length, size_addS]; omega) (by simp; omega)).mono ?_)
        rintro e W3 ⟨rfl, h2, b2, k2⟩
        go_wp2
        go_roundw
        case rel =>
          refine ⟨i + 1, by trivial, by omega, ?_, (hbw.alloc hsz _).trans b2⟩
          rw [hjn]
          have e : Lib.byteCells (L.joinR (xs.take i) ++ ([] ++ x.2.2.1 ++ [32])) = Lib.byteCells (L.joinR (xs.take i)) ++ Lib.strCells (mkS x.2.2.1 ++ ⟨#[32]⟩) := by
            rw [strCells_addS]
            simp [Lib.byteCells]
          rw [e]
          exact Or.inr h2
        case measure =>
          simp [intOf]; omega
    · have hie : i = xs.length := by omega
      subst hie
      rw [List.take_length] at hI
      go_wp2_with (go_at_call 47; refine (Tryd.Builder_String_any_k w.heap.size w.heap.size (L.joinR xs) _ hI hsz).mono ?_)
      rintro e W1 ⟨rfl, _, b1, _⟩
      go_wp2
      go_ret
      exact ⟨rfl, hbw.trans b1⟩

theorem joinR_len : ∀ xs : List (Int × Int × Str × Int × Unit), xs.length ≤ (L.joinR xs).length
  | [] => Nat.zero_le _
  | t :: l => by
    have := joinR_len l
    simp only [L.joinR, List.length_append, List.length_cons, List.length_nil]; omega
end
end Rv
