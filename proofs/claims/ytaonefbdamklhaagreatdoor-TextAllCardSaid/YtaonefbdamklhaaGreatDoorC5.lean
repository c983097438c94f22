/- Texts put together. -/
import Derived.Test.YtaonefbdamklhaaGreatDoorC4
import Derived.WideShapes
import Derived.StringKeys
import Derived.Shelf.Strings.Builder2
import Derived.Shelf.Strings.Trim
import Derived.Shelf.Small.Strs
import Derived.Shelf.Small.Wraps
import Derived.Shelf.Strings.BuilderK
import Derived.Shelf.Strconv.Itoa1
import Derived.Shelf.LaysM
import Derived.Shelf.Strconv.Itoa2
import Derived.Shelf.Strconv.Itoa3
import Derived.Shelf.LaysC
import Derived.Shelf.Strconv.ToError
import Derived.Shelf.Strconv.ToErrorRange
import Derived.Shelf.Strings.Search3
import Derived.Shelf.Strings.Prefix
import Derived.Shelf.Strings.Split
import Derived.Shelf.Strings.SplitShaped
import Derived.Test.YtaonefbdamklhaaGreatDoorProg
import Derived.Lib.ItoaMem
import Derived.Lib.AppendIntMem
import Derived.Lib.Walk
import Derived.WalkKit
import Derived.BigCall
import Derived.BigGuard
import Derived.Test.YtaonefbdamklhaaGreatDoorC1
import Derived.Lib.ReplaceLaws
import Derived.Lib.SlicesS
import Derived.Deep.LoopGhost
import Derived.Shelf.RegionOpenPlain
import Derived.Maps.RangeWalk
import Derived.Maps.Ext
import Derived.DeepKeys4
import Derived.Lib.Fields
import Derived.Shelf.Strings.SlTrimAscii
import Derived.Maps.OwnOps
set_option linter.all false
namespace Rv
open Go Go.RowKit Go.WideShapes
def mapAt : List (Str × Int) → Str → Int × Bool
 | [], _ => (0, false)
 | x :: r, s => if s = x.1 then (x.2, true) else mapAt r s
def MapHolds (k : IntKind) (F : Str → Int × Bool) (es : Array MapEntry) : Prop :=
 ∀ s : Str, (Instr.findNow .string (.string (mkS s)) es.toList 0 = some none ∧ F s = (0, false)) ∨ ∃ j n, Instr.findNow .string (.string (mkS s)) es.toList 0 = some (some (j, .int k n)) ∧ F s = (n, true)
def MapVar (w : World) (g ad : Nat) (k : IntKind) (F : Str → Int × Bool) : Prop :=
 w.cell? ⟨g, 0, none⟩ = some (.map (some ad)) ∧ ∃ es clock, w.heap[ad]? = some (.map es clock) ∧ MapHolds k F es
theorem keepMap {w a b : World} {g ad : Nat} {k : IntKind} {F : Str → Int × Bool} (h : MapVar w g ad k F) (ha : MapVar a g ad k F) (hb : ∀ g, g < w.heap.size → b.heap[g]? = a.heap[g]?) : MapVar b g ad k F := by
 obtain ⟨h1, es, clock, h2, _⟩ := h
 obtain ⟨a1, es', clock', a2, a3⟩ := ha
 refine ⟨keepCell h1 a1 hb, es', clock', ?_, a3⟩
 rw [hb ad (Array.getElem?_eq_some_iff.1 h2).1]
 exact a2
section
variable {P : Program}
theorem mapVar_load {w : World} {g ad : Nat} {k : IntKind} {F : Str → Int × Bool} {T kt et : TypeId} (hT : P.underlying T = some (.map kt et)) (h : MapVar w g ad k F) : (Instr.loadAt T (.pointer (some ⟨g, 0, none⟩))).run P w = .ok (.map (some ad)) w := by
 have hl : (load ⟨g, 0, none⟩).run P w = .ok (.map (some ad)) w := by rw [run_load, h.1]
 have ha : (isAgg T).run P w = .ok false w := by simp only [isAgg, Sem.run_bind, run_underlying hT, Result.andThen_ok]; rfl
 simp only [Instr.loadAt, Instr.sureAddr, loadVar, Sem.run_bind, Sem.run_pure, Result.andThen_ok, ha, Bool.false_eq_true, if_false]
 exact hl
theorem mapVar_look {w : World} {g ad : Nat} {k : IntKind} {F : Str → Int × Bool} {T kt et : TypeId} (hT : P.underlying T = some (.map kt et)) (hk : P.underlying kt = some .string) (hz : (P.info? et).bind (·.zero) = some (.int k 0)) (h : MapVar w g ad k F) (s : Str) (ok : Bool) :
  (Instr.lookup T (.map (some ad)) (.string (mkS s)) ok).run P w = .ok (if ok = true then .tuple #[.int k (F s).1, .bool (F s).2] else .int k (F s).1) w := by
 obtain ⟨h1, es, clock, h2, h3⟩ := h
 have hz' : (zeroValue et).run P w = .ok (.int k 0) w := by
  cases hi : P.info? et with
  | none => rw [hi] at hz; cases hz
  | some inf =>
   rw [hi, Option.bind_some] at hz
   simp [zeroValue, typeInfo, hi, hz]
 have hik : MapKept.IsKey .string (.string (mkS s)) := trivial
 rcases h3 s with ⟨hf, hF⟩ | ⟨j, n, hf, hF⟩
 ·rw [hF]
  simp [Instr.lookup, run_underlying hT, MapKept.run_getObj_map h2, MapKept.run_checkKey hk hik, MapKept.run_findKey hk hf, hz', Result.andThen]
 ·rw [hF]
  simp [Instr.lookup, run_underlying hT, MapKept.run_getObj_map h2, MapKept.run_checkKey hk hik, MapKept.run_findKey hk hf, Result.andThen]
theorem mapAt_none : ∀ {l : List (Str × Int)} {s : Str}, (∀ x ∈ l, x.1 ≠ s) → mapAt l s = (0, false)
 | [], _, _ => rfl
 | x :: l, s, h => by
  unfold mapAt
  rw [if_neg (fun e => h x (by simp) e.symm)]
  exact mapAt_none fun y hy => h y (by simp [hy])
theorem mapAt_mem : ∀ {l : List (Str × Int)} {x : Str × Int}, (l.map (·.1)).Nodup → x ∈ l → mapAt l x.1 = (x.2, true)
 | [], _, _, h => by cases h
 | y :: l, x, hn, h => by
  unfold mapAt
  simp only [List.map_cons, List.nodup_cons] at hn
  rcases List.mem_cons.1 h with rfl | h
  ·rw [if_pos rfl]
  ·have hne : x.1 ≠ y.1 := fun e => hn.1 (e ▸ List.mem_map_of_mem h)
   rw [if_neg hne]
   exact mapAt_mem hn.2 h
def mapRow (k : IntKind) (l : List (Str × Int)) : List (Lit × DataW Unit) := l.map fun x => (.string x.1, .lit (.int k x.2))
theorem mapHolds_of {w : World} {base fuel : Nat} {sp : Nat → Bool} {held : Bool} {T kt et : TypeId} {k : IntKind} {l : List (Str × Int)} {c : Value} {p : List MemPlace} (hT : P.underlying T = some (.map kt et)) (hk : P.underlying kt = some .string) (he : P.underlying et = some (.int k))
  (hn : (l.map (·.1)).Nodup) (h : DataW.trod (fun _ => ()) P w base sp held (fuel + 1) T [c] = some (.map (mapRow k l), p)) :
  ∃ ad es clock, c = .map (some ad) ∧ w.heap[ad]? = some (.map es clock) ∧ MapHolds k (mapAt l) es := by
 unfold DataW.trod at h
 rw [hT] at h
 cases c with
 | map r =>
  cases r with
  | none => simp at h
  | some ad =>
   simp only at h
   split at h
   case h_2 => cases h
   rename_i es clock hb
   refine ⟨ad, es, clock, rfl, hb, ?_⟩
   split at h
   case isFalse => cases h
   obtain ⟨entries, hm, h⟩ := Option.bind_eq_some_iff.1 h
   split at h
   case isFalse => cases h
   simp only [Option.some.injEq, Prod.mk.injEq, DataW.map.injEq] at h
   have hperm := sorted_perm (entries.map (·.1))
   rw [h.1] at hperm
   have hx : ∀ (x : MapEntry) (q : (Lit × DataW Unit) × List MemPlace), ((keyOf P kt x.key).bind fun key => if x.val.formed P et then (DataW.trod (fun _ => ()) P w base sp held fuel et x.val.cells.toList).map fun y => ((key, y.1), y.2) else none) = some q →
     ∃ s : Str, x.key = .string (mkS s) ∧ q.1.1 = .string s ∧ ∀ n, q.1.2 = .lit (.int k n) → x.val = .int k n := by
    intro x q hq
    obtain ⟨key, hkey, hq⟩ := Option.bind_eq_some_iff.1 hq
    obtain ⟨s, hs1, hs2, _⟩ := WideMaps.string_of_keyOf hk hkey
    split at hq
    case isFalse => cases hq
    rename_i hf
    obtain ⟨y, hy, rfl⟩ := Option.map_eq_some_iff.1 hq
    refine ⟨s.data.toList, by rw [hs1]; rfl, hs2, fun n hn => ?_⟩
    have hyn : y.1 = .lit (.int k n) := hn
    cases fuel with
    | zero => simp [DataW.trod] at hy
    | succ fuel =>
     unfold DataW.trod at hy
     rw [he] at hy
     cases hv : x.val with
     | int k' m =>
      rw [hv] at hy
      simp only [Value.cells] at hy
      split at hy
      ·rename_i hc
       simp only [Option.some.injEq] at hy
       subst hy
       cases hyn
       rw [hc.1]
      ·cases hy
     | agg cs => rw [hv] at hf; simp [Value.formed, he] at hf
     | tuple cs => rw [hv] at hf; simp [Value.formed] at hf
     | _ => rw [hv] at hy; simp [Value.cells] at hy
   have hks : ∀ x ∈ es.toList, MapKept.IsKey .string x.key := fun x hxm => by
    obtain ⟨q, hq⟩ := mapM_each hm x hxm
    obtain ⟨s, hs, _⟩ := hx x q hq
    rw [hs]
    trivial
   intro s
   rcases MapKept.findNow_spec (d := .string) (k := .string (mkS s)) trivial es.toList 0 hks with ⟨h1, h2⟩ | ⟨j, e, h1, h2, h3⟩
   ·refine .inl ⟨h1, mapAt_none fun x hxl hxs => ?_⟩
    have hmem : ((.string x.1, .lit (.int k x.2)) : Lit × DataW Unit) ∈ entries.map (·.1) := hperm.subset (List.mem_map.2 ⟨x, hxl, rfl⟩)
    obtain ⟨q, hq, hqe⟩ := List.mem_map.1 hmem
    obtain ⟨m, hmm, hfm⟩ := mapM_mem hm q hq
    obtain ⟨s', hs1, hs2, _⟩ := hx m q hfm
    rw [hqe] at hs2
    have : x.1 = s' := by simpa using hs2
    exact h2 m hmm (by rw [hs1, ← this, hxs])
   ·obtain ⟨q, hq⟩ := mapM_each hm e (List.mem_of_getElem? h2)
    have hqm : q ∈ entries := List.mem_of_getElem? ((mapM_some_get hm j e h2).symm.trans hq)
    obtain ⟨s', hs1, hs2, hs3⟩ := hx e q hq
    have hqs : q.1 ∈ mapRow k l := hperm.symm.subset (List.mem_map.2 ⟨q, hqm, rfl⟩)
    obtain ⟨x, hxl, hxe⟩ := List.mem_map.1 hqs
    have hs : s' = s := by
     rw [hs1] at h3
     have h4 := congrArg (fun v => match v with | .string b => b.data.toList | _ => []) h3
     exact h4
    subst hs
    have hxs : x.1 = s' := by
     have := hs2
     rw [← hxe] at this
     simpa using this
    refine .inr ⟨0 + j, x.2, ?_, ?_⟩
    ·rw [h1, hs3 x.2 (by rw [← hxe])]
    ·rw [← hxs]; exact mapAt_mem hn hxl
 | _ => simp at h
theorem laid_map {w : World} {l : List (String × DataW Unit)} (h : laidMetH P l w) {n : String} {k : IntKind} {r : List (Str × Int)} (hm : (n, DataW.map (mapRow k r)) ∈ l.filter fun x => x.2.handleName?.isNone)
  {g : Nat} {T kt et : TypeId} (hg : P.globalNamed n = some g) (hty : (P.globals[g]?).map (·.type) = some T) (hT : P.underlying T = some (.map kt et)) (hk : P.underlying kt = some .string) (he : P.underlying et = some (.int k)) (hn : (r.map (·.1)).Nodup) : ∃ ad, MapVar w g ad k (mapAt r) := by
 obtain ⟨g', t', cs, fuel, p, hg', ht', hvar, hd⟩ := laid_at h hm
 obtain rfl := Option.some.inj (hg.symm.trans hg')
 obtain rfl := Option.some.inj (hty.symm.trans ht')
 cases fuel with
 | zero => simp [DataW.trod] at hd
 | succ fuel =>
  have hc : ∃ c, cs.toList = [c] := by
   unfold DataW.trod at hd
   rw [hT] at hd
   split at hd <;> first | (simp_all; done) | exact ⟨_, by assumption⟩ | (cases hd; done) | skip
  obtain ⟨c, hc⟩ := hc
  rw [hc] at hd
  obtain ⟨ad, es, clock, rfl, h1, h2⟩ := mapHolds_of hT hk he hn hd
  refine ⟨ad, ?_, es, clock, h1, h2⟩
  have := World.var?_cell hg hvar 0
  rw [Array.eq_one_of_toList hc] at this
  simpa using this
end
end Rv
namespace Go.Proofs
open Go.Shelf
def Tryz.lays169_ren : Go.Shelf.Ren := ⟨fun | 169 => 84 | n => n, fun | 70 => 123 | 9 => 9 | 0 => 0 | 72 => 125 | 37 => 40 | 127 => 153 | 3 => 3 | 5 => 5 | n => n, fun | n => n⟩
theorem Tryz.lays169 : Go.Proofs.Lays.n169 Tryz.prog Tryz.lays169_ren := {
 mixed := by kernel_rfl
 f169 := Tryz.func84.trans (congrArg some (by kernel_rfl))
 t0 := Tryz.underlying0
 a0 := Tryz.isAgg0
 z0 := Tryz.sizeOf0
 v0 := Tryz.zeroValue0
 t3 := Tryz.underlying3
 a3 := Tryz.isAgg3
 z3 := Tryz.sizeOf3
 v3 := Tryz.zeroValue3
 t9 := Tryz.underlying9
 a9 := Tryz.isAgg9
 z9 := Tryz.sizeOf9
 v9 := Tryz.zeroValue9
 t37 := Tryz.underlying40
 a37 := Tryz.isAgg40
 z37 := Tryz.sizeOf40
 v37 := Tryz.zeroValue40
 t70 := Tryz.underlying123
 a70 := Tryz.isAgg123
 z70 := Tryz.sizeOf123
 v70 := Tryz.zeroValue123
 t72 := Tryz.underlying125
 a72 := Tryz.isAgg125
 z72 := Tryz.sizeOf125
 v72 := Tryz.zeroValue125
 t127 := Tryz.underlying153
 a127 := Tryz.isAgg153
 z127 := Tryz.sizeOf153
 v127 := Tryz.zeroValue153 }
theorem Tryz.Builder_Extra_169 : Builder.Extra Tryz.prog Tryz.lays169_ren := {
 sizeBuilder := by kernel_rfl
 liesBuilder := by kernel_rfl
 t5 := Tryz.underlying5
 a5 := Tryz.isAgg5
 z5 := Tryz.sizeOf5
 v5 := Tryz.zeroValue5
 infoByte := by kernel_rfl
 cellsByte := by kernel_rfl
 sizeByte := by kernel_rfl
 neB5 := by decide }
def Tryz.lays241_ren : Go.Shelf.Ren := ⟨fun | 241 => 128 | 277 => 170 | n => n, fun | 70 => 123 | 3 => 3 | 0 => 0 | 72 => 125 | 37 => 40 | 5 => 5 | n => n, fun | n => n⟩
theorem Tryz.lays241 : Go.Proofs.Lays.n241 Tryz.prog Tryz.lays241_ren := {
 mixed := by kernel_rfl
 f241 := Tryz.func128.trans (congrArg some (by kernel_rfl))
 f277 := Tryz.func170.trans (congrArg some (by kernel_rfl))
 t0 := Tryz.underlying0
 a0 := Tryz.isAgg0
 z0 := Tryz.sizeOf0
 v0 := Tryz.zeroValue0
 t3 := Tryz.underlying3
 a3 := Tryz.isAgg3
 z3 := Tryz.sizeOf3
 v3 := Tryz.zeroValue3
 t37 := Tryz.underlying40
 a37 := Tryz.isAgg40
 z37 := Tryz.sizeOf40
 v37 := Tryz.zeroValue40
 t70 := Tryz.underlying123
 a70 := Tryz.isAgg123
 z70 := Tryz.sizeOf123
 v70 := Tryz.zeroValue123
 t72 := Tryz.underlying125
 a72 := Tryz.isAgg125
 z72 := Tryz.sizeOf125
 v72 := Tryz.zeroValue125 }
theorem Tryz.Builder_Extra_241 : Builder.Extra Tryz.prog Tryz.lays241_ren := {
 sizeBuilder := by kernel_rfl
 liesBuilder := by kernel_rfl
 t5 := Tryz.underlying5
 a5 := Tryz.isAgg5
 z5 := Tryz.sizeOf5
 v5 := Tryz.zeroValue5
 infoByte := by kernel_rfl
 cellsByte := by kernel_rfl
 sizeByte := by kernel_rfl
 neB5 := by decide }
open Go.RowKit in
theorem Tryz.Builder_grow_fresh (B b n : Nat) (w : World) (hB : B ≤ b) (hbk : w.heap[b]? = some (.cells #[.pointer (some ⟨b, 0, none⟩), .slice none 0 0] 125 (0, 0))) (hBw : B ≤ w.heap.size) (hn : n ≤ 281474976710656) :
  Calls Tryz.prog 128 #[.pointer (some ⟨b, 0, none⟩), .int .i64 n] w fun e w' => e = .returned (.tuple #[]) ∧ (Lib.BuilderAt 125 5 B b (.pointer (some ⟨b, 0, none⟩)) [] w' ∧ Below B w w') := Any.Builder_grow_fresh Tryz.lays241 Tryz.Builder_Extra_241 B b n w hB hbk hBw hn
def Tryz.lays160_ren : Go.Shelf.Ren := ⟨fun | 160 => 71 | 232 => 110 | 231 => 109 | 227 => 111 | 234 => 113 | 233 => 112 | 236 => 115 | 235 => 114 | 228 => 158 | 271 => 160 | 151 => 159 | 197 => 148 | 120 => 195 | 152 => 194 | 260 => 188 | 137 => 40 | 119 => 212 | 224 => 190 | 225 => 189 | 217 => 70 | 266 => 108 | n => n, fun | 9 => 9 | 4 => 4 | 3 => 3 | 5 => 5 | 117 => 146 | 116 => 145 | 0 => 0 | 124 => 149 | 21 => 21 | 105 => 166 | 46 => 156 | 119 => 175 | 139 => 224 | 138 => 223 | n => n, fun | 3 => 5 | 4 => 6 | n => n⟩
theorem Tryz.lays160 : Go.Proofs.Lays.n160 Tryz.prog Tryz.lays160_ren := {
 mixed := by kernel_rfl
 f119 := Tryz.func212.trans (congrArg some (by kernel_rfl))
 f120 := Tryz.func195.trans (congrArg some (by kernel_rfl))
 f137 := Tryz.func40.trans (congrArg some (by kernel_rfl))
 f151 := Tryz.func159.trans (congrArg some (by kernel_rfl))
 f152 := Tryz.func194.trans (congrArg some (by kernel_rfl))
 f160 := Tryz.func71.trans (congrArg some (by kernel_rfl))
 f197 := Tryz.func148.trans (congrArg some (by kernel_rfl))
 f217 := Tryz.func70.trans (congrArg some (by kernel_rfl))
 f224 := Tryz.func190.trans (congrArg some (by kernel_rfl))
 f225 := Tryz.func189.trans (congrArg some (by kernel_rfl))
 f227 := Tryz.func111.trans (congrArg some (by kernel_rfl))
 f228 := Tryz.func158.trans (congrArg some (by kernel_rfl))
 f231 := Tryz.func109.trans (congrArg some (by kernel_rfl))
 f232 := Tryz.func110.trans (congrArg some (by kernel_rfl))
 f233 := Tryz.func112.trans (congrArg some (by kernel_rfl))
 f234 := Tryz.func113.trans (congrArg some (by kernel_rfl))
 f235 := Tryz.func114.trans (congrArg some (by kernel_rfl))
 f236 := Tryz.func115.trans (congrArg some (by kernel_rfl))
 f260 := Tryz.func188.trans (congrArg some (by kernel_rfl))
 f266 := Tryz.func108.trans (congrArg some (by kernel_rfl))
 f271 := Tryz.func160.trans (congrArg some (by kernel_rfl))
 t0 := Tryz.underlying0
 a0 := Tryz.isAgg0
 z0 := Tryz.sizeOf0
 v0 := Tryz.zeroValue0
 t3 := Tryz.underlying3
 a3 := Tryz.isAgg3
 z3 := Tryz.sizeOf3
 v3 := Tryz.zeroValue3
 t4 := Tryz.underlying4
 a4 := Tryz.isAgg4
 z4 := Tryz.sizeOf4
 v4 := Tryz.zeroValue4
 t5 := Tryz.underlying5
 a5 := Tryz.isAgg5
 z5 := Tryz.sizeOf5
 v5 := Tryz.zeroValue5
 t9 := Tryz.underlying9
 a9 := Tryz.isAgg9
 z9 := Tryz.sizeOf9
 v9 := Tryz.zeroValue9
 t21 := Tryz.underlying21
 a21 := Tryz.isAgg21
 z21 := Tryz.sizeOf21
 v21 := Tryz.zeroValue21
 t46 := Tryz.underlying156
 a46 := Tryz.isAgg156
 z46 := Tryz.sizeOf156
 v46 := Tryz.zeroValue156
 t105 := Tryz.underlying166
 a105 := Tryz.isAgg166
 z105 := Tryz.sizeOf166
 v105 := Tryz.zeroValue166
 t116 := Tryz.underlying145
 a116 := Tryz.isAgg145
 z116 := Tryz.sizeOf145
 t117 := Tryz.underlying146
 a117 := Tryz.isAgg146
 z117 := Tryz.sizeOf146
 v117 := Tryz.zeroValue146
 t119 := Tryz.underlying175
 a119 := Tryz.isAgg175
 z119 := Tryz.sizeOf175
 t124 := Tryz.underlying149
 a124 := Tryz.isAgg149
 z124 := Tryz.sizeOf149
 v124 := Tryz.zeroValue149
 t138 := Tryz.underlying223
 a138 := Tryz.isAgg223
 z138 := Tryz.sizeOf223
 v138 := Tryz.zeroValue223
 t139 := Tryz.underlying224
 a139 := Tryz.isAgg224
 z139 := Tryz.sizeOf224
 v139 := Tryz.zeroValue224
 g3 := by kernel_rfl
 g4 := by kernel_rfl }
open Go.RowKit in
theorem Tryz.strings_Trim_one (s : ByteArray) (c : UInt8) (hc : c.toNat < 128) (w : World) (hs : s.size ≤ 9223372036854775807) :
  Calls Tryz.prog 71 #[.string s, .string ⟨#[c]⟩] w fun e w' => e = .returned (.string ⟨(Lib.trimB s.data.toList c).toArray⟩) ∧ (w' = w ∨ w' = w.drew) := Any.strings_Trim_one Tryz.lays160 s c hc w hs
def Tryz.lays137_ren : Go.Shelf.Ren := ⟨fun | 137 => 40 | 217 => 70 | 266 => 108 | n => n, fun | 9 => 9 | 5 => 5 | 3 => 3 | n => n, fun | n => n⟩
theorem Tryz.lays137 : Go.Proofs.Lays.n137 Tryz.prog Tryz.lays137_ren := {
 mixed := by kernel_rfl
 f137 := Tryz.func40.trans (congrArg some (by kernel_rfl))
 f217 := Tryz.func70.trans (congrArg some (by kernel_rfl))
 f266 := Tryz.func108.trans (congrArg some (by kernel_rfl))
 t3 := Tryz.underlying3
 a3 := Tryz.isAgg3
 z3 := Tryz.sizeOf3
 v3 := Tryz.zeroValue3
 t5 := Tryz.underlying5
 a5 := Tryz.isAgg5
 z5 := Tryz.sizeOf5
 v5 := Tryz.zeroValue5
 t9 := Tryz.underlying9
 a9 := Tryz.isAgg9
 z9 := Tryz.sizeOf9
 v9 := Tryz.zeroValue9 }
open Go.RowKit in
theorem Tryz.strings_IndexByte (s : ByteArray) (c : Int) (w : World) :
  Calls Tryz.prog 40 #[.string s, .int .u8 c] w fun e w' => e = .returned (.int .i64 (Lib.indexByte s.data.toList c.toNat.toUInt8)) ∧ w' = w := Any.strings_IndexByte Tryz.lays137 s c w
def Tryz.lays103_ren : Go.Shelf.Ren := ⟨fun | 103 => 67 | 210 => 105 | 206 => 151 | n => n, fun | 9 => 9 | 4 => 4 | 24 => 104 | 3 => 3 | n => n, fun | n => n⟩
theorem Tryz.lays103 : Go.Proofs.Lays.n103 Tryz.prog Tryz.lays103_ren := {
 mixed := by kernel_rfl
 f103 := Tryz.func67.trans (congrArg some (by kernel_rfl))
 f206 := Tryz.func151.trans (congrArg some (by kernel_rfl))
 f210 := Tryz.func105.trans (congrArg some (by kernel_rfl))
 t3 := Tryz.underlying3
 a3 := Tryz.isAgg3
 z3 := Tryz.sizeOf3
 v3 := Tryz.zeroValue3
 t4 := Tryz.underlying4
 a4 := Tryz.isAgg4
 z4 := Tryz.sizeOf4
 v4 := Tryz.zeroValue4
 t9 := Tryz.underlying9
 a9 := Tryz.isAgg9
 z9 := Tryz.sizeOf9
 v9 := Tryz.zeroValue9
 t24 := Tryz.underlying104
 a24 := Tryz.isAgg104
 z24 := Tryz.sizeOf104
 v24 := Tryz.zeroValue104 }
open Go.RowKit in
theorem Tryz.strings_CutPrefix (s p : ByteArray) (w : World) :
  Calls Tryz.prog 67 #[.string s, .string p] w fun e w' => e = .returned (.tuple #[.string ⟨(Lib.trimPrefix s.data.toList p.data.toList).toArray⟩, .bool (Lib.hasPrefix s.data.toList p.data.toList)]) ∧ w' = w := Any.strings_CutPrefix Tryz.lays103 s p w
open Go.RowKit in
theorem Tryz.Builder_String_any_k (B b : Nat) (l : List UInt8) (w : World) (h : Lib.IsBuilderF 125 5 B b (Lib.byteCells l) w) (hBw : B ≤ w.heap.size) :
  Calls Tryz.prog 84 #[.pointer (some ⟨b, 0, none⟩)] w fun e w' => e = .returned (.string ⟨l.toArray⟩) ∧ (Lib.IsBuilderF 125 5 B b (Lib.byteCells l) w' ∧ Below B w w' ∧ Lib.OthersKept 5 (some b) w w') := Any.Builder_String_any_k Tryz.lays169 Tryz.Builder_Extra_169 B b l w h hBw
def Tryz.lays283_ren : Go.Shelf.Ren := ⟨fun | 283 => 205 | n => n, fun | 3 => 3 | 9 => 9 | 4 => 4 | n => n, fun | n => n⟩
theorem Tryz.lays283 : Go.Proofs.Lays.n283 Tryz.prog Tryz.lays283_ren := {
 mixed := by kernel_rfl
 f283 := Tryz.func205.trans (congrArg some (by kernel_rfl))
 t3 := Tryz.underlying3
 a3 := Tryz.isAgg3
 z3 := Tryz.sizeOf3
 v3 := Tryz.zeroValue3
 t4 := Tryz.underlying4
 a4 := Tryz.isAgg4
 z4 := Tryz.sizeOf4
 v4 := Tryz.zeroValue4
 t9 := Tryz.underlying9
 a9 := Tryz.isAgg9
 z9 := Tryz.sizeOf9
 v9 := Tryz.zeroValue9 }
open Go.Lib in
theorem Tryz.internal_strconv_small (i : Nat) (h : i < 100) (w : World) :
  Calls Tryz.prog 205 #[.int .i64 i] w fun e w' => e = .returned (.string ⟨(Lib.decDigits i).toArray⟩) ∧ w' = w := Any.internal_strconv_small Tryz.lays283 i h w
def Tryz.laysM284_ren : Go.Shelf.Ren := ⟨fun | 284 => 206 | 129 => 220 | 317 => 219 | 318 => 221 | n => n, fun | 53 => 106 | 3 => 3 | 212 => 248 | 0 => 0 | 4 => 4 | 46 => 156 | 5 => 5 | 9 => 9 | n => n, fun | 17 => 8 | n => n⟩
theorem Tryz.laysM284 : Go.Proofs.LaysM.n284 Tryz.prog Tryz.laysM284_ren := {
 mixed := by kernel_rfl
 f129 := Tryz.func220.trans (congrArg some (by kernel_rfl))
 f284 := Tryz.func206.trans (congrArg some (by kernel_rfl))
 f317 := Tryz.func219.trans (congrArg some (by kernel_rfl))
 f318 := Tryz.func221.trans (congrArg some (by kernel_rfl))
 t0 := Tryz.underlying0
 a0 := Tryz.isAgg0
 z0 := Tryz.sizeOf0
 v0 := Tryz.zeroValue0
 t3 := Tryz.underlying3
 a3 := Tryz.isAgg3
 z3 := Tryz.sizeOf3
 v3 := Tryz.zeroValue3
 t4 := Tryz.underlying4
 a4 := Tryz.isAgg4
 z4 := Tryz.sizeOf4
 v4 := Tryz.zeroValue4
 t5 := Tryz.underlying5
 a5 := Tryz.isAgg5
 z5 := Tryz.sizeOf5
 v5 := Tryz.zeroValue5
 t9 := Tryz.underlying9
 a9 := Tryz.isAgg9
 z9 := Tryz.sizeOf9
 v9 := Tryz.zeroValue9
 t46 := Tryz.underlying156
 a46 := Tryz.isAgg156
 z46 := Tryz.sizeOf156
 v46 := Tryz.zeroValue156
 t53 := Tryz.underlying106
 a53 := Tryz.isAgg106
 z53 := Tryz.sizeOf106
 v53 := Tryz.zeroValue106
 t212 := Tryz.underlying248
 a212 := Tryz.isAgg248
 z212 := Tryz.sizeOf248
 v212 := Tryz.zeroValue248
 g17 := by kernel_rfl
 i0 := by kernel_rfl
 i3 := by kernel_rfl
 i4 := by kernel_rfl
 i5 := by kernel_rfl
 i9 := by kernel_rfl
 i46 := by kernel_rfl
 i53 := by kernel_rfl
 i212 := by kernel_rfl
 m17 := by kernel_rfl }
open Go.Lib in
theorem Tryz.internal_strconv_numDigits (u : Nat) (h1 : 1 ≤ u) (h2 : u < 18446744073709551616) (w : World) (htab : Lib.TabIs Tryz.prog w "internal/strconv.uint64pow10" .u64 Lib.pow10Tab) :
  Calls Tryz.prog 206 #[.int .u64 u] w fun e w' => e = .returned (.int .i64 (Lib.nDigits u)) ∧ w' = w := Any.internal_strconv_numDigits Tryz.laysM284 u h1 h2 w htab
def Tryz.lays285_ren : Go.Shelf.Ren := ⟨fun | 285 => 207 | n => n, fun | 37 => 40 | 53 => 106 | 3 => 3 | 4 => 4 | 51 => 46 | 9 => 9 | 5 => 5 | 0 => 0 | n => n, fun | n => n⟩
theorem Tryz.lays285 : Go.Proofs.Lays.n285 Tryz.prog Tryz.lays285_ren := {
 mixed := by kernel_rfl
 f285 := Tryz.func207.trans (congrArg some (by kernel_rfl))
 t0 := Tryz.underlying0
 a0 := Tryz.isAgg0
 z0 := Tryz.sizeOf0
 v0 := Tryz.zeroValue0
 t3 := Tryz.underlying3
 a3 := Tryz.isAgg3
 z3 := Tryz.sizeOf3
 v3 := Tryz.zeroValue3
 t4 := Tryz.underlying4
 a4 := Tryz.isAgg4
 z4 := Tryz.sizeOf4
 v4 := Tryz.zeroValue4
 t5 := Tryz.underlying5
 a5 := Tryz.isAgg5
 z5 := Tryz.sizeOf5
 v5 := Tryz.zeroValue5
 t9 := Tryz.underlying9
 a9 := Tryz.isAgg9
 z9 := Tryz.sizeOf9
 v9 := Tryz.zeroValue9
 t37 := Tryz.underlying40
 a37 := Tryz.isAgg40
 z37 := Tryz.sizeOf40
 v37 := Tryz.zeroValue40
 t51 := Tryz.underlying46
 a51 := Tryz.isAgg46
 z51 := Tryz.sizeOf46
 v51 := Tryz.zeroValue46
 t53 := Tryz.underlying106
 a53 := Tryz.isAgg106
 z53 := Tryz.sizeOf106
 v53 := Tryz.zeroValue106 }
open Go.RowKit Go.Sort Go.Lib in
theorem Tryz.internal_strconv_formatBase10 (blk off cap : Nat) (u : Nat) (d : Array UInt8) (w : World) (hH : Holds (fun (b : UInt8) => Value.int .u8 (b.toNat : Int)) w blk off d) (hu : u < 10 ^ d.size) (hu64 : u < 18446744073709551616) (hsz : d.size < 4611686018427387904) :
  Calls Tryz.prog 207 #[.slice (some ⟨blk, off, none⟩) d.size cap, .int .u64 u] w fun e w' =>
   e = .returned (.tuple #[]) ∧ ∃ (n v' : Nat) (dk : Array UInt8), w' = (putRow (fun (b : UInt8) => Value.int .u8 (b.toNat : Int)) w blk off dk).drewN n ∧ FmtInv d.size u 0 v' dk := Any.internal_strconv_formatBase10 Tryz.lays285 blk off cap u d w hH hu hu64 hsz
def Tryz.laysM171_ren : Go.Shelf.Ren := ⟨fun | 171 => 87 | 243 => 129 | 246 => 171 | 283 => 205 | 284 => 206 | 285 => 207 | 286 => 208 | 129 => 220 | 317 => 219 | 318 => 221 | 319 => 222 | 320 => 223 | 337 => 226 | 338 => 227 | n => n, fun | 3 => 3 | 9 => 9 | 2 => 2 | 4 => 4 | 171 => 213 | 0 => 0 | 53 => 106 | 37 => 40 | 5 => 5 | 173 => 216 | 212 => 248 | 51 => 46 | 20 => 20 | 213 => 249 | 46 => 156 | 232 => 254 | 233 => 255 | n => n, fun | 17 => 8 | 18 => 9 | 19 => 10 | n => n⟩
theorem Tryz.laysM171 : Go.Proofs.LaysM.n171 Tryz.prog Tryz.laysM171_ren := {
 mixed := by kernel_rfl
 f129 := Tryz.func220.trans (congrArg some (by kernel_rfl))
 f171 := Tryz.func87.trans (congrArg some (by kernel_rfl))
 f243 := Tryz.func129.trans (congrArg some (by kernel_rfl))
 f246 := Tryz.func171.trans (congrArg some (by kernel_rfl))
 f283 := Tryz.func205.trans (congrArg some (by kernel_rfl))
 f284 := Tryz.func206.trans (congrArg some (by kernel_rfl))
 f285 := Tryz.func207.trans (congrArg some (by kernel_rfl))
 f286 := Tryz.func208.trans (congrArg some (by kernel_rfl))
 f317 := Tryz.func219.trans (congrArg some (by kernel_rfl))
 f318 := Tryz.func221.trans (congrArg some (by kernel_rfl))
 f319 := Tryz.func222.trans (congrArg some (by kernel_rfl))
 f320 := Tryz.func223.trans (congrArg some (by kernel_rfl))
 f337 := Tryz.func226.trans (congrArg some (by kernel_rfl))
 f338 := Tryz.func227.trans (congrArg some (by kernel_rfl))
 t0 := Tryz.underlying0
 a0 := Tryz.isAgg0
 z0 := Tryz.sizeOf0
 v0 := Tryz.zeroValue0
 t2 := Tryz.underlying2
 a2 := Tryz.isAgg2
 z2 := Tryz.sizeOf2
 v2 := Tryz.zeroValue2
 t3 := Tryz.underlying3
 a3 := Tryz.isAgg3
 z3 := Tryz.sizeOf3
 v3 := Tryz.zeroValue3
 t4 := Tryz.underlying4
 a4 := Tryz.isAgg4
 z4 := Tryz.sizeOf4
 v4 := Tryz.zeroValue4
 t5 := Tryz.underlying5
 a5 := Tryz.isAgg5
 z5 := Tryz.sizeOf5
 v5 := Tryz.zeroValue5
 t9 := Tryz.underlying9
 a9 := Tryz.isAgg9
 z9 := Tryz.sizeOf9
 v9 := Tryz.zeroValue9
 t20 := Tryz.underlying20
 a20 := Tryz.isAgg20
 z20 := Tryz.sizeOf20
 v20 := Tryz.zeroValue20
 t37 := Tryz.underlying40
 a37 := Tryz.isAgg40
 z37 := Tryz.sizeOf40
 v37 := Tryz.zeroValue40
 t46 := Tryz.underlying156
 a46 := Tryz.isAgg156
 z46 := Tryz.sizeOf156
 v46 := Tryz.zeroValue156
 t51 := Tryz.underlying46
 a51 := Tryz.isAgg46
 z51 := Tryz.sizeOf46
 v51 := Tryz.zeroValue46
 t53 := Tryz.underlying106
 a53 := Tryz.isAgg106
 z53 := Tryz.sizeOf106
 v53 := Tryz.zeroValue106
 t171 := Tryz.underlying213
 a171 := Tryz.isAgg213
 z171 := Tryz.sizeOf213
 v171 := Tryz.zeroValue213
 t173 := Tryz.underlying216
 a173 := Tryz.isAgg216
 z173 := Tryz.sizeOf216
 v173 := Tryz.zeroValue216
 t212 := Tryz.underlying248
 a212 := Tryz.isAgg248
 z212 := Tryz.sizeOf248
 v212 := Tryz.zeroValue248
 t213 := Tryz.underlying249
 a213 := Tryz.isAgg249
 z213 := Tryz.sizeOf249
 t232 := Tryz.underlying254
 a232 := Tryz.isAgg254
 z232 := Tryz.sizeOf254
 v232 := Tryz.zeroValue254
 t233 := Tryz.underlying255
 a233 := Tryz.isAgg255
 z233 := Tryz.sizeOf255
 v233 := Tryz.zeroValue255
 g17 := by kernel_rfl
 g18 := by kernel_rfl
 g19 := by kernel_rfl
 i0 := by kernel_rfl
 i2 := by kernel_rfl
 i3 := by kernel_rfl
 i4 := by kernel_rfl
 i5 := by kernel_rfl
 i9 := by kernel_rfl
 i20 := by kernel_rfl
 i37 := by kernel_rfl
 i46 := by kernel_rfl
 i51 := by kernel_rfl
 i53 := by kernel_rfl
 i171 := by kernel_rfl
 i173 := by kernel_rfl
 i212 := by kernel_rfl
 i232 := by kernel_rfl
 i233 := by kernel_rfl
 m17 := by kernel_rfl
 m18 := by kernel_rfl
 m19 := by kernel_rfl }
open Go.RowKit Go.Sort Go.Lib in
theorem Tryz.strconv_Itoa (n : Int) (h0 : -9223372036854775808 ≤ n) (h1 : n ≤ 9223372036854775807) (w : World) (htab : Lib.TabIs Tryz.prog w "internal/strconv.uint64pow10" .u64 Lib.pow10Tab) :
  Calls Tryz.prog 87 #[.int .i64 n] w fun e w' => e = .returned (.string ⟨(Lib.itoa n).toArray⟩) ∧ ∃ k os, w' = grow (w.drewN k) os := Any.strconv_Itoa Tryz.laysM171 n h0 h1 w htab
def Tryz.laysC245_ren : Go.Shelf.Ren := ⟨fun | 245 => 107 | 279 => 154 | 280 => 155 | 281 => 156 | 282 => 157 | 316 => 192 | 171 => 87 | 205 => 193 | 243 => 129 | 246 => 171 | 283 => 205 | 284 => 206 | 285 => 207 | 286 => 208 | 129 => 220 | 317 => 219 | 318 => 221 | 319 => 222 | 320 => 223 | 337 => 226 | 338 => 227 | n => n, fun | 9 => 9 | 3 => 3 | 75 => 108 | 167 => 168 | 4 => 4 | 168 => 170 | 210 => 201 | 37 => 40 | 0 => 0 | 127 => 153 | 145 => 229 | 143 => 227 | 2 => 2 | 171 => 213 | 53 => 106 | 5 => 5 | 173 => 216 | 212 => 248 | 51 => 46 | 20 => 20 | 213 => 249 | 46 => 156 | 232 => 254 | 233 => 255 | 80 => 129 | n => n, fun | 15 => 2 | 16 => 3 | 17 => 8 | 18 => 9 | 19 => 10 | n => n⟩
theorem Tryz.laysC245 : Go.Proofs.LaysC.n245 Tryz.prog Tryz.laysC245_ren := {
 mixed := by kernel_rfl
 f129 := Tryz.func220.trans (congrArg some (by kernel_rfl))
 f171 := Tryz.func87.trans (congrArg some (by kernel_rfl))
 f205 := Tryz.func193.trans (congrArg some (by kernel_rfl))
 f243 := Tryz.func129.trans (congrArg some (by kernel_rfl))
 f245 := Tryz.func107.trans (congrArg some (by kernel_rfl))
 f246 := Tryz.func171.trans (congrArg some (by kernel_rfl))
 f279 := Tryz.func154.trans (congrArg some (by kernel_rfl))
 f280 := Tryz.func155.trans (congrArg some (by kernel_rfl))
 f281 := Tryz.func156.trans (congrArg some (by kernel_rfl))
 f282 := Tryz.func157.trans (congrArg some (by kernel_rfl))
 f283 := Tryz.func205.trans (congrArg some (by kernel_rfl))
 f284 := Tryz.func206.trans (congrArg some (by kernel_rfl))
 f285 := Tryz.func207.trans (congrArg some (by kernel_rfl))
 f286 := Tryz.func208.trans (congrArg some (by kernel_rfl))
 f316 := Tryz.func192.trans (congrArg some (by kernel_rfl))
 f317 := Tryz.func219.trans (congrArg some (by kernel_rfl))
 f318 := Tryz.func221.trans (congrArg some (by kernel_rfl))
 f319 := Tryz.func222.trans (congrArg some (by kernel_rfl))
 f320 := Tryz.func223.trans (congrArg some (by kernel_rfl))
 f337 := Tryz.func226.trans (congrArg some (by kernel_rfl))
 f338 := Tryz.func227.trans (congrArg some (by kernel_rfl))
 t0 := Tryz.underlying0
 a0 := Tryz.isAgg0
 z0 := Tryz.sizeOf0
 v0 := Tryz.zeroValue0
 t2 := Tryz.underlying2
 a2 := Tryz.isAgg2
 z2 := Tryz.sizeOf2
 v2 := Tryz.zeroValue2
 t3 := Tryz.underlying3
 a3 := Tryz.isAgg3
 z3 := Tryz.sizeOf3
 v3 := Tryz.zeroValue3
 t4 := Tryz.underlying4
 a4 := Tryz.isAgg4
 z4 := Tryz.sizeOf4
 v4 := Tryz.zeroValue4
 t5 := Tryz.underlying5
 a5 := Tryz.isAgg5
 z5 := Tryz.sizeOf5
 v5 := Tryz.zeroValue5
 t9 := Tryz.underlying9
 a9 := Tryz.isAgg9
 z9 := Tryz.sizeOf9
 v9 := Tryz.zeroValue9
 t20 := Tryz.underlying20
 a20 := Tryz.isAgg20
 z20 := Tryz.sizeOf20
 v20 := Tryz.zeroValue20
 t37 := Tryz.underlying40
 a37 := Tryz.isAgg40
 z37 := Tryz.sizeOf40
 v37 := Tryz.zeroValue40
 t46 := Tryz.underlying156
 a46 := Tryz.isAgg156
 z46 := Tryz.sizeOf156
 v46 := Tryz.zeroValue156
 t51 := Tryz.underlying46
 a51 := Tryz.isAgg46
 z51 := Tryz.sizeOf46
 v51 := Tryz.zeroValue46
 t53 := Tryz.underlying106
 a53 := Tryz.isAgg106
 z53 := Tryz.sizeOf106
 v53 := Tryz.zeroValue106
 t75 := Tryz.underlying108
 a75 := Tryz.isAgg108
 z75 := Tryz.sizeOf108
 v75 := Tryz.zeroValue108
 t127 := Tryz.underlying153
 a127 := Tryz.isAgg153
 z127 := Tryz.sizeOf153
 v127 := Tryz.zeroValue153
 t143 := Tryz.underlying227
 a143 := Tryz.isAgg227
 z143 := Tryz.sizeOf227
 v143 := Tryz.zeroValue227
 t145 := Tryz.underlying229
 a145 := Tryz.isAgg229
 z145 := Tryz.sizeOf229
 v145 := Tryz.zeroValue229
 t167 := Tryz.underlying168
 a167 := Tryz.isAgg168
 z167 := Tryz.sizeOf168
 v167 := Tryz.zeroValue168
 t168 := Tryz.underlying170
 a168 := Tryz.isAgg170
 z168 := Tryz.sizeOf170
 v168 := Tryz.zeroValue170
 t171 := Tryz.underlying213
 a171 := Tryz.isAgg213
 z171 := Tryz.sizeOf213
 v171 := Tryz.zeroValue213
 t173 := Tryz.underlying216
 a173 := Tryz.isAgg216
 z173 := Tryz.sizeOf216
 v173 := Tryz.zeroValue216
 t210 := Tryz.underlying201
 a210 := Tryz.isAgg201
 z210 := Tryz.sizeOf201
 v210 := Tryz.zeroValue201
 t212 := Tryz.underlying248
 a212 := Tryz.isAgg248
 z212 := Tryz.sizeOf248
 v212 := Tryz.zeroValue248
 t213 := Tryz.underlying249
 a213 := Tryz.isAgg249
 z213 := Tryz.sizeOf249
 t232 := Tryz.underlying254
 a232 := Tryz.isAgg254
 z232 := Tryz.sizeOf254
 v232 := Tryz.zeroValue254
 t233 := Tryz.underlying255
 a233 := Tryz.isAgg255
 z233 := Tryz.sizeOf255
 v233 := Tryz.zeroValue255
 g15 := by kernel_rfl
 g16 := by kernel_rfl
 g17 := by kernel_rfl
 g18 := by kernel_rfl
 g19 := by kernel_rfl
 t80 := Tryz.underlying129
 a80 := Tryz.isAgg129
 z80 := Tryz.sizeOf129
 v80 := Tryz.zeroValue129
 i0 := by kernel_rfl
 i2 := by kernel_rfl
 i3 := by kernel_rfl
 i4 := by kernel_rfl
 i5 := by kernel_rfl
 i9 := by kernel_rfl
 i20 := by kernel_rfl
 i37 := by kernel_rfl
 i46 := by kernel_rfl
 i51 := by kernel_rfl
 i53 := by kernel_rfl
 i75 := by kernel_rfl
 i80 := by kernel_rfl
 i127 := by kernel_rfl
 i143 := by kernel_rfl
 i145 := by kernel_rfl
 i167 := by kernel_rfl
 i168 := by kernel_rfl
 i171 := by kernel_rfl
 i173 := by kernel_rfl
 i210 := by kernel_rfl
 i212 := by kernel_rfl
 i232 := by kernel_rfl
 i233 := by kernel_rfl
 m15 := by kernel_rfl
 m16 := by kernel_rfl
 m17 := by kernel_rfl
 m18 := by kernel_rfl
 m19 := by kernel_rfl
 c0 := by kernel_rfl
 c2 := by kernel_rfl
 c3 := by kernel_rfl
 c4 := by kernel_rfl
 c5 := by kernel_rfl
 c9 := by kernel_rfl
 c20 := by kernel_rfl
 c37 := by kernel_rfl
 c46 := by kernel_rfl
 c51 := by kernel_rfl
 c53 := by kernel_rfl
 c75 := by kernel_rfl
 c80 := by kernel_rfl
 c127 := by kernel_rfl
 c143 := by kernel_rfl
 c145 := by kernel_rfl
 c167 := by kernel_rfl
 c168 := by kernel_rfl
 c171 := by kernel_rfl
 c173 := by kernel_rfl
 c210 := by kernel_rfl
 c212 := by kernel_rfl
 c213 := by kernel_rfl
 c232 := by kernel_rfl
 c233 := by kernel_rfl }
open Go.RowKit in
theorem Tryz.strconv_toError_syntax (fn s : ByteArray) (base bits : Int) (ev : Value) (w : World) (hlim : s.size ≤ 281474976710656) (hv : w.cell? ⟨2, 0, none⟩ = some ev) (hev : ev = .nilIface ∨ ∃ te pe, ev = .iface te pe) :
  Calls Tryz.prog 107 #[.string fn, .string s, .int .i64 base, .int .i64 bits, .iface 168 (.int .i64 2)] w fun e w' => ∃ N, e = .returned (.iface 170 (.pointer (some ⟨N, 0, none⟩))) ∧ w.heap.size ≤ N ∧ w'.heap[N]? = some (.cells #[.string fn, .string s, ev] 201 (0, 0)) ∧ Below w.heap.size w w' := Any.strconv_toError_syntax Tryz.laysC245 fn s base bits ev w hlim hv hev
open Go.RowKit in
theorem Tryz.strconv_toError_range (fn s : ByteArray) (base bits : Int) (ev : Value) (w : World) (hlim : s.size ≤ 281474976710656) (hv : w.cell? ⟨3, 0, none⟩ = some ev) (hev : ev = .nilIface ∨ ∃ te pe, ev = .iface te pe) :
  Calls Tryz.prog 107 #[.string fn, .string s, .int .i64 base, .int .i64 bits, .iface 168 (.int .i64 1)] w fun e w' => ∃ N, e = .returned (.iface 170 (.pointer (some ⟨N, 0, none⟩))) ∧ w.heap.size ≤ N ∧ w'.heap[N]? = some (.cells #[.string fn, .string s, ev] 201 (0, 0)) ∧ Below w.heap.size w w' := Any.strconv_toError_range Tryz.laysC245 fn s base bits ev w hlim hv hev
def Tryz.lays143_ren : Go.Shelf.Ren := ⟨fun | 143 => 104 | 219 => 150 | 217 => 70 | 225 => 189 | 224 => 190 | 267 => 191 | 266 => 108 | 314 => 211 | n => n, fun | 9 => 9 | 3 => 3 | 4 => 4 | 5 => 5 | 46 => 156 | 146 => 225 | 51 => 46 | n => n, fun | 1 => 0 | n => n⟩
theorem Tryz.lays143 : Go.Proofs.Lays.n143 Tryz.prog Tryz.lays143_ren := {
 mixed := by kernel_rfl
 f143 := Tryz.func104.trans (congrArg some (by kernel_rfl))
 f217 := Tryz.func70.trans (congrArg some (by kernel_rfl))
 f219 := Tryz.func150.trans (congrArg some (by kernel_rfl))
 f224 := Tryz.func190.trans (congrArg some (by kernel_rfl))
 f225 := Tryz.func189.trans (congrArg some (by kernel_rfl))
 f266 := Tryz.func108.trans (congrArg some (by kernel_rfl))
 f267 := Tryz.func191.trans (congrArg some (by kernel_rfl))
 f314 := Tryz.func211.trans (congrArg some (by kernel_rfl))
 t3 := Tryz.underlying3
 a3 := Tryz.isAgg3
 z3 := Tryz.sizeOf3
 v3 := Tryz.zeroValue3
 t4 := Tryz.underlying4
 a4 := Tryz.isAgg4
 z4 := Tryz.sizeOf4
 v4 := Tryz.zeroValue4
 t5 := Tryz.underlying5
 a5 := Tryz.isAgg5
 z5 := Tryz.sizeOf5
 v5 := Tryz.zeroValue5
 t9 := Tryz.underlying9
 a9 := Tryz.isAgg9
 z9 := Tryz.sizeOf9
 v9 := Tryz.zeroValue9
 t46 := Tryz.underlying156
 a46 := Tryz.isAgg156
 z46 := Tryz.sizeOf156
 v46 := Tryz.zeroValue156
 t51 := Tryz.underlying46
 a51 := Tryz.isAgg46
 z51 := Tryz.sizeOf46
 v51 := Tryz.zeroValue46
 t146 := Tryz.underlying225
 a146 := Tryz.isAgg225
 z146 := Tryz.sizeOf225
 v146 := Tryz.zeroValue225
 g1 := by kernel_rfl }
open Go.RowKit Go.Lib in
theorem Tryz.strings_Index (s sub : ByteArray) (m : Int) (w : World) (hs : s.size < 4294967281) (hm : w.cell? ⟨0, 0, none⟩ = some (.int .i64 m)) :
  Calls Tryz.prog 104 #[.string s, .string sub] w fun e w' => e = .returned (.int .i64 (Lib.index s.data.toList sub.data.toList)) ∧ w' = w := Any.strings_Index Tryz.lays143 s sub m w hs hm
def Tryz.lays144_ren : Go.Shelf.Ren := ⟨fun | 144 => 68 | 143 => 104 | 219 => 150 | 217 => 70 | 225 => 189 | 224 => 190 | 267 => 191 | 266 => 108 | 314 => 211 | n => n, fun | 9 => 9 | 4 => 4 | 3 => 3 | 5 => 5 | 46 => 156 | 146 => 225 | 51 => 46 | n => n, fun | 1 => 0 | n => n⟩
theorem Tryz.lays144 : Go.Proofs.Lays.n144 Tryz.prog Tryz.lays144_ren := {
 mixed := by kernel_rfl
 f143 := Tryz.func104.trans (congrArg some (by kernel_rfl))
 f144 := Tryz.func68.trans (congrArg some (by kernel_rfl))
 f217 := Tryz.func70.trans (congrArg some (by kernel_rfl))
 f219 := Tryz.func150.trans (congrArg some (by kernel_rfl))
 f224 := Tryz.func190.trans (congrArg some (by kernel_rfl))
 f225 := Tryz.func189.trans (congrArg some (by kernel_rfl))
 f266 := Tryz.func108.trans (congrArg some (by kernel_rfl))
 f267 := Tryz.func191.trans (congrArg some (by kernel_rfl))
 f314 := Tryz.func211.trans (congrArg some (by kernel_rfl))
 t3 := Tryz.underlying3
 a3 := Tryz.isAgg3
 z3 := Tryz.sizeOf3
 v3 := Tryz.zeroValue3
 t4 := Tryz.underlying4
 a4 := Tryz.isAgg4
 z4 := Tryz.sizeOf4
 v4 := Tryz.zeroValue4
 t5 := Tryz.underlying5
 a5 := Tryz.isAgg5
 z5 := Tryz.sizeOf5
 v5 := Tryz.zeroValue5
 t9 := Tryz.underlying9
 a9 := Tryz.isAgg9
 z9 := Tryz.sizeOf9
 v9 := Tryz.zeroValue9
 t46 := Tryz.underlying156
 a46 := Tryz.isAgg156
 z46 := Tryz.sizeOf156
 v46 := Tryz.zeroValue156
 t51 := Tryz.underlying46
 a51 := Tryz.isAgg46
 z51 := Tryz.sizeOf46
 v51 := Tryz.zeroValue46
 t146 := Tryz.underlying225
 a146 := Tryz.isAgg225
 z146 := Tryz.sizeOf225
 v146 := Tryz.zeroValue225
 g1 := by kernel_rfl }
open Go.RowKit Go.Lib in
theorem Tryz.strings_Contains (s sub : ByteArray) (m : Int) (w : World) (hs : s.size < 4294967281) (hm : w.cell? ⟨0, 0, none⟩ = some (.int .i64 m)) :
  Calls Tryz.prog 68 #[.string s, .string sub] w fun e w' => e = .returned (.bool (Lib.contains s.data.toList sub.data.toList)) ∧ w' = w := Any.strings_Contains Tryz.lays144 s sub m w hs hm
def Tryz.lays138_ren : Go.Shelf.Ren := ⟨fun | 138 => 103 | 195 => 147 | 218 => 149 | 143 => 104 | 219 => 150 | 217 => 70 | 225 => 189 | 224 => 190 | 267 => 191 | 266 => 108 | 314 => 211 | n => n, fun | 9 => 9 | 3 => 3 | 4 => 4 | 5 => 5 | 0 => 0 | 46 => 156 | 146 => 225 | 51 => 46 | n => n, fun | 1 => 0 | n => n⟩
theorem Tryz.lays138 : Go.Proofs.Lays.n138 Tryz.prog Tryz.lays138_ren := {
 mixed := by kernel_rfl
 f138 := Tryz.func103.trans (congrArg some (by kernel_rfl))
 f143 := Tryz.func104.trans (congrArg some (by kernel_rfl))
 f195 := Tryz.func147.trans (congrArg some (by kernel_rfl))
 f217 := Tryz.func70.trans (congrArg some (by kernel_rfl))
 f218 := Tryz.func149.trans (congrArg some (by kernel_rfl))
 f219 := Tryz.func150.trans (congrArg some (by kernel_rfl))
 f224 := Tryz.func190.trans (congrArg some (by kernel_rfl))
 f225 := Tryz.func189.trans (congrArg some (by kernel_rfl))
 f266 := Tryz.func108.trans (congrArg some (by kernel_rfl))
 f267 := Tryz.func191.trans (congrArg some (by kernel_rfl))
 f314 := Tryz.func211.trans (congrArg some (by kernel_rfl))
 t0 := Tryz.underlying0
 a0 := Tryz.isAgg0
 z0 := Tryz.sizeOf0
 v0 := Tryz.zeroValue0
 t3 := Tryz.underlying3
 a3 := Tryz.isAgg3
 z3 := Tryz.sizeOf3
 v3 := Tryz.zeroValue3
 t4 := Tryz.underlying4
 a4 := Tryz.isAgg4
 z4 := Tryz.sizeOf4
 v4 := Tryz.zeroValue4
 t5 := Tryz.underlying5
 a5 := Tryz.isAgg5
 z5 := Tryz.sizeOf5
 v5 := Tryz.zeroValue5
 t9 := Tryz.underlying9
 a9 := Tryz.isAgg9
 z9 := Tryz.sizeOf9
 v9 := Tryz.zeroValue9
 t46 := Tryz.underlying156
 a46 := Tryz.isAgg156
 z46 := Tryz.sizeOf156
 v46 := Tryz.zeroValue156
 t51 := Tryz.underlying46
 a51 := Tryz.isAgg46
 z51 := Tryz.sizeOf46
 v51 := Tryz.zeroValue46
 t146 := Tryz.underlying225
 a146 := Tryz.isAgg225
 z146 := Tryz.sizeOf225
 v146 := Tryz.zeroValue225
 g1 := by kernel_rfl }
def Tryz.lays102_ren : Go.Shelf.Ren := ⟨fun | 102 => 118 | 209 => 164 | 207 => 198 | n => n, fun | 9 => 9 | 4 => 4 | 3 => 3 | n => n, fun | n => n⟩
theorem Tryz.lays102 : Go.Proofs.Lays.n102 Tryz.prog Tryz.lays102_ren := {
 mixed := by kernel_rfl
 f102 := Tryz.func118.trans (congrArg some (by kernel_rfl))
 f207 := Tryz.func198.trans (congrArg some (by kernel_rfl))
 f209 := Tryz.func164.trans (congrArg some (by kernel_rfl))
 t3 := Tryz.underlying3
 a3 := Tryz.isAgg3
 z3 := Tryz.sizeOf3
 v3 := Tryz.zeroValue3
 t4 := Tryz.underlying4
 a4 := Tryz.isAgg4
 z4 := Tryz.sizeOf4
 v4 := Tryz.zeroValue4
 t9 := Tryz.underlying9
 a9 := Tryz.isAgg9
 z9 := Tryz.sizeOf9
 v9 := Tryz.zeroValue9 }
open Go.RowKit Go.Lib in
theorem Tryz.strings_TrimSuffix (s p : ByteArray) (w : World) (hs : s.size ≤ 9223372036854775807) :
  Calls Tryz.prog 118 #[.string s, .string p] w fun e w' => e = .returned (.string ⟨(Lib.trimSuffix s.data.toList p.data.toList).toArray⟩) ∧ w' = w := Any.strings_TrimSuffix Tryz.lays102 s p w hs
open Go.RowKit Go.Lib in
theorem Tryz.strings_Count_any (s sep : ByteArray) (m : Int) (w : World) (hs : s.size < 4294967281) (hm : w.cell? ⟨0, 0, none⟩ = some (.int .i64 m)) (h1 : 1 ≤ sep.size) :
  Calls Tryz.prog 103 #[.string s, .string sep] w fun e w' => e = .returned (.int .i64 (Lib.countB s sep)) ∧ w' = w := Any.strings_Count_any Tryz.lays138 s sep m w hs hm h1
def Tryz.lays146_ren : Go.Shelf.Ren := ⟨fun | 146 => 33 | 221 => 66 | 268 => 102 | 138 => 103 | 143 => 104 | 195 => 147 | 197 => 148 | 218 => 149 | 219 => 150 | 260 => 188 | 217 => 70 | 225 => 189 | 224 => 190 | 267 => 191 | 266 => 108 | 314 => 211 | n => n, fun | 9 => 9 | 31 => 66 | 3 => 3 | 4 => 4 | 0 => 0 | 105 => 166 | 21 => 21 | 5 => 5 | 46 => 156 | 119 => 175 | 139 => 224 | 138 => 223 | 146 => 225 | 51 => 46 | n => n, fun | 1 => 0 | 3 => 5 | 4 => 6 | n => n⟩
theorem Tryz.lays146 : Go.Proofs.Lays.n146 Tryz.prog Tryz.lays146_ren := {
 mixed := by kernel_rfl
 f138 := Tryz.func103.trans (congrArg some (by kernel_rfl))
 f143 := Tryz.func104.trans (congrArg some (by kernel_rfl))
 f146 := Tryz.func33.trans (congrArg some (by kernel_rfl))
 f195 := Tryz.func147.trans (congrArg some (by kernel_rfl))
 f197 := Tryz.func148.trans (congrArg some (by kernel_rfl))
 f217 := Tryz.func70.trans (congrArg some (by kernel_rfl))
 f218 := Tryz.func149.trans (congrArg some (by kernel_rfl))
 f219 := Tryz.func150.trans (congrArg some (by kernel_rfl))
 f221 := Tryz.func66.trans (congrArg some (by kernel_rfl))
 f224 := Tryz.func190.trans (congrArg some (by kernel_rfl))
 f225 := Tryz.func189.trans (congrArg some (by kernel_rfl))
 f260 := Tryz.func188.trans (congrArg some (by kernel_rfl))
 f266 := Tryz.func108.trans (congrArg some (by kernel_rfl))
 f267 := Tryz.func191.trans (congrArg some (by kernel_rfl))
 f268 := Tryz.func102.trans (congrArg some (by kernel_rfl))
 f314 := Tryz.func211.trans (congrArg some (by kernel_rfl))
 t0 := Tryz.underlying0
 a0 := Tryz.isAgg0
 z0 := Tryz.sizeOf0
 v0 := Tryz.zeroValue0
 t3 := Tryz.underlying3
 a3 := Tryz.isAgg3
 z3 := Tryz.sizeOf3
 v3 := Tryz.zeroValue3
 t4 := Tryz.underlying4
 a4 := Tryz.isAgg4
 z4 := Tryz.sizeOf4
 v4 := Tryz.zeroValue4
 t5 := Tryz.underlying5
 a5 := Tryz.isAgg5
 z5 := Tryz.sizeOf5
 v5 := Tryz.zeroValue5
 t9 := Tryz.underlying9
 a9 := Tryz.isAgg9
 z9 := Tryz.sizeOf9
 v9 := Tryz.zeroValue9
 t21 := Tryz.underlying21
 a21 := Tryz.isAgg21
 z21 := Tryz.sizeOf21
 v21 := Tryz.zeroValue21
 t31 := Tryz.underlying66
 a31 := Tryz.isAgg66
 z31 := Tryz.sizeOf66
 v31 := Tryz.zeroValue66
 t46 := Tryz.underlying156
 a46 := Tryz.isAgg156
 z46 := Tryz.sizeOf156
 v46 := Tryz.zeroValue156
 t51 := Tryz.underlying46
 a51 := Tryz.isAgg46
 z51 := Tryz.sizeOf46
 v51 := Tryz.zeroValue46
 t105 := Tryz.underlying166
 a105 := Tryz.isAgg166
 z105 := Tryz.sizeOf166
 v105 := Tryz.zeroValue166
 t119 := Tryz.underlying175
 a119 := Tryz.isAgg175
 z119 := Tryz.sizeOf175
 t138 := Tryz.underlying223
 a138 := Tryz.isAgg223
 z138 := Tryz.sizeOf223
 v138 := Tryz.zeroValue223
 t139 := Tryz.underlying224
 a139 := Tryz.isAgg224
 z139 := Tryz.sizeOf224
 v139 := Tryz.zeroValue224
 t146 := Tryz.underlying225
 a146 := Tryz.isAgg225
 z146 := Tryz.sizeOf225
 v146 := Tryz.zeroValue225
 g1 := by kernel_rfl
 g3 := by kernel_rfl
 g4 := by kernel_rfl }
open Go.RowKit Go.Lib in
theorem Tryz.strings_Split (s sep : ByteArray) (m : Int) (w : World) (hs : s.size < 4294967281) (hm : w.cell? ⟨0, 0, none⟩ = some (.int .i64 m)) (h1 : 1 ≤ sep.size) :
  Calls Tryz.prog 33 #[.string s, .string sep] w fun e w' =>
   e = .returned (.slice (some ⟨w.heap.size, 0, none⟩) (Lib.countB s sep + 1) (Lib.countB s sep + 1)) ∧ w' = w.alloc (.cells ((Lib.splitB sep 0 (Lib.countB s sep) s).map Value.string).toArray 9) := Any.strings_Split Tryz.lays146 (by kernel_rfl) s sep m w hs hm h1
def Tryz.laysM157_ren : Go.Shelf.Ren := ⟨fun | 157 => 117 | 229 => 162 | 199 => 163 | 261 => 197 | 311 => 213 | 312 => 214 | n => n, fun | 9 => 9 | 31 => 66 | 3 => 3 | 5 => 5 | 4 => 4 | 119 => 175 | 0 => 0 | 40 => 177 | 152 => 205 | 21 => 21 | 154 => 207 | 51 => 46 | 141 => 209 | 196 => 233 | 193 => 230 | 198 => 236 | 49 => 234 | 194 => 231 | 201 => 239 | 226 => 251 | 46 => 156 | 227 => 252 | n => n, fun | 0 => 1 | 6 => 4 | n => n⟩
theorem Tryz.laysM157 : Go.Proofs.LaysM.n157 Tryz.prog Tryz.laysM157_ren := {
 mixed := by kernel_rfl
 f157 := Tryz.func117.trans (congrArg some (by kernel_rfl))
 f199 := Tryz.func163.trans (congrArg some (by kernel_rfl))
 f229 := Tryz.func162.trans (congrArg some (by kernel_rfl))
 f261 := Tryz.func197.trans (congrArg some (by kernel_rfl))
 f311 := Tryz.func213.trans (congrArg some (by kernel_rfl))
 f312 := Tryz.func214.trans (congrArg some (by kernel_rfl))
 t0 := Tryz.underlying0
 a0 := Tryz.isAgg0
 z0 := Tryz.sizeOf0
 v0 := Tryz.zeroValue0
 t3 := Tryz.underlying3
 a3 := Tryz.isAgg3
 z3 := Tryz.sizeOf3
 v3 := Tryz.zeroValue3
 t4 := Tryz.underlying4
 a4 := Tryz.isAgg4
 z4 := Tryz.sizeOf4
 v4 := Tryz.zeroValue4
 t5 := Tryz.underlying5
 a5 := Tryz.isAgg5
 z5 := Tryz.sizeOf5
 v5 := Tryz.zeroValue5
 t9 := Tryz.underlying9
 a9 := Tryz.isAgg9
 z9 := Tryz.sizeOf9
 v9 := Tryz.zeroValue9
 t21 := Tryz.underlying21
 a21 := Tryz.isAgg21
 z21 := Tryz.sizeOf21
 v21 := Tryz.zeroValue21
 t31 := Tryz.underlying66
 a31 := Tryz.isAgg66
 z31 := Tryz.sizeOf66
 v31 := Tryz.zeroValue66
 t40 := Tryz.underlying177
 a40 := Tryz.isAgg177
 z40 := Tryz.sizeOf177
 v40 := Tryz.zeroValue177
 t46 := Tryz.underlying156
 a46 := Tryz.isAgg156
 z46 := Tryz.sizeOf156
 v46 := Tryz.zeroValue156
 t49 := Tryz.underlying234
 a49 := Tryz.isAgg234
 z49 := Tryz.sizeOf234
 v49 := Tryz.zeroValue234
 t51 := Tryz.underlying46
 a51 := Tryz.isAgg46
 z51 := Tryz.sizeOf46
 v51 := Tryz.zeroValue46
 t119 := Tryz.underlying175
 a119 := Tryz.isAgg175
 z119 := Tryz.sizeOf175
 t141 := Tryz.underlying209
 a141 := Tryz.isAgg209
 z141 := Tryz.sizeOf209
 v141 := Tryz.zeroValue209
 t152 := Tryz.underlying205
 a152 := Tryz.isAgg205
 z152 := Tryz.sizeOf205
 v152 := Tryz.zeroValue205
 t154 := Tryz.underlying207
 a154 := Tryz.isAgg207
 z154 := Tryz.sizeOf207
 v154 := Tryz.zeroValue207
 t193 := Tryz.underlying230
 a193 := Tryz.isAgg230
 z193 := Tryz.sizeOf230
 v193 := Tryz.zeroValue230
 t194 := Tryz.underlying231
 a194 := Tryz.isAgg231
 z194 := Tryz.sizeOf231
 v194 := Tryz.zeroValue231
 t196 := Tryz.underlying233
 a196 := Tryz.isAgg233
 z196 := Tryz.sizeOf233
 v196 := Tryz.zeroValue233
 t198 := Tryz.underlying236
 a198 := Tryz.isAgg236
 z198 := Tryz.sizeOf236
 v198 := Tryz.zeroValue236
 t201 := Tryz.underlying239
 a201 := Tryz.isAgg239
 z201 := Tryz.sizeOf239
 v201 := Tryz.zeroValue239
 t226 := Tryz.underlying251
 a226 := Tryz.isAgg251
 z226 := Tryz.sizeOf251
 v226 := Tryz.zeroValue251
 t227 := Tryz.underlying252
 a227 := Tryz.isAgg252
 z227 := Tryz.sizeOf252
 v227 := Tryz.zeroValue252
 g0 := by kernel_rfl
 g6 := by kernel_rfl
 i0 := by kernel_rfl
 i3 := by kernel_rfl
 i4 := by kernel_rfl
 i5 := by kernel_rfl
 i9 := by kernel_rfl
 i21 := by kernel_rfl
 i31 := by kernel_rfl
 i40 := by kernel_rfl
 i46 := by kernel_rfl
 i49 := by kernel_rfl
 i51 := by kernel_rfl
 i141 := by kernel_rfl
 i152 := by kernel_rfl
 i154 := by kernel_rfl
 i193 := by kernel_rfl
 i194 := by kernel_rfl
 i196 := by kernel_rfl
 i198 := by kernel_rfl
 i201 := by kernel_rfl
 i226 := by kernel_rfl
 i227 := by kernel_rfl
 m0 := by kernel_rfl
 m6 := by kernel_rfl }
open Go.RowKit Go.Lib in
theorem Tryz.strings_Fields_laid (s : ByteArray) (w : World) (hs : s.size < 4294967281) (hascii : ∀ (j : Nat) b, s.data.toList[j]? = some b → b.toNat < 128) (htab : Lib.TabIs Tryz.prog w "strings.asciiSpace" .u8 Lib.asciiSpaceTab) :
  Calls Tryz.prog 117 #[.string s] w fun e w' =>
   e = .returned (.slice (some ⟨w.heap.size, 0, none⟩) (Lib.fields s.data.toList).length (Lib.fields s.data.toList).length) ∧ w' = w.alloc (.cells ((Lib.fields s.data.toList).map fun l => Value.string ⟨l.toArray⟩).toArray 9) := Any.strings_Fields_laid Tryz.laysM157 s w hs hascii htab
end Go.Proofs
namespace Rv
open Go Go.RowKit Go.Proofs Go.Sort Go.Lib
noncomputable section
set_option maxRecDepth 100000
theorem holds_zero0 (w : World) (T : TypeId) (nd : Nat) (hs : nd ≤ 24) : Holds (fun (b : UInt8) => Value.int .u8 (b.toNat : Int)) (w.alloc (.cells zeros24 T)) w.heap.size 0 (Array.replicate nd (0 : UInt8)) := fun j hj => by
 have hj' : j < nd := by simpa using hj
 refine ⟨?_, World.frozen?_alloc_new _ _ _ _⟩
 rw [World.cell?_alloc_new, zeros24_at _ (by omega), getElem!_pos _ j hj]
 simp
theorem fin_pos0 (w : World) (o : Obj) (dk : Array UInt8) (k : Nat) : ∃ os, (putRow (fun (b : UInt8) => Value.int .u8 (b.toNat : Int)) (w.alloc o) w.heap.size 0 dk).drewN k = grow (w.drewN k) os := by
 rw [alloc_eq_grow]
 obtain ⟨os', _, e⟩ := putRow_grow_new (fun (b : UInt8) => Value.int .u8 (b.toNat : Int)) w #[o] w.heap.size 0 dk (Nat.le_refl _)
 exact ⟨os', by rw [e]; rfl⟩
set_option maxHeartbeats 6400000 in
theorem formatUint_10 (u : Nat) (hu : u ≤ 9223372036854775807) (w : World) (htab : Lib.TabIs Tryz.prog w "internal/strconv.uint64pow10" .u64 Lib.pow10Tab) :
  Calls Tryz.prog 203 #[.int .u64 (u : Int), .int .i64 10] w fun e w' => e = .returned (.string ⟨(Lib.itoa (u : Int)).toArray⟩) ∧ Below w.heap.size w w' := by
 by_cases hs : u < 100
 ·have hc := Tryz.internal_strconv_small u hs w
  have hw : IntKind.i64.wrap (u : Int) = (u : Int) := by rw [IntKind.wrap_i64]; omega
  go_enter Tryz.func203, Tryz.ntmps203
  go_wp2_with (go_at_call 205; refine hc.mono ?_; rintro e w' ⟨rfl, rfl⟩)
  go_ret
  refine ⟨?_, Below.refl _ _⟩
  rw [Lib.itoa_nonneg]
  rfl
 ·have hu1 : 1 ≤ u := by omega
  have hu64 : u < 18446744073709551616 := by omega
  have hnd20 : Lib.nDigits u ≤ 20 := by have := Lib.numDigits_eq u hu1 hu64; split at this <;> omega
  have hal : Tryz.prog.arrayLen 213 = 24 := by kernel_rfl
  have hsl1 : ∀ W, (Instr.sliceAt 213 (.pointer (some ⟨w.heap.size, 0, none⟩)) none (some (.int .i64 (Lib.nDigits u : Int))) none).run Tryz.prog W = .ok (.slice (some ⟨w.heap.size, 0, none⟩) (Lib.nDigits u) 24) W := fun W => by
   rw [run_sliceAt_array_h W 213 ⟨w.heap.size, 0, none⟩ (by simp [Program.arrayLen, Program.elem, Tryz.underlying213]) .i64 (Lib.nDigits u : Int) (by omega) (by rw [hal]; omega)]
   go_simp
  have hH0 := holds_zero0 w 213 (Lib.nDigits u) (by omega)
  have hfmt := Tryz.internal_strconv_formatBase10 w.heap.size 0 24 u (Array.replicate (Lib.nDigits u) 0) (w.alloc (.cells Lib.zeros24 213)) hH0 (by rw [Array.size_replicate]; exact Lib.lt_pow_nDigits u) hu64 (by rw [Array.size_replicate]; omega)
  have hnum := Tryz.internal_strconv_numDigits u hu1 hu64 (w.alloc (.cells Lib.zeros24 213)) (Lib.tabIs_alloc htab _)
  rw [Array.size_replicate] at hfmt
  have HH0 := Lib.hid hH0
  clear hH0 hal
  go_enter Tryz.func203, Tryz.ntmps203
  go_wp2_with (go_at_call 206; refine hnum.mono ?_; rintro e w' ⟨rfl, rfl⟩)
  go_at_call 207
  refine hfmt.mono ?_
  rintro e w' ⟨rfl, k, v', dk, rfl, hF⟩
  have hcv : (convert 40 9 (.slice (some ⟨w.heap.size, 0, none⟩) (Lib.nDigits u) 24)).run Tryz.prog ((putRow (fun (b : UInt8) => Value.int .u8 (b.toNat : Int)) (w.alloc (.cells Lib.zeros24 213)) w.heap.size 0 dk).drewN k) = .ok (.string ⟨(Lib.decDigits u).toArray⟩) ((putRow (fun (b : UInt8) => Value.int .u8 (b.toNat : Int)) (w.alloc (.cells Lib.zeros24 213)) w.heap.size 0 dk).drewN k) := by
   have h := run_convert_bytes_back (P := Tryz.prog) ((putRow (fun (b : UInt8) => Value.int .u8 (b.toNat : Int)) (w.alloc (.cells Lib.zeros24 213)) w.heap.size 0 dk).drewN k) 40 9 5 ⟨w.heap.size, 0, none⟩ 24 (Lib.decDigits u) Tryz.underlying40 Tryz.underlying5 Tryz.underlying9 (fun j hj => by
    rw [Lib.row_is_numeral hF j hj, Lib.add_plain, World.cell?_drewN]
    exact cell?_putRow (fun (b : UInt8) => Value.int .u8 (b.toNat : Int)) _ w.heap.size 0 _ dk HH0.out (by rw [hF.size, Array.size_replicate]) j (by rw [hF.size]; rw [Lib.decDigits_length] at hj; exact hj))
   rw [Lib.decDigits_length] at h
   exact h
  go_wp2
  go_ret
  obtain ⟨os, eo⟩ := fin_pos0 w (.cells Lib.zeros24 213) dk k
  refine ⟨?_, ?_⟩
  ·rw [Lib.itoa_nonneg]
   rfl
  ·rw [eo]; exact Lib.below_grow _ _ (Nat.le_refl _) _ _
end
end Rv
namespace Rv
open Go Go.RowKit
def CD.isArg : CD → Bool
 | .int _ | .bool | .str | .ifo _ _ | .sl _ => true
 | _ => false
def SlOf (w : World) (t : Ty) (xs : List t.D) (v : Value) : Prop :=
 ∃ A c, v = .slice A xs.length c ∧ xs.length ≤ c ∧ ∀ i x, xs[i]? = some x → ∃ g o ds, A = some ⟨g, o, none⟩ ∧ g < w.heap.size ∧ Rd w (fun _ => True) t x ds ∧ ∀ j v, ds[j]? = some v → w.cell? ⟨g, o + i * t.size + j, none⟩ = some v
def CD.argR (w : World) : (c : CD) → c.T → Value → Prop
 | .sl t, xs, v => SlOf w t xs v
 | c, x, v => v = c.val x
def argsR (w : World) : (l : List CD) → TL l → List Value → Prop
 | [], _, vs => vs = []
 | _ :: _, _, [] => False
 | c :: l, x, v :: vs => c.argR w x.1 v ∧ argsR w l x.2 vs
section
variable {P : Program} {C : Ctx} {γ : Gam} {h : Heap} {w : World}
theorem args_of {nm : Nm} : ∀ {l : List CD} {x : TL l} {m : Nat} {vs : List Value}, l.all CD.isArg = true → All2 (RepC C γ h w) (mkL nm l x m).1 vs → argsR w l x vs
 | [], _, _, vs, _, ha => by
  cases vs with
  | nil => rfl
  | cons _ _ => exact ha.elim
 | c :: r, x, m, vs, hl, ha => by
  simp only [List.all_cons, Bool.and_eq_true] at hl
  cases vs with
  | nil => exact ha.elim
  | cons v vs =>
   simp only [mkL] at ha
   obtain ⟨h1, h2⟩ := ha
   refine ⟨?_, args_of hl.2 h2⟩
   cases c with
   | int k => exact h1
   | bool => exact h1
   | str => exact h1
   | ifo t k =>
    obtain ⟨o, x'⟩ := x
    cases o with
    | none => exact h1
    | some n => exact h1
   | sl t =>
    obtain ⟨_, A, c, hv, hc, hx⟩ := h1
    refine ⟨A, c, hv, hc, fun i y hy => ?_⟩
    obtain ⟨g, o, ds, h3, _, h5, h6, h7⟩ := hx i y hy
    exact ⟨g, o, ds, h3, h5, h6.mono (Nat.le_refl _) (fun _ _ _ => ⟨rfl, trivial⟩), h7⟩
   | _ => cases hl.1
theorem sat_args {L : World → Prop} {f : FuncId} {sp : Spec} {la lr : List CD} (ea : sp.a = flatS la) (er : sp.r = flatS lr) (ha : la.all CD.isArg = true) (hr : lr.all CD.isPlain = true)
  (H : ∀ (x : TL la) (y : TL lr), sp.f (cast (by rw [ea]; show TL la = TL (flatS la).all; rw [flatS_all]) x) = some (cast (by rw [er]; show TL lr = TL (flatS lr).all; rw [flatS_all]) y) → ∀ w vs, L w → argsR w la x vs →
   Calls P f vs.toArray w fun e w' => Below w.heap.size w w' ∧ ∃ rs : Array Value, e = .returned (if h : rs.size = 1 then rs[0] else .tuple rs) ∧ resL lr y rs.toList) : Sat P L f sp := by
 obtain ⟨a, r, g⟩ := sp
 simp only at ea er H
 subst ea er
 intro x y hy C γ vals hCL hCn R
 have hCn : C.nl = 0 := hCn
 have eqT : ∀ l : List CD, (flatS l).T = TL l := fun l => by show TL (flatS l).all = TL l; rw [flatS_all]
 have hsz : vals.size = la.length := by
  rw [R.size]
  show (putSlots _ _ _).1.length = _
  rw [putSlots_len]
  simp [flatS, flatFrom_len]
 have castmk : ∀ (l : List CD) (nm : Nm) (x : (flatS l).T) (m : Nat), mkL nm (flatS l).all x m = mkL nm l (cast (eqT l) x) m := by
  intro l nm x m
  have gen : ∀ (l' : List CD) (e : l' = l) (x : TL l') (h : TL l' = TL l), mkL nm l' x m = mkL nm l (cast h x) m := by
   intro l' e x h; subst e; rfl
  exact gen _ (flatS_all l) x _
 have hvals : argsR C.w0 la (cast (eqT la) x) vals.toList := by
  have hnd : ((flatS la).slots.map (·.1)).Nodup := by
   show ((flatFrom 0 la).map (·.1)).Nodup
   rw [flatFrom_idx]; exact List.nodup_range'
  have hlt : ∀ i, i ∈ (flatS la).slots.map (·.1) → i < (List.replicate (flatS la).slots.length V.dead).length := fun i hi => by
   have hi : i ∈ (flatFrom 0 la).map (·.1) := hi
   rw [flatFrom_idx] at hi
   simp only [List.mem_range'_1] at hi
   simp [flatS, flatFrom_len]; omega
  have hlen : (mkL nmJ (flatS la).all x (flatS la).boxes.length).1.length = ((flatS la).slots.flatMap fun p => p.2.cds).length := by
   rw [(mkL_count _ _ _ _).2.2, flatS_all]
   show _ = ((flatFrom 0 la).flatMap _).length
   rw [flatFrom_all]
  have hb := (putSlots_back (C := C) (γ := γ) (h := ((flatS la).mk' nmJ (flatS la).slots.length x).h) (w := C.w0) (vals := vals) hnd hlt hlen R.slot).1
  rw [castmk] at hb
  have hv := args_of ha hb
  have hf : flatV vals (flatS la).slots = vals.toList := by
   show flatV vals (flatFrom 0 la) = _
   rw [flatV_from, ← hsz, range_getD]
  rw [hf] at hv
  exact hv
 have hw := H (cast (eqT la) x) (cast (eqT lr) y) (by simp only [cast_cast, cast_eq]; exact hy) C.w0 vals.toList (by rw [← hCL]; exact R.inv.laid) hvals
 rw [Array.toArray_toList] at hw
 refine hw.mono fun e w' ⟨hb, rs, he, hres⟩ => ⟨fun _ => none, rs, he, ?_⟩
 have hrows : (mkL nmJ (flatS lr).all y (flatS lr).boxes.length).2.1 = [] := by rw [castmk]; exact plain_rows hr
 have hh : ((flatS lr).mk' nmJ (flatS lr).slots.length y).h = Heap.ofList [] := by
  have : ((flatS lr).mk' nmJ (flatS lr).slots.length y).h = Heap.ofList ([] ++ (mkL nmJ (flatS lr).all y (flatS lr).boxes.length).2.1) := rfl
  rw [this, hrows]; rfl
 have hlr : ∀ {l : List CD} {x : TL l} {vs : List Value}, resL l x vs → vs.length = l.length := by
  intro l
  induction l with
  | nil => intro x vs hr; cases vs with
   | nil => rfl
   | cons _ _ => exact hr.elim
  | cons c l ih => intro x vs hr; cases vs with
   | nil => exact hr.elim
   | cons v vs => simp [ih hr.2]
 have hrs : rs.size = lr.length := by have := hlr hres; simpa using this
 have hcells := res_rep (C := C) (γ := fun _ => none) (h := Heap.ofList []) (w := w') (nm := nmJ) (m := (flatS lr).boxes.length) hres
 rw [← castmk] at hcells
 have hfv : flatV rs (flatS lr).slots = rs.toList := by
  show flatV rs (flatFrom 0 lr) = _
  rw [flatV_from, ← hrs, range_getD]
 have hok : SlotsOk rs (flatS lr).slots := by
  intro i sd hm
  have hm : (i, sd) ∈ flatFrom 0 lr := hm
  have : ∀ (l : List CD) (j : Nat), (i, sd) ∈ flatFrom j l → ∃ c, sd = .c c := by
   intro l
   induction l with
   | nil => intro j hj; simp [flatFrom] at hj
   | cons c l ih =>
    intro j hj
    simp only [flatFrom, List.mem_cons, Prod.mk.injEq] at hj
    rcases hj with hj | hj
    ·exact ⟨c, hj.2⟩
    ·exact ih _ hj
  obtain ⟨c, rfl⟩ := this lr 0 hm
  trivial
 obtain ⟨h1, h2, _⟩ := putSlots_sound (C := C) (γ := fun _ => none) (h := Heap.ofList []) (w := w') (vals := rs) (sl := (flatS lr).slots) (l := List.replicate (flatS lr).slots.length V.dead) (rest := []) hok (fun i v hi => by
   rw [List.getElem?_replicate] at hi
   split at hi
   ·simp only [Option.some.injEq] at hi; subst hi; trivial
   ·cases hi) (by rw [hfv, List.append_nil]; exact hcells)
 refine ⟨?_, ?_, ?_⟩
 ·show rs.size = (putSlots _ _ _).1.length
  rw [h1, List.length_replicate, hrs]
  simp [flatS, flatFrom_len]
 ·rw [hh]; exact h2
 ·rw [hh]; exact inv_none R.inv hCn hb
def CD.isFree : CD → Bool
 | .sl _ | .fn => true
 | c => c.isPlain
def CD.resF (w0 w : World) : (c : CD) → c.T → Value → Prop
 | .sl t, xs, v => v.oneCell' = true ∧ Rd w (fun g => w0.heap.size ≤ g) (.sl t) xs [v]
 | .fn, x, v => v.oneCell' = true ∧ Rd w (fun g => w0.heap.size ≤ g) .fn x [v]
 | c, x, v => c.res x v
def resF (w0 w : World) : (l : List CD) → TL l → List Value → Prop
 | [], _, [] => True
 | c :: r, x, v :: vs => c.resF w0 w x.1 v ∧ resF w0 w r x.2 vs
 | _, _, _ => False
theorem free_rows {nm : Nm} : ∀ {l : List CD} {x : TL l} {m : Nat}, l.all CD.isFree = true → (mkL nm l x m).2.1 = []
 | [], _, _, _ => rfl
 | c :: r, x, m, hl => by
  simp only [List.all_cons, Bool.and_eq_true] at hl
  simp only [mkL]
  rw [free_rows hl.2]
  cases c <;> first | rfl | cases hl.1
theorem free_ok {w0 : World} (hrd : ∀ g, w0.heap.size ≤ g → C.rd g) : ∀ g, w0.heap.size ≤ g → okb C (fun _ => none) (Heap.ofList []) none g := fun g hg => ⟨hrd g hg, fun k e c hk => by cases hk⟩
theorem free_rep {w0 : World} (hrd : ∀ g, w0.heap.size ≤ g → C.rd g) {nm : Nm} : ∀ {l : List CD} {x : TL l} {m : Nat} {vs : List Value}, resF w0 w l x vs → All2 (RepC C (fun _ => none) (Heap.ofList []) w) (mkL nm l x m).1 vs
 | [], _, _, [], _ => trivial
 | [], _, _, _ :: _, hr => hr.elim
 | _ :: _, _, _, [], hr => hr.elim
 | c :: r, x, m, v :: vs, hr => by
  simp only [mkL]
  refine ⟨?_, free_rep hrd hr.2⟩
  have := hr.1
  cases c with
  | int k => exact this
  | bool => exact this
  | str => exact this
  | err => exact this
  | ifo t k =>
   obtain ⟨o, x'⟩ := x
   cases o with
   | none => exact this
   | some n => exact this
  | sl t => exact ⟨this.1, RdS.iff.2 (this.2.mono (Nat.le_refl _) fun g hg _ => ⟨rfl, free_ok hrd g hg⟩)⟩
  | fn => exact ⟨this.1, this.2.mono (Nat.le_refl _) fun g hg _ => ⟨rfl, free_ok hrd g hg⟩⟩
  | _ => exact this.elim
theorem sat_free {L : World → Prop} {f : FuncId} {sp : Spec} {la lr : List CD} (ea : sp.a = flatS la) (er : sp.r = flatS lr) (ha : la.all CD.isArg = true) (hr : lr.all CD.isFree = true)
  (H : ∀ (x : TL la) (y : TL lr), sp.f (cast (by rw [ea]; show TL la = TL (flatS la).all; rw [flatS_all]) x) = some (cast (by rw [er]; show TL lr = TL (flatS lr).all; rw [flatS_all]) y) → ∀ w vs, L w → argsR w la x vs →
   Calls P f vs.toArray w fun e w' => Below w.heap.size w w' ∧ ∃ rs : Array Value, e = .returned (if h : rs.size = 1 then rs[0] else .tuple rs) ∧ resF w w' lr y rs.toList) : Sat P L f sp := by
 obtain ⟨a, r, g⟩ := sp
 simp only at ea er H
 subst ea er
 intro x y hy C γ vals hCL hCn R
 have hCn : C.nl = 0 := hCn
 have eqT : ∀ l : List CD, (flatS l).T = TL l := fun l => by show TL (flatS l).all = TL l; rw [flatS_all]
 have hsz : vals.size = la.length := by
  rw [R.size]
  show (putSlots _ _ _).1.length = _
  rw [putSlots_len]
  simp [flatS, flatFrom_len]
 have castmk : ∀ (l : List CD) (nm : Nm) (x : (flatS l).T) (m : Nat), mkL nm (flatS l).all x m = mkL nm l (cast (eqT l) x) m := by
  intro l nm x m
  have gen : ∀ (l' : List CD) (e : l' = l) (x : TL l') (h : TL l' = TL l), mkL nm l' x m = mkL nm l (cast h x) m := by
   intro l' e x h; subst e; rfl
  exact gen _ (flatS_all l) x _
 have hvals : argsR C.w0 la (cast (eqT la) x) vals.toList := by
  have hnd : ((flatS la).slots.map (·.1)).Nodup := by
   show ((flatFrom 0 la).map (·.1)).Nodup
   rw [flatFrom_idx]; exact List.nodup_range'
  have hlt : ∀ i, i ∈ (flatS la).slots.map (·.1) → i < (List.replicate (flatS la).slots.length V.dead).length := fun i hi => by
   have hi : i ∈ (flatFrom 0 la).map (·.1) := hi
   rw [flatFrom_idx] at hi
   simp only [List.mem_range'_1] at hi
   simp [flatS, flatFrom_len]; omega
  have hlen : (mkL nmJ (flatS la).all x (flatS la).boxes.length).1.length = ((flatS la).slots.flatMap fun p => p.2.cds).length := by
   rw [(mkL_count _ _ _ _).2.2, flatS_all]
   show _ = ((flatFrom 0 la).flatMap _).length
   rw [flatFrom_all]
  have hb := (putSlots_back (C := C) (γ := γ) (h := ((flatS la).mk' nmJ (flatS la).slots.length x).h) (w := C.w0) (vals := vals) hnd hlt hlen R.slot).1
  rw [castmk] at hb
  have hv := args_of ha hb
  have hf : flatV vals (flatS la).slots = vals.toList := by
   show flatV vals (flatFrom 0 la) = _
   rw [flatV_from, ← hsz, range_getD]
  rw [hf] at hv
  exact hv
 have hw := H (cast (eqT la) x) (cast (eqT lr) y) (by simp only [cast_cast, cast_eq]; exact hy) C.w0 vals.toList (by rw [← hCL]; exact R.inv.laid) hvals
 rw [Array.toArray_toList] at hw
 refine hw.mono fun e w' ⟨hb, rs, he, hres⟩ => ⟨fun _ => none, rs, he, ?_⟩
 have hrows : (mkL nmJ (flatS lr).all y (flatS lr).boxes.length).2.1 = [] := by rw [castmk]; exact free_rows hr
 have hh : ((flatS lr).mk' nmJ (flatS lr).slots.length y).h = Heap.ofList [] := by
  have : ((flatS lr).mk' nmJ (flatS lr).slots.length y).h = Heap.ofList ([] ++ (mkL nmJ (flatS lr).all y (flatS lr).boxes.length).2.1) := rfl
  rw [this, hrows]; rfl
 have hlr : ∀ {l : List CD} {x : TL l} {vs : List Value}, resF C.w0 w' l x vs → vs.length = l.length := by
  intro l
  induction l with
  | nil => intro x vs hr; cases vs with
   | nil => rfl
   | cons _ _ => exact hr.elim
  | cons c l ih => intro x vs hr; cases vs with
   | nil => exact hr.elim
   | cons v vs => simp [ih hr.2]
 have hrs : rs.size = lr.length := by have := hlr hres; simpa using this
 have hcells := free_rep (C := C) (nm := nmJ) (m := (flatS lr).boxes.length) (fun g hg => R.inv.rd g (R.inv.new g hg)) hres
 rw [← castmk] at hcells
 have hfv : flatV rs (flatS lr).slots = rs.toList := by
  show flatV rs (flatFrom 0 lr) = _
  rw [flatV_from, ← hrs, range_getD]
 have hok : SlotsOk rs (flatS lr).slots := by
  intro i sd hm
  have hm : (i, sd) ∈ flatFrom 0 lr := hm
  have : ∀ (l : List CD) (j : Nat), (i, sd) ∈ flatFrom j l → ∃ c, sd = .c c := by
   intro l
   induction l with
   | nil => intro j hj; simp [flatFrom] at hj
   | cons c l ih =>
    intro j hj
    simp only [flatFrom, List.mem_cons, Prod.mk.injEq] at hj
    rcases hj with hj | hj
    ·exact ⟨c, hj.2⟩
    ·exact ih _ hj
  obtain ⟨c, rfl⟩ := this lr 0 hm
  trivial
 obtain ⟨h1, h2, _⟩ := putSlots_sound (C := C) (γ := fun _ => none) (h := Heap.ofList []) (w := w') (vals := rs) (sl := (flatS lr).slots) (l := List.replicate (flatS lr).slots.length V.dead) (rest := []) hok (fun i v hi => by
   rw [List.getElem?_replicate] at hi
   split at hi
   ·simp only [Option.some.injEq] at hi; subst hi; trivial
   ·cases hi) (by rw [hfv, List.append_nil]; exact hcells)
 refine ⟨?_, ?_, ?_⟩
 ·show rs.size = (putSlots _ _ _).1.length
  rw [h1, List.length_replicate, hrs]
  simp [flatS, flatFrom_len]
 ·rw [hh]; exact h2
 ·rw [hh]; exact inv_none R.inv hCn hb
end
end Rv
namespace Rv
open Go Go.RowKit Go.Proofs
noncomputable section
set_option maxRecDepth 100000
theorem bld_size : (Tryz.prog.info? 125).map (·.size) = some 2 := by kernel_rfl
theorem bld_lies : liesAt Tryz.prog Tryz.prog.depth 125 (2 / Tryz.prog.cellsOf 125) 0 125 1 = true := by kernel_rfl
theorem copyCheck_used (b : Nat) (w : World) (h0 : w.cell? ⟨b, 0, none⟩ = some (.pointer (some ⟨b, 0, none⟩))) :
  Calls Tryz.prog 127 #[.pointer (some ⟨b, 0, none⟩)] w fun e w' => e = .returned (.tuple #[]) ∧ w' = w := by
 obtain ⟨j, hj, _⟩ := Option.map_eq_some_iff.1 bld_size
 go_enter Tryz.func127, Tryz.ntmps127
 go_wp2
 rw [Lib.run_neq_ptr_same w _ Tryz.underlying123 hj]
 go_wp2
 go_end0
 exact ⟨rfl, rfl⟩
theorem copyCheck_fresh (b : Nat) (w : World) (h0 : w.cell? ⟨b, 0, none⟩ = some (.pointer none)) (hsh : w.shape? b = some (125, 2)) (hfz : w.frozen? ⟨b, 0, none⟩ = false) :
  Calls Tryz.prog 127 #[.pointer (some ⟨b, 0, none⟩)] w fun e w' => e = .returned (.tuple #[]) ∧ w' = w.setCell ⟨b, 0, none⟩ (.pointer (some ⟨b, 0, none⟩)) := by
 obtain ⟨j, hj, hjs⟩ := Option.map_eq_some_iff.1 bld_size
 go_enter Tryz.func127, Tryz.ntmps127
 go_wp2
 rw [Lib.run_to_unsafe w ⟨b, 0, none⟩ Tryz.underlying123 Tryz.underlying185 hj (by rw [hjs]; decide) hsh (Nat.zero_lt_succ 1)]
 simp only [Result.andThen]
 rw [Oper.upon_value]
 go_wp2
 rw [run_callFunc_extern Tryz.func169 (by kernel_rfl) (by kernel_rfl) (by kernel_rfl) (e := Extern.AbiNoEscape.same) (by kernel_rfl)]
 rw [Lib.run_noEscape]
 simp only [Result.andThen]
 rw [Oper.upon_value]
 go_wp2
 rw [Lib.run_from_unsafe w ⟨b, 0, none⟩ Tryz.underlying185 Tryz.underlying123 hj hsh bld_lies]
 simp only [Result.andThen]
 rw [Oper.upon_value]
 go_wp2
 go_end0
 exact ⟨rfl, rfl⟩
theorem copyCheck_k (B b : Nat) (bs : List Value) (w : World) (h : Lib.IsBuilderF 125 5 B b bs w) :
  Calls Tryz.prog 127 #[.pointer (some ⟨b, 0, none⟩)] w fun e w' => e = .returned (.tuple #[]) ∧ (Lib.BuilderAtF 125 5 B b (.pointer (some ⟨b, 0, none⟩)) bs w' ∧ Below B w w' ∧ Lib.OthersKept 5 (some b) w w') := by
 rcases h with h | h
 ·refine (copyCheck_fresh b w h.cell0 h.shape h.frozen0).mono ?_
  rintro e w' ⟨rfl, rfl⟩
  exact ⟨rfl, h.used _, (Below.refl B w).setCell (p := ⟨b, 0, none⟩) h.1 _, (Lib.OthersKept.refl _ _ w).setCell ⟨b, 0, none⟩ rfl _⟩
 ·refine (copyCheck_used b w h.cell0).mono ?_
  rintro e w' ⟨rfl, rfl⟩
  exact ⟨rfl, h, Below.refl B _, Lib.OthersKept.refl _ _ _⟩
set_option maxHeartbeats 2000000 in
theorem writeString_k (B b : Nat) (bs : List Value) (s : ByteArray) (w : World) (h : Lib.IsBuilderF 125 5 B b bs w) (hlen : bs.length + s.size ≤ 140737488355328) (hBw : B ≤ w.heap.size) :
  Calls Tryz.prog 83 #[.pointer (some ⟨b, 0, none⟩), .string s] w fun e w' => e = .returned (.tuple #[.int .i64 s.size, .nilIface]) ∧ (Lib.BuilderAtF 125 5 B b (.pointer (some ⟨b, 0, none⟩)) (bs ++ Lib.strCells s) w' ∧ Below B w w' ∧ Lib.OthersKept 5 (some b) w w') := by
 obtain ⟨i0, hi, hz0, hz1, hz2⟩ := info_parts (show (Tryz.prog.info? 5).map (fun i => (i.zero, i.size, i.bytes)) = some (some (.int .u8 0), 1, 1) by kernel_rfl)
 have hcc := copyCheck_k B b bs w h
 go_enter Tryz.func83, Tryz.ntmps83
 go_wp2_with (go_at_call 127; refine hcc.mono ?_)
 rintro e w1 ⟨rfl, h1, hb1, hk1⟩
 obtain ⟨hB, v, hbk, hown, hne⟩ := h1
 have c0 : w1.cell? ⟨b, 0, none⟩ = some (.pointer (some ⟨b, 0, none⟩)) := by rw [Lib.cell_of_heap hbk]; rfl
 have c1 : w1.cell? ⟨b, 1, none⟩ = some v := by rw [Lib.cell_of_heap hbk]; rfl
 go_wp2_with (at_builtin; refine Lib.wpList_append_own_stringF _ rfl _ _ 40 9 rfl B 5 i0 Tryz.underlying40 Tryz.underlying9 hi hz0 hz1 hz2 _ _ _ rfl hown s rfl ?c3 ?c4 ?c5 ?_)
 case c3 => unfold maxLen; omega
 case c4 => omega
 case c5 => have := hb1.size; omega
 intro v' w2 hown' hgrow _
 have hlt : b < w1.heap.size := by
  rcases Nat.lt_or_ge b w1.heap.size with h' | h'
  ·exact h'
  ·simp [Array.getElem?_eq_none h'] at hbk
 have hb2 : w2.heap[b]? = some (.cells #[.pointer (some ⟨b, 0, none⟩), v] 125 (0, 0)) := by
  rw [hgrow.block b hlt (fun e => hne e.symm)]
  exact hbk
 have d0 : w2.cell? ⟨b, 0, none⟩ = some (.pointer (some ⟨b, 0, none⟩)) := by rw [Lib.cell_of_heap hb2]; rfl
 have d1 : w2.cell? ⟨b, 1, none⟩ = some v := by rw [Lib.cell_of_heap hb2]; rfl
 have f1 : w2.frozen? ⟨b, 1, none⟩ = false := Lib.frozen_of_heap hb2 1
 obtain ⟨ao, n', cap, rfl⟩ : ∃ ao n' cap, v' = .slice ao n' cap := by
  rcases hown'.2 with ⟨hv, _⟩ | ⟨g, cap, cur, fz, hv, _⟩
  ·exact ⟨_, _, _, hv⟩
  ·exact ⟨_, _, _, hv⟩
 go_wp2
 go_ret2
 refine ⟨rfl, ?_, ?_, (hk1.grown hgrow (Lib.ownsRowF_kind hown)).setCell ⟨b, 1, none⟩ rfl _⟩
 ·exact Lib.BuilderAtF.put (T := 125) (e := 5) hB hb2 (bs' := bs ++ Lib.strCells s) (by simpa [Lib.strCells_length] using hown') (by decide)
 ·exact (hb1.grown hgrow (by have := hb1.size; omega) (fun k hk => (hown.lt k hk).1)).setCell (p := ⟨b, 1, none⟩) hB _
end
end Rv
namespace Rv
open Go Go.RowKit Go.Proofs
noncomputable section
set_option maxRecDepth 1000000
set_option maxHeartbeats 4000000 in
theorem grow_k (B b n : Nat) (w : World) (hB : B ≤ b) (hbk : w.heap[b]? = some (.cells #[.pointer none, .slice none 0 0] 125 (0, 0))) (hBw : B ≤ w.heap.size) (hn : n ≤ 281474976710656) :
  Calls Tryz.prog 82 #[.pointer (some ⟨b, 0, none⟩), .int .i64 n] w fun e w' => e = .returned (.tuple #[]) ∧ (Lib.BuilderAt 125 5 B b (.pointer (some ⟨b, 0, none⟩)) [] w' ∧ Below B w w') := by
 have hbk1 : (w.setCell ⟨b, 0, none⟩ (.pointer (some ⟨b, 0, none⟩))).heap[b]? = some (.cells #[.pointer (some ⟨b, 0, none⟩), .slice none 0 0] 125 (0, 0)) := by
  simp [World.setCell, Array.getElem?_modify, hbk]
 have c1 : (w.setCell ⟨b, 0, none⟩ (.pointer (some ⟨b, 0, none⟩))).cell? ⟨b, 1, none⟩ = some (.slice none 0 0) := by rw [Lib.cell_of_heap hbk1]; rfl
 have hb1 : Below B w (w.setCell ⟨b, 0, none⟩ (.pointer (some ⟨b, 0, none⟩))) := (Below.refl B w).setCell (p := ⟨b, 0, none⟩) hB _
 have hU : Lib.BuilderAt 125 5 B b (.pointer (some ⟨b, 0, none⟩)) [] (w.setCell ⟨b, 0, none⟩ (.pointer (some ⟨b, 0, none⟩))) := ⟨hB, .slice none 0 0, hbk1, World.ownsRow_nil _ _ _ _, by simp [Value.ownBlock]⟩
 have c1' : (w.setCell ⟨b, 0, none⟩ (.pointer (some ⟨b, 0, none⟩))).drew.cell? ⟨b, 1, none⟩ = some (.slice none 0 0) := c1
 have mixed : Tryz.prog.follows .mixedOrders = true := by kernel_rfl
 go_enter Tryz.func82, Tryz.ntmps82
 go_wp2_with (go_at_call 127; refine (copyCheck_fresh b w (by rw [Lib.cell_of_heap hbk]; rfl) (by simp [World.shape?, hbk]) (Lib.frozen_of_heap hbk 0)).mono ?_; rintro e w' ⟨rfl, rfl⟩)
 go_region_o
 all_goals go_wp2_with (go_at_call 128; refine (Tryz.Builder_grow_fresh B b n (w.setCell ⟨b, 0, none⟩ (.pointer (some ⟨b, 0, none⟩))).drew hB hbk1 (by simpa [World.setCell, World.drew, -World.drew_eq] using hBw) hn).mono ?_; rintro e w' ⟨rfl, h1, h2⟩)
 all_goals first
  | (go_end0; exact ⟨rfl, h1, hb1.drew.trans h2⟩)
  | (go_end0; exact ⟨rfl, hU.drew, hb1.drew⟩)
theorem hidR {p : Prop} (h : p) : Hid p := h
noncomputable abbrev TB : TypeId := 125
noncomputable abbrev TU : TypeId := 5
theorem writeS (B b : Nat) (bs : List Value) (s : ByteArray) (w : World) (h : Lib.IsBuilderF 125 5 B b bs w) (hlen : bs.length + s.size ≤ 140737488355328) (hBw : B ≤ w.heap.size) :
  Calls Tryz.prog 83 #[.pointer (some ⟨b, 0, none⟩), .string s] w fun e w' => e = .returned (.tuple #[.int .i64 s.size, .nilIface]) ∧ (Lib.IsBuilderF 125 5 B b (bs ++ Lib.strCells s) w' ∧ Below B w w') :=
 (writeString_k B b bs s w h hlen hBw).mono fun e w' ⟨h1, h2, h3, _⟩ => ⟨h1, Or.inr h2, h3⟩
set_option maxHeartbeats 16000000 in
theorem replace_some (s old new : ByteArray) (m : Int) (w : World) (hs : s.size < 4294967281) (hm : w.cell? ⟨0, 0, none⟩ = some (.int .i64 m)) (h1 : 1 ≤ old.size) (hne : old ≠ new) (hc0 : Lib.countB s old ≠ 0)
  (hlen : s.size + Lib.countB s old * new.size ≤ 140737488355328) :
  Calls Tryz.prog 196 #[.string s, .string old, .string new, .int .i64 (-1)] w fun e w' =>
   e = .returned (.string ⟨(Lib.replaceK old.data.toList new.data.toList (Lib.replaceNum s.data.toList old.data.toList (-1)) s.data.toList).toArray⟩) ∧ Below w.heap.size w w' := by
 have hC := Tryz.strings_Count_any s old m w hs hm h1
 have hmul := Lib.countB_mul_le old h1 s.size s (Nat.le_refl _)
 obtain ⟨K, hK⟩ : ∃ K : Nat, Lib.replaceNum s.data.toList old.data.toList (-1) = K := ⟨_, rfl⟩
 rw [hK]
 obtain ⟨cn, hcn⟩ : ∃ cn : Nat, Lib.countB s old = cn := ⟨_, rfl⟩
 rw [hcn] at hC hlen hc0 hmul
 have hcn' : Lib.count s.data.toList old.data.toList = cn := hcn
 have hbeq : (old.toList == new.toList) = false := (Lib.bytes_beq_false_iff old new).2 hne
 have hcz : ((cn : Int) == 0) = false := beq_eq_false_iff_ne.2 (by omega)
 have ho0 : (0 : Int) < (old.size : Int) := by omega
 have hlenL : s.data.toList.length = s.size := (Lib.size_eq s).symm
 have hlenO : old.data.toList.length = old.size := (Lib.size_eq old).symm
 have hgl : 0 < w.heap.size := World.block_lt_of_cell? _ _ hm
 obtain rfl : K = cn := by
  unfold Lib.replaceNum at hK
  rw [hcn', if_pos (Or.inl (by decide))] at hK
  exact hK.symm
 have hK1 : 1 ≤ K := by omega
 have hKo : K * old.size ≤ s.size := hmul
 have hKs : K ≤ s.size := Nat.le_trans (Nat.le_mul_of_pos_right K (by omega)) hKo
 have hga := Lib.grow_arg s.size K new.size old.size hK1 hKo hlen
 have hKcount : K ≤ Lib.count (s.data.toList.drop 0) old.data.toList := by rw [List.drop_zero, hcn']; exact Nat.le_refl _
 clear hK hcn hcn' hmul
 have hod : decide (0 < old.size) = true := decide_eq_true (by omega)
 go_enter Tryz.func196, Tryz.ntmps196
 go_wp2_with (first | (go_at_call 103; refine hC.mono ?_; rintro e w' ⟨rfl, hw⟩; rw [hw]) | (go_at_call 82; try rw [hga]; refine (grow_k w.heap.size w.heap.size _ _ (Nat.le_refl _) (heap_alloc_new w _) (by simp) (by omega)).mono ?_))
 rintro e w1 ⟨rfl, hb0, hb1⟩
 clear hC
 have H1 := hidR (Lib.IsBuilderF.of (Or.inr hb0 : Lib.IsBuilder TB TU w.heap.size w.heap.size (Lib.byteCells []) w1))
 have Hb1 := hidR (((Below.refl w.heap.size w).alloc (Nat.le_refl _) _).trans hb1)
 clear hb0 hb1 hga
 go_wp2_with fail
 go_loopg [11, 53] K (fun g s11 s53 wx => ∃ (i start : Nat) (acc : List UInt8), s53 = .int .i64 i ∧ s11 = .int .i64 start ∧ i + g = K ∧ start ≤ s.size ∧
  Hid (Lib.IsBuilderF TB TU w.heap.size w.heap.size (Lib.byteCells acc) wx) ∧ Hid (Below w.heap.size w wx) ∧ Hid (acc ++ Lib.replaceK old.data.toList new.data.toList g (s.data.toList.drop start) = Lib.replaceK old.data.toList new.data.toList K s.data.toList) ∧
  g ≤ Lib.count (s.data.toList.drop start) old.data.toList ∧ acc.length + (s.size - start) + g * new.size ≤ s.size + K * new.size)
 case atStart => exact ⟨0, 0, [], rfl, rfl, by omega, Nat.zero_le _, H1, Hb1, hidR (by simp), hKcount, by simp⟩
 case round =>
  obtain ⟨i, start, acc, rfl, rfl, hig, hst, HB, HW, HR, hgc, hbd⟩ := hrel
  have hBw : w.heap.size ≤ wr.heap.size := HW.out.size
  have c1 : (0 : Int) ≤ (start : Int) := by omega
  have c2 : (start : Int) ≤ (s.size : Int) := by omega
  cases gk with
  | zero =>
   have hiK : ¬ ((i : Int) < (K : Int)) := by omega
   go_wp2_with fail
   refine (writeS w.heap.size w.heap.size _ _ wr HB.out (by rw [Lib.byteCells_length, ByteArray.size_extract]; omega) hBw).mono ?_
   rintro e w3 ⟨rfl, h3, hb3⟩
   rw [Lib.strCells_eq, Lib.extract_to_end, ← Lib.byteCells_append] at h3
   have hfin : acc ++ s.data.toList.drop start = Lib.replaceK old.data.toList new.data.toList K s.data.toList := HR.out
   rw [hfin] at h3
   have H3 := hidR h3
   have Hb3 := hidR (HW.out.trans hb3)
   have hBw3 : w.heap.size ≤ w3.heap.size := Hb3.out.size
   clear h3 hb3 hfin
   go_wp2_with fail
   refine (Tryz.Builder_String_any_k w.heap.size w.heap.size _ w3 H3.out hBw3).mono ?_
   rintro e w5 ⟨rfl, _, hb5, _⟩
   have Hb5 := hidR (Hb3.out.trans hb5)
   clear hb5
   go_wp2
   go_ret
   exact ⟨rfl, Hb5.out⟩
  | succ g =>
   have hiK : (i : Int) < (K : Int) := by omega
   obtain ⟨j, hj⟩ := Lib.index_of_count (s := s.data.toList.drop start) (old := old.data.toList) (by omega)
   have hroom : j + old.size ≤ s.size - start := by
    have := Lib.index_room (s.data.toList.drop start) old.data.toList (by rw [hj]; omega)
    rw [hj, List.length_drop, hlenL, hlenO] at this
    omega
   have hmr : wr.cell? ⟨0, 0, none⟩ = some (.int .i64 m) := by rw [HW.out.cell (p := ⟨0, 0, none⟩) hgl]; exact hm
   have hsucc : (g + 1) * new.size = g * new.size + new.size := Nat.succ_mul _ _
   have c3 : (start : Int) ≤ (start : Int) + (j : Int) := by omega
   have c4 : (start : Int) + (j : Int) ≤ (s.size : Int) := by omega
   have hnext : Lib.byteCells acc ++ Lib.strCells (s.extract start (start + j)) ++ Lib.strCells new = Lib.byteCells (acc ++ (s.data.toList.drop start).take j ++ new.data.toList) := by
    rw [Lib.strCells_eq, Lib.strCells_eq, Lib.extract_data, Nat.add_sub_cancel_left, ← Lib.byteCells_append, ← Lib.byteCells_append]
   have hrep : (acc ++ (s.data.toList.drop start).take j ++ new.data.toList) ++ Lib.replaceK old.data.toList new.data.toList g (s.data.toList.drop (start + j + old.size)) = Lib.replaceK old.data.toList new.data.toList K s.data.toList := by
    rw [← HR.out, Lib.replaceK_hit _ _ g _ j hj, List.drop_drop, hlenO]
    simp only [List.append_assoc, Nat.add_assoc]
   have hcnt : g ≤ Lib.count (s.data.toList.drop (start + j + old.size)) old.data.toList := by
    have := Lib.count_hit (s := s.data.toList.drop start) (sub := old.data.toList) (i := j) (fun e => by rw [e] at hlenO; simp at hlenO; omega) hj
    rw [List.drop_drop, hlenO] at this
    rw [show start + j + old.size = start + (j + old.size) by omega]
    omega
   have htl : ((s.data.toList.drop start).take j).length = j := by rw [List.length_take, List.length_drop, hlenL]; omega
   have Hn := hidR hnext
   have Hrep := hidR hrep
   clear hnext hrep HR
   go_wp2_with (first | (go_at_call 104; refine (Tryz.strings_Index _ _ m _ (by rw [ByteArray.size_extract]; omega) hmr).mono ?_; rintro e w' ⟨rfl, hw⟩; rw [hw, Lib.extract_to_end, hj]))
   refine (writeS w.heap.size w.heap.size _ (s.extract start (start + j)) wr HB.out (by rw [Lib.byteCells_length, ByteArray.size_extract]; omega) hBw).mono ?_
   rintro e w3 ⟨rfl, h3, hb3⟩
   have hBw3 : w.heap.size ≤ w3.heap.size := Nat.le_trans hBw hb3.size
   have H3 := hidR h3
   have Hb3 := hidR hb3
   clear h3 hb3
   go_wp2_with fail
   refine (writeS w.heap.size w.heap.size _ new w3 H3.out (by rw [List.length_append, Lib.byteCells_length, Lib.strCells_length, ByteArray.size_extract]; omega) hBw3).mono ?_
   rintro e w4 ⟨rfl, h4, hb4⟩
   rw [Hn.out] at h4
   have H4 := hidR h4
   have Hb4 := hidR ((HW.out.trans Hb3.out).trans hb4)
   clear h4 hb4
   go_wp2
   go_roundg g
   case measure => omega
   case rel => exact ⟨i + 1, start + j + old.size, _, by first | rfl | (simp; unfold wrap64; omega), by first | rfl | simp | (simp; unfold wrap64; omega), by omega, by omega, H4, Hb4, Hrep, hcnt, by simp only [List.length_append, htl, ← Lib.size_eq]; omega⟩
theorem replaceAll_k (s old new : ByteArray) (m : Int) (w : World) (hs : s.size < 4294967281) (hm : w.cell? ⟨0, 0, none⟩ = some (.int .i64 m)) (h1 : 1 ≤ old.size) (hne : old ≠ new) (hc0 : Lib.countB s old ≠ 0)
  (hlen : s.size + Lib.countB s old * new.size ≤ 140737488355328) :
  Calls Tryz.prog 161 #[.string s, .string old, .string new] w fun e w' =>
   e = .returned (.string ⟨(Lib.replaceK old.data.toList new.data.toList (Lib.replaceNum s.data.toList old.data.toList (-1)) s.data.toList).toArray⟩) ∧ Below w.heap.size w w' := by
 have c := replace_some s old new m w hs hm h1 hne hc0 hlen
 go_enter Tryz.func161, Tryz.ntmps161
 go_wp2_with (go_at_call 196; refine c.mono ?_; rintro e w' ⟨rfl, hw⟩)
 go_ret
 exact ⟨rfl, hw⟩
end
end Rv
namespace Rv
open Go Go.RowKit Go.Proofs Go.Maps
noncomputable section
set_option maxRecDepth 1000000
abbrev NK := Int × Int × Bool
noncomputable abbrev TW : TypeId := 115
noncomputable abbrev TM : TypeId := 112
noncomputable abbrev TS : TypeId := 9
noncomputable abbrev PP : Program := Tryz.prog
noncomputable def kv (k : NK) : Value := .agg #[.int .i64 k.1, .int .i64 k.2.1, .bool k.2.2]
noncomputable def klits (k : NK) : List Lit := [.int .i64 k.1, .int .i64 k.2.1, .bool k.2.2]
noncomputable def kl (k : NK) : Lit := .string (keyBytes (klits k))
def okK (k : NK) : Prop := (Lit.int .i64 k.1).wf = true ∧ (Lit.int .i64 k.2.1).wf = true
theorem wide_w : (match PP.underlying TW with | some (.array _ _) | some (.struct _) => true | _ => false) = true := by kernel_rfl
theorem key_w : PP.keyType TW = true := by kernel_rfl
theorem laid_out : laidOutB PP = true := by kernel_rfl
theorem nameLaw : Keyed PP TW := Keyed.of_law (deep_law_laid laid_out (m := 2) (by omega) (of_decide_eq_true (by kernel_rfl)) (by kernel_rfl) wide_w)
theorem cells_w : PP.cellsOf TW = 3 := by kernel_rfl
theorem fields_w : ∃ a b c, PP.underlying TW = some (.struct #[a, b, c]) ∧ a.name ≠ "_" ∧ b.name ≠ "_" ∧ c.name ≠ "_" ∧ a.offset = 0 ∧ b.offset = 1 ∧ c.offset = 2 ∧ a.type = 3 ∧ b.type = 3 ∧ c.type = 4 :=
 ⟨_, _, _, Tryz.underlying115, by decide, by decide, by decide, rfl, rfl, rfl, rfl, rfl, rfl⟩
theorem types_w : ∃ d, PP.types.size = d + 1 := by
 have h : decide (0 < PP.types.size) = true := by kernel_rfl
 exact ⟨PP.types.size - 1, by have := of_decide_eq_true h; omega⟩
theorem cells_i : PP.cellsOf 3 = 1 := by kernel_rfl
theorem cells_b : PP.cellsOf 4 = 1 := by kernel_rfl
theorem klits_of (k : NK) (h : okK k) : PP.keyLits (PP.types.size + 1) TW [.int .i64 k.1, .int .i64 k.2.1, .bool k.2.2] = some (klits k) := by
 obtain ⟨a, b, c, hu, n1, n2, n3, o1, o2, o3, t1, t2, t3⟩ := fields_w
 obtain ⟨d, hd⟩ := types_w
 rw [hd]
 have h1 := h.1
 have h2 := h.2
 unfold Program.keyLits
 simp only [hu, cells_w]
 rw [if_pos ⟨rfl, by simp [n1, n2, n3]⟩]
 simp only [List.mapM_cons, List.mapM_nil, o1, o2, o3, t1, t2, t3, cells_i, cells_b, List.drop_zero, List.drop_succ_cons, List.take_succ_cons, List.take_zero]
 unfold Program.keyLits
 simp only [Tryz.underlying3, Tryz.underlying4, h1, h2]
 rfl
theorem keyOf_kv (k : NK) (h : okK k) : keyOf PP TW (kv k) = some (kl k) := by
 obtain ⟨a, b, c, hu, _⟩ := fields_w
 unfold keyOf kv
 have hf : (Value.agg #[.int .i64 k.1, .int .i64 k.2.1, .bool k.2.2]).formed PP TW = true := by simp [Value.formed, hu, cells_w]
 simp only [hu, key_w, hf, Bool.and_self, if_true]
 show ((PP.keyLits (PP.types.size + 1) TW [.int .i64 k.1, .int .i64 k.2.1, .bool k.2.2]).map _) = _
 rw [klits_of k h]
 rfl
theorem keyOf_inv {v : Value} {l : Lit} (h : keyOf PP TW v = some l) : ∃ k, v = kv k ∧ okK k ∧ l = kl k := by
 obtain ⟨xs, L, rfl, hl, rfl⟩ := keyOf_top wide_w h
 obtain ⟨a, b, c, hu, n1, n2, n3, o1, o2, o3, t1, t2, t3⟩ := fields_w
 obtain ⟨d, hd⟩ := types_w
 rw [hd] at hl
 unfold Program.keyLits at hl
 simp only [hu, cells_w] at hl
 split at hl
 ·rename_i hc
  obtain ⟨xs⟩ := xs
  match xs, hc.1 with
  | [c0, c1, c2], _ =>
   simp only [List.mapM_cons, List.mapM_nil, o1, o2, o3, t1, t2, t3, cells_i, cells_b, List.drop_zero, List.drop_succ_cons, List.take_succ_cons, List.take_zero] at hl
   unfold Program.keyLits at hl
   simp only [Tryz.underlying3, Tryz.underlying4] at hl
   obtain ⟨k1, i1, rfl⟩ : ∃ k1 i1, c0 = .int k1 i1 := by
    cases c0 <;> first | exact ⟨_, _, rfl⟩ | (exfalso; simp at hl; done)
   obtain ⟨k2, i2, rfl⟩ : ∃ k2 i2, c1 = .int k2 i2 := by
    cases c1 <;> first | exact ⟨_, _, rfl⟩ | (exfalso; simp at hl; done)
   obtain ⟨b3, rfl⟩ : ∃ b3, c2 = .bool b3 := by
    cases c2 <;> first | exact ⟨_, rfl⟩ | (exfalso; simp at hl; done)
   by_cases e1 : k1 = .i64 ∧ (Lit.int .i64 i1).wf = true
   ·by_cases e2 : k2 = .i64 ∧ (Lit.int .i64 i2).wf = true
    ·obtain ⟨rfl, w1⟩ := e1
     obtain ⟨rfl, w2⟩ := e2
     refine ⟨(i1, i2, b3), rfl, ⟨w1, w2⟩, ?_⟩
     simp [w1, w2] at hl
     rw [← hl]
     rfl
    ·simp [e2] at hl
   ·simp [e1] at hl
 ·cases hl
theorem kl_inj {a b : NK} (ha : okK a) (hb : okK b) (h : kl a = kl b) : a = b := by
 have h1 := keyOf_kv a ha
 have h2 := keyOf_kv b hb
 rw [h] at h1
 have := nameLaw.inj h1 h2
 simp only [kv, Value.agg.injEq] at this
 obtain ⟨a1, a2, a3⟩ := a
 obtain ⟨b1, b2, b3⟩ := b
 simp at this
 obtain ⟨rfl, rfl, rfl⟩ := this
 rfl
def MapIs (w : World) (B n : Nat) (f : NK → Option Str) : Prop :=
 ∃ D : DataW Unit, w.ownsMap PP TW (plainElem PP TS) B n D ∧ (∀ l, has D l = true → ∃ k, okK k ∧ l = kl k ∧ (f k).isSome = true) ∧
  ∀ k s, f k = some s → okK k ∧ has D (kl k) = true ∧ ∀ zd, D.atKey (kl k) zd = .lit (.string s)
theorem MapIs.kept {w w' : World} {B n : Nat} {f : NK → Option Str} {row : Option Nat} (h : MapIs w B n f) (hg : w.grownBy w' row) (hne : some B ≠ row) : MapIs w' B n f := by
 obtain ⟨D, h1, h2⟩ := h
 exact ⟨D, h1.kept hg hne, h2⟩
theorem MapIs.same {w w' : World} {B n : Nat} {f : NK → Option Str} (h : MapIs w B n f) (hg : w'.heap[B]? = w.heap[B]?) : MapIs w' B n f := by
 obtain ⟨D, ⟨es, c, hb, r⟩, h2⟩ := h
 exact ⟨D, ⟨es, c, hg.trans hb, r⟩, h2⟩
theorem MapIs.lt {w : World} {B n : Nat} {f : NK → Option Str} (h : MapIs w B n f) : B < w.heap.size := by
 obtain ⟨D, h1, _⟩ := h
 exact h1.lt
theorem MapIs.made (w : World) : MapIs (w.alloc (.map #[] 0)) w.heap.size 0 (fun _ => none) :=
 ⟨.map [], World.ownsMap_made _ _ _ _, fun _ h => absurd h (by simp [has]), fun _ _ h => absurd h (by simp)⟩
theorem isMap_of {w : World} {B n : Nat} {D : DataW Unit} (h : w.ownsMap PP TW (plainElem PP TS) B n D) : IsMap D := by
 obtain ⟨es, c, _, _, _, rfl⟩ := h
 exact ⟨_, rfl⟩
theorem kl_key (k : NK) : WideAt.IsKeyLit (kl k) := trivial
theorem put_facts {D : DataW Unit} {f : NK → Option Str} (hD : IsMap D) (h1 : ∀ l, has D l = true → ∃ k, okK k ∧ l = kl k ∧ (f k).isSome = true)
  (h2 : ∀ k s, f k = some s → okK k ∧ has D (kl k) = true ∧ ∀ zd, D.atKey (kl k) zd = .lit (.string s)) (k : NK) (s : Str) (hk : okK k) :
  (∀ l, has (D.put (kl k) (.lit (.string s))) l = true → ∃ j, okK j ∧ l = kl j ∧ ((fun x => if x = k then some s else f x) j).isSome = true) ∧
  ∀ j r, (fun x => if x = k then some s else f x) j = some r → okK j ∧ has (D.put (kl k) (.lit (.string s))) (kl j) = true ∧ ∀ zd, (D.put (kl k) (.lit (.string s))).atKey (kl j) zd = .lit (.string r) := by
 refine ⟨fun l hl => ?_, fun j r hj => ?_⟩
 ·by_cases e : l = kl k
  ·exact ⟨k, hk, e, by simp⟩
  ·rw [has_put_other e] at hl
   obtain ⟨j, hj, rfl, hf⟩ := h1 l hl
   refine ⟨j, hj, rfl, ?_⟩
   show (if j = k then some s else f j).isSome = true
   split
   ·rfl
   ·exact hf
 ·by_cases e : j = k
  ·subst e
   simp at hj
   subst hj
   exact ⟨hk, has_put_same hD (kl_key _) _, fun zd => atKey_put_same hD (kl_key _) _ _⟩
  ·simp only [e, if_false] at hj
   obtain ⟨a1, a2, a3⟩ := h2 j r hj
   have hne : kl j ≠ kl k := fun e' => e (kl_inj a1 hk e')
   exact ⟨a1, by rw [has_put_other hne]; exact a2, fun zd => by rw [atKey_put_other hne]; exact a3 zd⟩
theorem under_m : PP.underlying TM = some (.map TW TS) := Tryz.underlying112
theorem under_s : PP.underlying TS = some .string := Tryz.underlying9
theorem MapIs.put {w : World} {B n : Nat} {f : NK → Option Str} (h : MapIs w B n f) (hn : n < 1000000) (k : NK) (s : Str) (hk : okK k) (hs : s.length ≤ 1000000) :
  ∃ w', (Instr.mapUpdate TM (.map (some B)) (kv k) (.string (mkS s))).run PP w = .ok () w' ∧ MapIs w' B (n + 1) (fun x => if x = k then some s else f x) ∧ w.grownBy w' (some B) := by
 obtain ⟨D, h1, h2, h3⟩ := h
 obtain ⟨w', hr, ho, hg⟩ := h1.update nameLaw under_m (by unfold maxLen; omega) (keyOf_kv k hk) (plainElem_string under_s (s := mkS s) (by show s.length ≤ maxLen; unfold maxLen; omega))
 obtain ⟨p1, p2⟩ := put_facts (isMap_of h1) h2 h3 k s hk
 exact ⟨w', hr, ⟨_, ho, p1, p2⟩, hg⟩
theorem elem_inv {v : Value} {z : DataW Unit × List MemPlace} (h : plainElem PP TS v = some z) : ∃ s : Str, v = .string (mkS s) ∧ z.1 = .lit (.string s) := by
 unfold plainElem at h
 rw [under_s] at h
 cases v <;> simp at h
 rename_i s
 exact ⟨s.data.toList, by simp [mkS], by rw [← h.2]⟩
theorem MapIs.look {w : World} {B n : Nat} {f : NK → Option Str} (h : MapIs w B n f) (k : NK) (hk : okK k) :
  (Instr.lookup TM (.map (some B)) (kv k) false).run PP w = .ok (.string (mkS ((f k).getD []))) w := by
 obtain ⟨D, h1, h2, h3⟩ := h
 have hz : (zeroValue TS).run PP w = .ok (.string (mkS [])) w := by kernel_rfl
 obtain ⟨v, ps, hr, hv⟩ := h1.lookup nameLaw under_m hz (plainElem_string under_s (s := mkS []) (by decide)) (keyOf_kv k hk)
 obtain ⟨s, rfl, hs⟩ := elem_inv hv
 rw [hr]
 have : s = (f k).getD [] := by
  simp only at hs
  cases hf : f k with
  | some r =>
   have := (h3 k r hf).2.2 (.lit (.string (mkS []).data.toList))
   rw [this] at hs
   simpa using hs.symm
  | none =>
   have hn : has D (kl k) = false := by
    cases hh : has D (kl k)
    ·rfl
    ·obtain ⟨j, hj, e, hf'⟩ := h2 _ hh
     rw [← kl_inj hk hj e, hf] at hf'
     cases hf'
   rw [atKey_of_not_has hn] at hs
   have := DataW.lit.inj hs
   exact (Lit.string.inj this).symm
 rw [this]
end
end Rv
namespace Rv
open Go Go.RowKit Go.Proofs Go.Maps
noncomputable section
set_option maxRecDepth 1000000
theorem any_order {P : Program} {ops : Array Oper} {Q : Exit → Act → World → Prop} (htext : textB 0 ops.toList = true) (Inv : (Nat → Bool) → Act → World → Prop)
  (hstep : ∀ b a w i o, Inv b a w → i < ops.size → ops[i]? = some o → b i = false → (∀ e, e ∈ o.after.toList → Region.binds .any e = true → b e.on = true) → wpOp P ops Q i (Inv (fun k => b k || decide (k = i))) a w)
  (hend : ∀ b a w, Inv b a w → (∀ i, i < ops.size → b i = true) → Q .normal a w) :
  ∀ (fuel : Nat) (listed : Array Bool) (a : Act) (w : World), listed.size = ops.size → ((List.range ops.size).filter fun i => !listed.getD i false).length ≤ fuel → Inv (fun k => listed.getD k false) a w → wpAny P .any ops Q fuel listed a w := by
 have none_ready : ∀ (listed : Array Bool), listed.size = ops.size → Region.ready .any ops listed = [] → ∀ i, i < ops.size → listed.getD i false = true := by
  intro listed hsz hr i hi
  by_cases h : listed.getD i false = true
  ·exact h
  ·obtain ⟨j, hj, hp, hmin⟩ := least (n := ops.size) (p := fun i => ¬ listed.getD i false = true) ⟨i, hi, h⟩
   exfalso
   have ho : ops[j]? = some ops[j] := by simp [hj]
   have : j ∈ Region.ready .any ops listed := by
    unfold Region.ready
    refine List.mem_filter.2 ⟨by simpa using hj, ?_⟩
    have hjl : j < listed.size := by omega
    simp only [Bool.and_eq_true, Bool.not_eq_true']
    refine ⟨?_, ?_⟩
    ·rw [getD_eq hjl]
     simpa using hp
    ·rw [ho]
     simp only [Option.map_some, Option.getD_some]
     rw [Array.all_eq_true']
     intro e he
     by_cases hb : Region.binds .any e = true
     ·have hlt := textB_sound htext j ops[j] (by simpa using ho) e (by simpa using he) hb
      have := hmin e.on (by omega)
      simp only [Decidable.not_not] at this
      simp [this]
     ·simp only [Bool.not_eq_true] at hb
      simp [hb]
   rw [hr] at this
   simp at this
 intro fuel
 induction fuel with
 | zero =>
  intro listed a w hsz hcnt hI
  have hall : ∀ i, i < ops.size → listed.getD i false = true := fun i hi => by
   by_cases h : listed.getD i false = true
   ·exact h
   ·have : i ∈ (List.range ops.size).filter fun i => !listed.getD i false := List.mem_filter.2 ⟨by simpa using hi, by simpa using h⟩
    have h0 := List.length_pos_of_mem this
    omega
  refine ⟨?_, hend _ a w hI hall⟩
  unfold Region.ready
  refine List.filter_eq_nil_iff.2 fun i hi => ?_
  have hi' : i < ops.size := by simpa using hi
  have := hall i hi'
  rw [getD_eq (by omega : i < listed.size), this]
  simp
 | succ fuel ih =>
  intro listed a w hsz hcnt hI
  refine ⟨fun hr => hend _ a w hI (none_ready listed hsz hr), fun i hi => ?_⟩
  unfold Region.ready at hi
  obtain ⟨hi1, hi2⟩ := List.mem_filter.1 hi
  have hin : i < ops.size := by simpa using hi1
  have hil : i < listed.size := by omega
  simp only [Bool.and_eq_true, Bool.not_eq_true'] at hi2
  obtain ⟨hi2, hi3⟩ := hi2
  have hoff : listed.getD i false = false := by rw [← getD_eq hil]; exact hi2
  have ho : ops[i]? = some ops[i] := by simp [hin]
  rw [ho] at hi3
  simp only [Option.map_some, Option.getD_some] at hi3
  rw [Array.all_eq_true'] at hi3
  have hset : ∀ k, (listed.setIfInBounds i true).getD k false = (listed.getD k false || decide (k = i)) := fun k => by
   simp only [Array.getD_eq_getD_getElem?, Array.getElem?_setIfInBounds]
   by_cases h : i = k
   ·subst h; simp [hil]
   ·have h' : ¬ k = i := fun e => h e.symm
    simp [h, h']
  refine wpOp_mono ?_ (hstep _ a w i ops[i] hI hin ho hoff fun e he hb => by
   have := hi3 e (by simpa using he)
   simpa [hb] using this)
  intro a' w' hI'
  refine ih _ a' w' (by simpa using hsz) ?_ ?_
  ·have hlt : ((List.range ops.size).filter fun k => !(listed.setIfInBounds i true).getD k false).length < ((List.range ops.size).filter fun k => !listed.getD k false).length := by
    have e : ((List.range ops.size).filter fun k => !(listed.setIfInBounds i true).getD k false) = (((List.range ops.size).filter fun k => !listed.getD k false).filter fun k => decide (k ≠ i)) := by
     rw [List.filter_filter]
     refine List.filter_congr fun k _ => ?_
     rw [hset]
     by_cases h : k = i <;> simp [h]
    rw [e]
    refine List.length_filter_lt_length_iff_exists.2 ⟨i, List.mem_filter.2 ⟨by simpa using hin, by simp only [hoff]; rfl⟩, by simp⟩
   omega
  ·have : (fun k => (listed.setIfInBounds i true).getD k false) = fun k => listed.getD k false || decide (k = i) := by funext k; exact hset k
   rw [this]
   exact hI'
theorem wpOp_of {P : Program} {ops : Array Oper} {Q : Exit → Act → World → Prop} {K : Act → World → Prop} {a : Act} {w : World} {i : Nat} {o : Oper} (ho : ops[i]? = some o) (hg : o.guard = none) (h : o.wp P a w K Q) : wpOp P ops Q i K a w := by
 unfold wpOp
 rw [ho]
 have : Region.wanted o (yielded ops a.tmps) = true := by simp [Region.wanted, hg]
 simp only [this, if_true]
 exact Or.inl h
def laidF {ι : Type} (ins : List (ι × NK × Str)) (b : ι → Bool) (x : NK) : Option Str := ins.findSome? fun e => if e.2.1 = x ∧ b e.1 = true then some e.2.2 else none
theorem laidF_skip {ι : Type} [DecidableEq ι] {ins : List (ι × NK × Str)} {b : ι → Bool} {i : ι} (h : ∀ e ∈ ins, e.1 ≠ i) (x : NK) : laidF ins (fun k => b k || decide (k = i)) x = laidF ins b x := by
 unfold laidF
 induction ins with
 | nil => rfl
 | cons e l ih =>
  have h0 := h e (by simp)
  simp only [List.findSome?_cons, h0, decide_false, Bool.or_false]
  rw [ih fun e he => h e (by simp [he])]
theorem laidF_none {ι : Type} {ins : List (ι × NK × Str)} {b : ι → Bool} {x : NK} (h : ∀ e ∈ ins, e.2.1 ≠ x) : laidF ins b x = none := by
 unfold laidF
 refine List.findSome?_eq_none_iff.2 fun e he => ?_
 simp [h e he]
theorem laidF_put {ι : Type} [DecidableEq ι] {ins : List (ι × NK × Str)} (hk : ins.Pairwise fun a b => a.2.1 ≠ b.2.1) (hi : ins.Pairwise fun a b => a.1 ≠ b.1) {b : ι → Bool} {e : ι × NK × Str} (he : e ∈ ins) (x : NK) :
  laidF ins (fun k => b k || decide (k = e.1)) x = if x = e.2.1 then some e.2.2 else laidF ins b x := by
 induction ins with
 | nil => simp at he
 | cons d l ih =>
  obtain ⟨k1, k2⟩ := List.pairwise_cons.1 hk
  obtain ⟨i1, i2⟩ := List.pairwise_cons.1 hi
  have c : ∀ b', laidF (d :: l) b' x = if d.2.1 = x ∧ b' d.1 = true then some d.2.2 else laidF l b' x := fun b' => by
   unfold laidF
   rw [List.findSome?_cons]
   by_cases h : d.2.1 = x ∧ b' d.1 = true <;> simp [h]
  rw [c, c]
  rcases List.mem_cons.1 he with rfl | hl
  ·by_cases hx : x = e.2.1
   ·subst hx; simp
   ·have hx' : ¬ e.2.1 = x := fun h => hx h.symm
    simp only [hx, hx', false_and, if_false]
    exact laidF_skip (fun d hd => (i1 d hd).symm) x
  ·have hne : d.1 ≠ e.1 := i1 e hl
   have hke : d.2.1 ≠ e.2.1 := k1 e hl
   rw [ih k2 i2 hl]
   simp only [hne, decide_false, Bool.or_false]
   by_cases hd : d.2.1 = x ∧ b d.1 = true
   ·have : ¬ x = e.2.1 := fun h => hke (hd.1.trans h)
    rw [if_pos hd, if_neg this, if_pos hd]
   ·rw [if_neg hd, if_neg hd]
theorem laidF_congr {ι : Type} {ins : List (ι × NK × Str)} {b b' : ι → Bool} (h : ∀ e ∈ ins, b e.1 = b' e.1) (x : NK) : laidF ins b x = laidF ins b' x := by
 unfold laidF
 induction ins with
 | nil => rfl
 | cons e l ih =>
  rw [List.findSome?_cons, List.findSome?_cons, ih fun e he => h e (by simp [he]), h e (by simp)]
theorem countP_sub {b : Nat → Bool} {i : Nat} (h : b i = false) : ∀ {l : List Nat}, l.Nodup → i ∈ l → l.countP b + 1 ≤ l.countP (fun k => b k || decide (k = i))
 | [], _, hi => by simp at hi
 | k :: l, hn, hi => by
  obtain ⟨h1, h2⟩ := List.nodup_cons.1 hn
  by_cases e : k = i
  ·subst e
   have : l.countP b ≤ l.countP (fun j => b j || decide (j = k)) := List.countP_mono_left fun j _ hj => by simp [hj]
   simp only [List.countP_cons, h, decide_true, Bool.or_true, if_true]
   simp only [Bool.false_eq_true, if_false]
   omega
  ·have hil : i ∈ l := by
    rcases List.mem_cons.1 hi with e' | h'
    ·exact absurd e'.symm e
    ·exact h'
   have := countP_sub h h2 hil
   simp only [List.countP_cons, e, decide_false, Bool.or_false]
   omega
theorem countP_add {b : Nat → Bool} {i : Nat} (h : b i = false) : ∀ {l : List Nat}, l.Nodup → l.countP (fun k => b k || decide (k = i)) ≤ l.countP b + 1
 | [], _ => by simp
 | k :: l, hn => by
  obtain ⟨h1, h2⟩ := List.nodup_cons.1 hn
  by_cases e : k = i
  ·subst e
   have : l.countP (fun j => b j || decide (j = k)) = l.countP b := by
    refine List.countP_congr fun j hj => ?_
    have : j ≠ k := fun e => h1 (e ▸ hj)
    simp [this]
   simp [List.countP_cons, this, h]
  ·have := countP_add h h2
   simp only [List.countP_cons, e, decide_false, Bool.or_false]
   omega
def rowStr (k : NK) : Str := ((L.nameRows.find? fun e => e.1 == k).map (·.2)).getD []
def ins : List (Nat × NK × Str) := [(2, (1, 0, false), rowStr (1, 0, false)), (4, (1, 0, true), rowStr (1, 0, true)), (6, (1, 8, true), rowStr (1, 8, true)), (8, (3, 0, false), rowStr (3, 0, false)), (10, (4, 0, false), rowStr (4, 0, false)),
 (12, (5, 0, false), rowStr (5, 0, false)), (17, (7, 0, false), rowStr (7, 0, false)), (22, (7, 0, true), rowStr (7, 0, true)), (24, (8, 0, false), rowStr (8, 0, false)), (26, (9, 0, false), rowStr (9, 0, false)), (28, (10, 0, false), rowStr (10, 0, false))]
def conds : Str := [77, 73, 32, 69, 81, 32, 67, 83, 32, 86, 83, 32, 76, 83, 32, 76, 84, 32, 76, 69, 32, 46, 32, 80, 76, 32, 78, 69, 32, 67, 67, 32, 86, 67, 32, 72, 73, 32, 71, 69, 32, 71, 84, 32, 78, 86]
noncomputable def mid : List (Nat × Nat × Value) := [(1, 3, kv (1, 0, false)), (3, 4, kv (1, 0, true)), (5, 5, kv (1, 8, true)), (7, 6, kv (3, 0, false)), (9, 7, kv (4, 0, false)), (11, 8, kv (5, 0, false)), (13, 9, kv (7, 0, false)),
 (14, 10, .string (mkS conds)), (15, 11, .string (mkS ((rowStr (7, 0, false)).drop 1))), (16, 12, .string (mkS (rowStr (7, 0, false)))), (18, 13, kv (7, 0, true)), (19, 14, .string (mkS conds)), (20, 15, .string (mkS ((rowStr (7, 0, true)).drop 2))), (21, 16, .string (mkS (rowStr (7, 0, true)))),
 (23, 17, kv (8, 0, false)), (25, 18, kv (9, 0, false)), (27, 19, kv (10, 0, false))]
noncomputable def slots (B : Nat) : List (Nat × Nat × Value) := (0, 2, .map (some B)) :: (mid ++ [(29, 20, .map (some B)), (30, 0, .map (some B))])
def dep0 : List Nat := [2, 4, 6, 8, 10, 12, 17, 22, 24, 26, 28, 29, 30]
structure RInv (w : World) (a0 : Act) (b : Nat → Bool) (a : Act) (w' : World) : Prop where
 act : ∃ ts, a = { a0 with tmps := ts } ∧ ts.size = 21
 cnd : a.eval (.tmp 1) = .string (mkS conds)
 below : Below w.heap.size w w'
 early : ∀ i ∈ dep0, b i = true → b 0 = true
 map : ∃ B, (b 0 = true → w.heap.size ≤ B ∧ ∃ n f, n ≤ (List.range 31).countP b ∧ MapIs w' B n f ∧ ∀ x, f x = laidF ins b x) ∧ ∀ i d v, (i, d, v) ∈ slots B → b i = true → a.eval (.tmp d) = v
variable {w w' : World} {a0 a : Act} {b : Nat → Bool}
theorem eval_put {a : Act} {d : Nat} {v : Value} (h : d < a.tmps.size) (t : Nat) : (a.put (some d) v).eval (.tmp t) = if t = d then v else a.eval (.tmp t) := by
 show (a.tmps.setIfInBounds d v).getD t undef = _
 by_cases e : t = d
 ·subst e
  simp [Array.getD_eq_getD_getElem?, Array.getElem?_setIfInBounds, h]
 ·have e' : ¬ d = t := fun x => e x.symm
  rw [if_neg e]
  show _ = a.tmps.getD t undef
  simp [Array.getD_eq_getD_getElem?, Array.getElem?_setIfInBounds, e']
theorem range31 : (List.range 31).Nodup := by decide
theorem inj_map {α : Type} {f : α → Nat} : ∀ {l : List α}, (l.map f).Nodup → ∀ x ∈ l, ∀ y ∈ l, f x = f y → x = y
 | [], _, _, hx, _, _, _ => by simp at hx
 | c :: l, h, x, hx, y, hy, e => by
  rw [List.map_cons, List.nodup_cons] at h
  rcases List.mem_cons.1 hx with ex | hx'
  ·rcases List.mem_cons.1 hy with ey | hy'
   ·rw [ex, ey]
   ·exact absurd (List.mem_map.2 ⟨y, hy', by rw [← e, ex]⟩) h.1
  ·rcases List.mem_cons.1 hy with ey | hy'
   ·exact absurd (List.mem_map.2 ⟨x, hx', by rw [e, ey]⟩) h.1
   ·exact inj_map h.2 x hx' y hy' e
theorem slots_fun (B : Nat) : ∀ x ∈ slots B, ∀ y ∈ slots B, x.2.1 = y.2.1 → x = y :=
 inj_map (f := fun x : Nat × Nat × Value => x.2.1) (by
  have : (slots B).map (fun x : Nat × Nat × Value => x.2.1) = [2, 3, 4, 5, 6, 7, 8, 9, 10, 11, 12, 13, 14, 15, 16, 17, 18, 19, 20, 0] := rfl
  rw [this]; decide)
theorem slots_one (B : Nat) : ∀ x ∈ slots B, ∀ y ∈ slots B, x.1 = y.1 → x = y :=
 inj_map (f := fun x : Nat × Nat × Value => x.1) (by
  have : (slots B).map (fun x : Nat × Nat × Value => x.1) = [0, 1, 3, 5, 7, 9, 11, 13, 14, 15, 16, 18, 19, 20, 21, 23, 25, 27, 29, 30] := rfl
  rw [this]; decide)
theorem slots_free (B : Nat) : ∀ x ∈ slots B, x.2.1 ≠ 1 ∧ x.2.1 < 21 := by
 have h : (slots B).map (fun x : Nat × Nat × Value => x.2.1) = [2, 3, 4, 5, 6, 7, 8, 9, 10, 11, 12, 13, 14, 15, 16, 17, 18, 19, 20, 0] := rfl
 intro x hx
 have : x.2.1 ∈ (slots B).map (fun x : Nat × Nat × Value => x.2.1) := List.mem_map.2 ⟨x, hx, rfl⟩
 rw [h] at this
 generalize x.2.1 = n at this
 revert n
 decide
theorem RInv.pure (h : RInv w a0 b a w') {i d : Nat} {v : Value} (hv : ∀ B, (b 0 = true → ∀ B', a.eval (.tmp 2) = .map (some B') → B = B') → (i, d, v) ∈ slots B) (hi0 : i ≠ 0) (hi : ∀ e ∈ ins, e.1 ≠ i) (hb : b i = false) (he : i ∈ dep0 → b 0 = true)
  {w'' : World} (hm : ∀ B, B < w'.heap.size → w''.heap[B]? = w'.heap[B]?) (hbel : Below w.heap.size w' w'') : RInv w a0 (fun k => b k || decide (k = i)) (a.put (some d) v) w'' := by
 obtain ⟨⟨ts, rfl, hts⟩, hc, hbw, hea, B, hB, hs⟩ := h
 have hmem := hv B fun h0 B' hB' => by
  have := hs 0 2 (.map (some B)) (by simp [slots]) h0
  rw [this] at hB'
  simpa using hB'
 have hd := slots_free B _ hmem
 have hlt : d < ({ a0 with tmps := ts } : Act).tmps.size := by show d < ts.size; have := hd.2; simp only at this; omega
 refine ⟨⟨ts.setIfInBounds d v, rfl, by simpa using hts⟩, ?_, hbw.trans hbel, ?_, B, fun h0 => ?_, fun j e u hm' hj => ?_⟩
 ·rw [eval_put hlt, if_neg (fun e => hd.1 e.symm)]; exact hc
 ·intro j hj h
  simp only [Bool.or_eq_true, decide_eq_true_eq] at h ⊢
  rcases h with h | h
  ·exact Or.inl (hea j hj h)
  ·exact Or.inl (he (h ▸ hj))
 ·have h0' : b 0 = true := by
   simp only [Bool.or_eq_true, decide_eq_true_eq] at h0
   rcases h0 with h | h
   ·exact h
   ·exact absurd h.symm hi0
  obtain ⟨h1, n, f, hn, hM, hf⟩ := hB h0'
  refine ⟨h1, n, f, Nat.le_trans hn ?_, hM.same (hm B hM.lt), fun x => by rw [hf, laidF_skip hi]⟩
  exact List.countP_mono_left fun k _ hk => by simp [hk]
 ·rw [eval_put hlt]
  by_cases hed : e = d
  ·have := slots_fun B _ hm' _ hmem hed
   rw [if_pos hed]
   simp only [Prod.mk.injEq] at this
   exact this.2.2.symm
  ·rw [if_neg hed]
   refine hs j e u hm' ?_
   simp only [Bool.or_eq_true, decide_eq_true_eq] at hj
   rcases hj with h | h
   ·exact h
   ·subst h
    have := slots_one B _ hm' _ hmem rfl
    simp only [Prod.mk.injEq] at this
    exact absurd this.2.1 hed
theorem slots_any {B j e : Nat} {u : Value} (h : (j, e, u) ∈ slots B) : j = 0 ∨ j = 29 ∨ j = 30 ∨ ∀ B', (j, e, u) ∈ slots B' := by
 rcases List.mem_cons.1 h with h | h
 ·simp only [Prod.mk.injEq] at h; exact Or.inl h.1
 ·rcases List.mem_append.1 h with h | h
  ·exact Or.inr (Or.inr (Or.inr fun B' => List.mem_cons_of_mem _ (List.mem_append_left _ h)))
  ·rcases List.mem_cons.1 h with h | h
   ·simp only [Prod.mk.injEq] at h; exact Or.inr (Or.inl h.1)
   ·rcases List.mem_cons.1 h with h | h
    ·simp only [Prod.mk.injEq] at h; exact Or.inr (Or.inr (Or.inl h.1))
    ·simp at h
theorem RInv.make (h : RInv w a0 b a w') (hb : b 0 = false) : RInv w a0 (fun k => b k || decide (k = 0)) (a.put (some 2) (.map (some w'.heap.size))) (w'.alloc (.map #[] 0)) := by
 obtain ⟨⟨ts, rfl, hts⟩, hc, hbw, hea, B, hB, hs⟩ := h
 have hlt : 2 < ({ a0 with tmps := ts } : Act).tmps.size := by show 2 < ts.size; omega
 have hsz := hbw.size
 refine ⟨⟨ts.setIfInBounds 2 (.map (some w'.heap.size)), rfl, by simpa using hts⟩, ?_, hbw.alloc hsz _, fun _ _ _ => by simp, w'.heap.size, fun _ => ⟨hsz, 0, _, Nat.zero_le _, MapIs.made w', fun x => ?_⟩, fun j e u hm' hj => ?_⟩
 ·rw [eval_put hlt, if_neg (by decide)]; exact hc
 ·rw [laidF_skip (by decide)]
  unfold laidF
  refine (List.findSome?_eq_none_iff.2 fun e he => ?_).symm
  have : ¬ b e.1 = true := fun h => by
   have := hea e.1 ((by decide : ∀ e ∈ ins, e.1 ∈ dep0) e he) h
   rw [hb] at this; cases this
  simp [this]
 ·rw [eval_put hlt]
  by_cases hed : e = 2
  ·have := slots_fun _ _ hm' (0, 2, .map (some w'.heap.size)) (by simp [slots]) hed
   rw [if_pos hed]
   simp only [Prod.mk.injEq] at this
   exact this.2.2.symm
  ·rw [if_neg hed]
   simp only [Bool.or_eq_true, decide_eq_true_eq] at hj
   have hj0 : j ≠ 0 := fun e0 => by
    subst e0
    have := slots_one _ _ hm' (0, 2, .map (some w'.heap.size)) (by simp [slots]) rfl
    simp only [Prod.mk.injEq] at this
    exact hed this.2.1
   have hbj : b j = true := hj.resolve_right hj0
   rcases slots_any hm' with h | h | h | h
   ·exact absurd h hj0
   ·have := hea 29 (by decide) (h ▸ hbj); rw [hb] at this; cases this
   ·have := hea 30 (by decide) (h ▸ hbj); rw [hb] at this; cases this
   ·exact hs j e u (h B) hbj
theorem RInv.lay (h : RInv w a0 b a w') {e : Nat × NK × Str} (he : e ∈ ins) (hb : b e.1 = false) (h0 : b 0 = true) {o : Oper} {K : Act → World → Prop} {Q : Exit → Act → World → Prop} {s : Nat} {x : Value}
  (hop : o.op = .insert TM (.tmp 2) (.tmp s) (.const x) ∨ ∃ u, o.op = .insert TM (.tmp 2) (.tmp s) (.tmp u) ∧ a.eval (.tmp u) = x) (hd : o.dst = none) (hk : a.eval (.tmp s) = kv e.2.1) (hx : x = .string (mkS e.2.2))
  (hok : ∀ e ∈ ins, okK e.2.1 ∧ e.2.2.length ≤ 1000000) (hK : ∀ w'', RInv w a0 (fun k => b k || decide (k = e.1)) a w'' → K a w'') : o.wp PP a w' K Q := by
 obtain ⟨ha, hc, hbw, hea, B, hB, hs⟩ := h
 obtain ⟨hle, n, f, hn, hM, hf⟩ := hB h0
 have hc31 : (List.range 31).countP b ≤ 31 := by simpa using (List.countP_le_length (l := List.range 31) (p := b))
 obtain ⟨w'', hrun, hM', hg⟩ := hM.put (by omega) e.2.1 e.2.2 (hok e he).1 (hok e he).2
 have h2 : a.eval (.tmp 2) = .map (some B) := hs 0 2 _ (by simp [slots]) h0
 have hfin : RInv w a0 (fun k => b k || decide (k = e.1)) a w'' := by
  refine ⟨ha, hc, hbw.grown hg (by have := hbw.size; omega) (fun j hj => by cases hj; exact hle), fun j hj h => ?_, B, fun _ => ⟨hle, n + 1, _, ?_, hM', fun x => ?_⟩, fun j d v hm hj => ?_⟩
  ·simp [h0]
  ·have := countP_sub (b := b) (i := e.1) hb range31 ((by decide : ∀ e ∈ ins, e.1 ∈ List.range 31) e he)
   omega
  ·rw [laidF_put (by decide) (by decide) he, hf]
  ·refine hs j d v hm ?_
   simp only [Bool.or_eq_true, decide_eq_true_eq] at hj
   rcases hj with h | h
   ·exact h
   ·exfalso
    have h1 : (slots B).map (fun x : Nat × Nat × Value => x.1) = [0, 1, 3, 5, 7, 9, 11, 13, 14, 15, 16, 18, 19, 20, 21, 23, 25, 27, 29, 30] := rfl
    have h2 : e.1 ∈ (slots B).map (fun x : Nat × Nat × Value => x.1) := List.mem_map.2 ⟨_, hm, h⟩
    rw [h1] at h2
    exact (by decide : ∀ e ∈ ins, e.1 ∉ [0, 1, 3, 5, 7, 9, 11, 13, 14, 15, 16, 18, 19, 20, 21, 23, 25, 27, 29, 30]) e he h2
 have hput : a.put o.dst undef = a := by rw [hd]; rfl
 subst hx
 have hcv : ∀ v, a.eval (.const v) = v := fun _ => rfl
 unfold Oper.wp
 rcases hop with hop | ⟨u, hop, hu⟩
 ·simp [execOp, hop, h2, hk, hcv, hrun, Result.andThen]
  rw [Oper.upon_skip, hput]; exact hK _ hfin
 ·simp [execOp, hop, h2, hk, hu, hrun, Result.andThen]
  rw [Oper.upon_skip, hput]; exact hK _ hfin
theorem rep_facts : (Lib.countB (mkS conds) ⟨#[32]⟩ ≠ 0) ∧ (mkS conds).size + Lib.countB (mkS conds) ⟨#[32]⟩ * 3 ≤ 140737488355328 := by
 have h : Lib.countB (mkS conds) ⟨#[32]⟩ = 15 := by decide +kernel
 rw [h]; exact ⟨by decide, by decide⟩
theorem rep_b : Lib.replaceK [32] [32, 66] (Lib.replaceNum conds [32] (-1)) conds = (rowStr (7, 0, false)).drop 1 := by decide +kernel
theorem rep_bl : Lib.replaceK [32] [32, 66, 76] (Lib.replaceNum conds [32] (-1)) conds = (rowStr (7, 0, true)).drop 2 := by decide +kernel
theorem ins_ok : ∀ e ∈ ins, okK e.2.1 ∧ e.2.2.length ≤ 1000000 := by
 unfold okK
 decide +kernel
def rowF (x : NK) : Option Str := (L.nameRows.find? fun e => e.1 == x).map (·.2)
theorem lt31 {i : Nat} (h : i < 31) : i = 0 ∨ i = 1 ∨ i = 2 ∨ i = 3 ∨ i = 4 ∨ i = 5 ∨ i = 6 ∨ i = 7 ∨ i = 8 ∨ i = 9 ∨ i = 10 ∨ i = 11 ∨ i = 12 ∨ i = 13 ∨ i = 14 ∨ i = 15 ∨ i = 16 ∨ i = 17 ∨ i = 18 ∨ i = 19 ∨ i = 20 ∨ i = 21 ∨ i = 22 ∨ i = 23 ∨ i = 24 ∨ i = 25 ∨ i = 26 ∨ i = 27 ∨ i = 28 ∨ i = 29 ∨ i = 30 := by omega
theorem rep_false (n k : Nat) : (Array.replicate n false).getD k false = false := by
 simp only [Array.getD_eq_getD_getElem?, Array.getElem?_replicate]
 split <;> rfl
theorem upon_of {o : Oper} {K : Act → World → Prop} {Q : Exit → Act → World → Prop} {v : Value} {w1 w2 : World} (h : (execOp a.eval o).run PP w1 = .ok (.value v) w2) (hK : K (a.put o.dst v) w2) : o.wp PP a w1 K Q := by
 unfold Oper.wp
 rw [h]
 exact hK
theorem upon_call {o : Oper} {K : Act → World → Prop} {Q : Exit → Act → World → Prop} {f : FuncId} {args : Array Value} {w1 : World} (h : (execOp a.eval o).run PP w1 = .ok (.enter f args) w1)
  (hC : Calls PP f args w1 fun e w2 => ∃ v, e = .returned v ∧ K (a.put o.dst v) w2) : o.wp PP a w1 K Q := by
 unfold Oper.wp
 rw [h]
 exact hC.mono fun e w2 ⟨v, he, hk⟩ => by subst he; exact hk
theorem mem_mid {B : Nat} {x : Nat × Nat × Value} (h : x ∈ mid) : x ∈ slots B := List.mem_cons_of_mem _ (List.mem_append_left _ h)
theorem RInv.slot (h : RInv w a0 b a w') {i d : Nat} {v : Value} (hm : (i, d, v) ∈ mid) (hb : b i = true) : a.eval (.tmp d) = v := by
 obtain ⟨B, _, hs⟩ := h.map
 exact hs i d v (mem_mid hm) hb
theorem enter_rep : ∀ args w, (callFunc 161 args).run PP w = .ok (.enter 161 args) w := enters_of Tryz.func161 (by kernel_rfl) rfl
theorem build_1 (a : Act) (w : World) : (execOp a.eval { dst := some 3, op := Op.build TW #[(0, Operand.const (Value.int IntKind.i64 1)), (1, Operand.const (Value.int IntKind.i64 0)), (2, Operand.const (Value.bool false))], type := TW, pos := "name.go:53", after := #[], guard := none }).run PP w = .ok (.value (kv (1, 0, false))) w := by kernel_rfl
theorem build_3 (a : Act) (w : World) : (execOp a.eval { dst := some 4, op := Op.build TW #[(0, Operand.const (Value.int IntKind.i64 1)), (1, Operand.const (Value.int IntKind.i64 0)), (2, Operand.const (Value.bool true))], type := TW, pos := "name.go:53", after := #[], guard := none }).run PP w = .ok (.value (kv (1, 0, true))) w := by kernel_rfl
theorem build_5 (a : Act) (w : World) : (execOp a.eval { dst := some 5, op := Op.build TW #[(0, Operand.const (Value.int IntKind.i64 1)), (1, Operand.const (Value.int IntKind.i64 8)), (2, Operand.const (Value.bool true))], type := TW, pos := "name.go:53", after := #[], guard := none }).run PP w = .ok (.value (kv (1, 8, true))) w := by kernel_rfl
theorem build_7 (a : Act) (w : World) : (execOp a.eval { dst := some 6, op := Op.build TW #[(0, Operand.const (Value.int IntKind.i64 3)), (1, Operand.const (Value.int IntKind.i64 0)), (2, Operand.const (Value.bool false))], type := TW, pos := "name.go:53", after := #[], guard := none }).run PP w = .ok (.value (kv (3, 0, false))) w := by kernel_rfl
theorem build_9 (a : Act) (w : World) : (execOp a.eval { dst := some 7, op := Op.build TW #[(0, Operand.const (Value.int IntKind.i64 4)), (1, Operand.const (Value.int IntKind.i64 0)), (2, Operand.const (Value.bool false))], type := TW, pos := "name.go:53", after := #[], guard := none }).run PP w = .ok (.value (kv (4, 0, false))) w := by kernel_rfl
theorem build_11 (a : Act) (w : World) : (execOp a.eval { dst := some 8, op := Op.build TW #[(0, Operand.const (Value.int IntKind.i64 5)), (1, Operand.const (Value.int IntKind.i64 0)), (2, Operand.const (Value.bool false))], type := TW, pos := "name.go:53", after := #[], guard := none }).run PP w = .ok (.value (kv (5, 0, false))) w := by kernel_rfl
theorem build_13 (a : Act) (w : World) : (execOp a.eval { dst := some 9, op := Op.build TW #[(0, Operand.const (Value.int IntKind.i64 7)), (1, Operand.const (Value.int IntKind.i64 0)), (2, Operand.const (Value.bool false))], type := TW, pos := "name.go:53", after := #[], guard := none }).run PP w = .ok (.value (kv (7, 0, false))) w := by kernel_rfl
theorem build_18 (a : Act) (w : World) : (execOp a.eval { dst := some 13, op := Op.build TW #[(0, Operand.const (Value.int IntKind.i64 7)), (1, Operand.const (Value.int IntKind.i64 0)), (2, Operand.const (Value.bool true))], type := TW, pos := "name.go:53", after := #[], guard := none }).run PP w = .ok (.value (kv (7, 0, true))) w := by kernel_rfl
theorem build_23 (a : Act) (w : World) : (execOp a.eval { dst := some 17, op := Op.build TW #[(0, Operand.const (Value.int IntKind.i64 8)), (1, Operand.const (Value.int IntKind.i64 0)), (2, Operand.const (Value.bool false))], type := TW, pos := "name.go:53", after := #[], guard := none }).run PP w = .ok (.value (kv (8, 0, false))) w := by kernel_rfl
theorem build_25 (a : Act) (w : World) : (execOp a.eval { dst := some 18, op := Op.build TW #[(0, Operand.const (Value.int IntKind.i64 9)), (1, Operand.const (Value.int IntKind.i64 0)), (2, Operand.const (Value.bool false))], type := TW, pos := "name.go:53", after := #[], guard := none }).run PP w = .ok (.value (kv (9, 0, false))) w := by kernel_rfl
theorem build_27 (a : Act) (w : World) : (execOp a.eval { dst := some 19, op := Op.build TW #[(0, Operand.const (Value.int IntKind.i64 10)), (1, Operand.const (Value.int IntKind.i64 0)), (2, Operand.const (Value.bool false))], type := TW, pos := "name.go:53", after := #[], guard := none }).run PP w = .ok (.value (kv (10, 0, false))) w := by kernel_rfl
theorem add_16 (a : Act) (h : a.eval (.tmp 11) = .string (mkS ((rowStr (7, 0, false)).drop 1))) (w : World) : (execOp a.eval { dst := some 12, op := Op.binOp BinOp.add TS (Operand.const (Value.string ⟨#[66]⟩)) (Operand.tmp 11) TS, type := TS, pos := "name.go:53", after := #[{ on := 15, ground := Ground.data }], guard := none }).run PP w = .ok (.value (.string (mkS (rowStr (7, 0, false))))) w := by
 have hc : a.eval (.const (.string ⟨#[66]⟩)) = .string ⟨#[66]⟩ := rfl
 have ha : (⟨#[66]⟩ : ByteArray) ++ mkS ((rowStr (7, 0, false)).drop 1) = mkS (rowStr (7, 0, false)) := ByteArray.ext (by rw [ByteArray.data_append]; decide +kernel)
 simp only [execOp, h, hc]
 rw [← ha]
 rfl
theorem add_21 (a : Act) (h : a.eval (.tmp 15) = .string (mkS ((rowStr (7, 0, true)).drop 2))) (w : World) : (execOp a.eval { dst := some 16, op := Op.binOp BinOp.add TS (Operand.const (Value.string ⟨#[66, 76]⟩)) (Operand.tmp 15) TS, type := TS, pos := "name.go:53", after := #[{ on := 20, ground := Ground.data }], guard := none }).run PP w = .ok (.value (.string (mkS (rowStr (7, 0, true))))) w := by
 have hc : a.eval (.const (.string ⟨#[66, 76]⟩)) = .string ⟨#[66, 76]⟩ := rfl
 have ha : (⟨#[66, 76]⟩ : ByteArray) ++ mkS ((rowStr (7, 0, true)).drop 2) = mkS (rowStr (7, 0, true)) := ByteArray.ext (by rw [ByteArray.data_append]; decide +kernel)
 simp only [execOp, h, hc]
 rw [← ha]
 rfl
theorem call_15 (a : Act) (h : a.eval (.tmp 10) = .string (mkS conds)) (w : World) : (execOp a.eval { dst := some 11, op := Op.call { callee := Callee.value (Operand.func 161), args := #[Operand.tmp 10, Operand.const (Value.string ⟨#[32]⟩), Operand.const (Value.string ⟨#[32, 66]⟩)], argTypes := #[TS, TS, TS] }, type := TS, pos := "name.go:60", after := #[{ on := 14, ground := Ground.data }], guard := none }).run PP w = .ok (.enter 161 #[.string (mkS conds), .string ⟨#[32]⟩, .string ⟨#[32, 66]⟩]) w := by
 have hf : a.eval (.func 161) = .func (.func 161) #[] #[] := rfl
 have hc : ∀ v, a.eval (.const v) = v := fun _ => rfl
 simp [execOp, resolve, Deferred.ofValue, invoke, h, hf, hc, enter_rep]
theorem call_20 (a : Act) (h : a.eval (.tmp 14) = .string (mkS conds)) (w : World) : (execOp a.eval { dst := some 15, op := Op.call { callee := Callee.value (Operand.func 161), args := #[Operand.tmp 14, Operand.const (Value.string ⟨#[32]⟩), Operand.const (Value.string ⟨#[32, 66, 76]⟩)], argTypes := #[TS, TS, TS] }, type := TS, pos := "name.go:61", after := #[{ on := 19, ground := Ground.data }, { on := 15, ground := Ground.chain }], guard := none }).run PP w = .ok (.enter 161 #[.string (mkS conds), .string ⟨#[32]⟩, .string ⟨#[32, 66, 76]⟩]) w := by
 have hf : a.eval (.func 161) = .func (.func 161) #[] #[] := rfl
 have hc : ∀ v, a.eval (.const v) = v := fun _ => rfl
 simp [execOp, resolve, Deferred.ofValue, invoke, h, hf, hc, enter_rep]
theorem rows_all {b : Nat → Bool} (hb : ∀ e ∈ ins, b e.1 = true) (x : NK) : laidF ins b x = rowF x := by
 have h1 : laidF ins b x = ins.findSome? fun e => if e.2.1 = x then some e.2.2 else none := by
  unfold laidF
  revert hb
  generalize ins = l
  intro hb
  induction l with
  | nil => rfl
  | cons e l ih =>
   rw [List.findSome?_cons, List.findSome?_cons, ih fun e he => hb e (by simp [he])]
   simp [hb e (by simp)]
 have h2 : rowF x = (ins.map fun e => (e.2.1, e.2.2)).findSome? fun e => if e.1 = x then some e.2 else none := by
  have e : (ins.map fun e => (e.2.1, e.2.2)) = L.nameRows := by decide +kernel
  rw [e]
  unfold rowF
  generalize L.nameRows = l
  induction l with
  | nil => rfl
  | cons e l ih =>
   rw [List.find?_cons, List.findSome?_cons]
   by_cases h : e.1 = x
   ·simp [h]
   ·have : (e.1 == x) = false := by simpa using h
    simp only [this, h, if_false]
    exact ih
 rw [h1, h2, List.findSome?_map]
 rfl
set_option maxHeartbeats 8000000 in
theorem rows_walk (m : Int) (w : World) (hm : w.cell? ⟨0, 0, none⟩ = some (.int .i64 m)) :
  Calls PP 116 #[] w fun e w' => ∃ B, e = .returned (.map (some B)) ∧ w.heap.size ≤ B ∧ MapIs w' B 31 rowF ∧ Below w.heap.size w w' := by
 go_enter Tryz.func116, Tryz.ntmps116
 go_wp2
 refine wp_region_any (by kernel_rfl) ?_
 change wpAny _ _ _ _ _ _ _ (World.drew _)
 refine any_order (by kernel_rfl) (RInv w ⟨#[], []⟩) ?_ ?_ _ _ _ _ (by simp) (by decide) ?_
 ·
  intro b a w' i o hI hi ho hb hdep
  rcases lt31 (by simpa using hi) with rfl | rfl | rfl | rfl | rfl | rfl | rfl | rfl | rfl | rfl | rfl | rfl | rfl | rfl | rfl | rfl | rfl | rfl | rfl | rfl | rfl | rfl | rfl | rfl | rfl | rfl | rfl | rfl | rfl | rfl | rfl
  ·
   obtain rfl := Option.some.inj (ho.symm.trans (rfl : _ = some _))
   refine wpOp_of ho rfl ?_
   unfold Oper.wp
   exact hI.make hb
  ·
   obtain rfl := Option.some.inj (ho.symm.trans (rfl : _ = some _))
   refine wpOp_of ho rfl ?_
   exact upon_of (build_1 a w') (hI.pure (fun B _ => mem_mid (by simp [mid])) (by decide) (by decide) hb (fun h => absurd h (by decide)) (fun _ _ => rfl) (Below.refl _ _))
  ·
   obtain rfl := Option.some.inj (ho.symm.trans (rfl : _ = some _))
   refine wpOp_of ho rfl ?_
   have h0 : b 0 = true := hdep ⟨0, .data⟩ (by simp) rfl
   have hk : b 1 = true := hdep ⟨1, .data⟩ (by simp) rfl
   exact hI.lay (e := (2, (1, 0, false), rowStr (1, 0, false))) (by simp [ins]) hb h0 (Or.inl rfl) rfl (hI.slot (i := 1) (by simp [mid]) hk) rfl ins_ok (fun _ h => h)
  ·
   obtain rfl := Option.some.inj (ho.symm.trans (rfl : _ = some _))
   refine wpOp_of ho rfl ?_
   exact upon_of (build_3 a w') (hI.pure (fun B _ => mem_mid (by simp [mid])) (by decide) (by decide) hb (fun h => absurd h (by decide)) (fun _ _ => rfl) (Below.refl _ _))
  ·
   obtain rfl := Option.some.inj (ho.symm.trans (rfl : _ = some _))
   refine wpOp_of ho rfl ?_
   have h0 : b 0 = true := hdep ⟨0, .data⟩ (by simp) rfl
   have hk : b 3 = true := hdep ⟨3, .data⟩ (by simp) rfl
   exact hI.lay (e := (4, (1, 0, true), rowStr (1, 0, true))) (by simp [ins]) hb h0 (Or.inl rfl) rfl (hI.slot (i := 3) (by simp [mid]) hk) rfl ins_ok (fun _ h => h)
  ·
   obtain rfl := Option.some.inj (ho.symm.trans (rfl : _ = some _))
   refine wpOp_of ho rfl ?_
   exact upon_of (build_5 a w') (hI.pure (fun B _ => mem_mid (by simp [mid])) (by decide) (by decide) hb (fun h => absurd h (by decide)) (fun _ _ => rfl) (Below.refl _ _))
  ·
   obtain rfl := Option.some.inj (ho.symm.trans (rfl : _ = some _))
   refine wpOp_of ho rfl ?_
   have h0 : b 0 = true := hdep ⟨0, .data⟩ (by simp) rfl
   have hk : b 5 = true := hdep ⟨5, .data⟩ (by simp) rfl
   exact hI.lay (e := (6, (1, 8, true), rowStr (1, 8, true))) (by simp [ins]) hb h0 (Or.inl rfl) rfl (hI.slot (i := 5) (by simp [mid]) hk) rfl ins_ok (fun _ h => h)
  ·
   obtain rfl := Option.some.inj (ho.symm.trans (rfl : _ = some _))
   refine wpOp_of ho rfl ?_
   exact upon_of (build_7 a w') (hI.pure (fun B _ => mem_mid (by simp [mid])) (by decide) (by decide) hb (fun h => absurd h (by decide)) (fun _ _ => rfl) (Below.refl _ _))
  ·
   obtain rfl := Option.some.inj (ho.symm.trans (rfl : _ = some _))
   refine wpOp_of ho rfl ?_
   have h0 : b 0 = true := hdep ⟨0, .data⟩ (by simp) rfl
   have hk : b 7 = true := hdep ⟨7, .data⟩ (by simp) rfl
   exact hI.lay (e := (8, (3, 0, false), rowStr (3, 0, false))) (by simp [ins]) hb h0 (Or.inl rfl) rfl (hI.slot (i := 7) (by simp [mid]) hk) rfl ins_ok (fun _ h => h)
  ·
   obtain rfl := Option.some.inj (ho.symm.trans (rfl : _ = some _))
   refine wpOp_of ho rfl ?_
   exact upon_of (build_9 a w') (hI.pure (fun B _ => mem_mid (by simp [mid])) (by decide) (by decide) hb (fun h => absurd h (by decide)) (fun _ _ => rfl) (Below.refl _ _))
  ·
   obtain rfl := Option.some.inj (ho.symm.trans (rfl : _ = some _))
   refine wpOp_of ho rfl ?_
   have h0 : b 0 = true := hdep ⟨0, .data⟩ (by simp) rfl
   have hk : b 9 = true := hdep ⟨9, .data⟩ (by simp) rfl
   exact hI.lay (e := (10, (4, 0, false), rowStr (4, 0, false))) (by simp [ins]) hb h0 (Or.inl rfl) rfl (hI.slot (i := 9) (by simp [mid]) hk) rfl ins_ok (fun _ h => h)
  ·
   obtain rfl := Option.some.inj (ho.symm.trans (rfl : _ = some _))
   refine wpOp_of ho rfl ?_
   exact upon_of (build_11 a w') (hI.pure (fun B _ => mem_mid (by simp [mid])) (by decide) (by decide) hb (fun h => absurd h (by decide)) (fun _ _ => rfl) (Below.refl _ _))
  ·
   obtain rfl := Option.some.inj (ho.symm.trans (rfl : _ = some _))
   refine wpOp_of ho rfl ?_
   have h0 : b 0 = true := hdep ⟨0, .data⟩ (by simp) rfl
   have hk : b 11 = true := hdep ⟨11, .data⟩ (by simp) rfl
   exact hI.lay (e := (12, (5, 0, false), rowStr (5, 0, false))) (by simp [ins]) hb h0 (Or.inl rfl) rfl (hI.slot (i := 11) (by simp [mid]) hk) rfl ins_ok (fun _ h => h)
  ·
   obtain rfl := Option.some.inj (ho.symm.trans (rfl : _ = some _))
   refine wpOp_of ho rfl ?_
   exact upon_of (build_13 a w') (hI.pure (fun B _ => mem_mid (by simp [mid])) (by decide) (by decide) hb (fun h => absurd h (by decide)) (fun _ _ => rfl) (Below.refl _ _))
  ·
   obtain rfl := Option.some.inj (ho.symm.trans (rfl : _ = some _))
   refine wpOp_of ho rfl ?_
   unfold Oper.wp
   show Oper.upon PP _ a _ _ (.ok (.value (a.eval (.tmp 1))) w')
   rw [hI.cnd]
   exact hI.pure (fun B _ => mem_mid (by simp [mid])) (by decide) (by decide) hb (fun h => absurd h (by decide)) (fun _ _ => rfl) (Below.refl _ _)
  ·
   obtain rfl := Option.some.inj (ho.symm.trans (rfl : _ = some _))
   refine wpOp_of ho rfl ?_
   have hu : b 14 = true := hdep ⟨14, .data⟩ (by simp) rfl
   have hs := hI.slot (i := 14) (d := 10) (v := .string (mkS conds)) (by simp [mid]) hu
   have hm' : w'.cell? ⟨0, 0, none⟩ = some (.int .i64 m) := by rw [hI.below.cell (World.block_lt_of_cell? _ _ hm)]; exact hm
   refine upon_call (call_15 a hs w') ?_
   refine (replaceAll_k (mkS conds) ⟨#[32]⟩ ⟨#[32, 66]⟩ m w' (by decide) hm' (by decide) (fun h => absurd (congrArg ByteArray.size h) (by decide)) rep_facts.1 (Nat.le_trans (Nat.add_le_add_left (Nat.mul_le_mul_left _ (by decide)) _) rep_facts.2)).mono ?_
   rintro e w'' ⟨rfl, hbw⟩
   have hv : (⟨(Lib.replaceK _ _ (Lib.replaceNum (mkS conds).data.toList _ (-1)) (mkS conds).data.toList).toArray⟩ : ByteArray) = mkS ((rowStr (7, 0, false)).drop 1) := congrArg mkS rep_b
   exact ⟨_, congrArg (fun x => Ending.returned (Value.string x)) hv, hI.pure (fun B _ => mem_mid (by simp [mid])) (by decide) (by decide) hb (fun h => absurd h (by decide)) (fun B hB => hbw.block B hB) (hbw.mono hI.below.size)⟩
  ·
   obtain rfl := Option.some.inj (ho.symm.trans (rfl : _ = some _))
   refine wpOp_of ho rfl ?_
   have hu : b 15 = true := hdep ⟨15, .data⟩ (by simp) rfl
   have hs := hI.slot (i := 15) (d := 11) (v := .string (mkS ((rowStr (7, 0, false)).drop 1))) (by simp [mid]) hu
   exact upon_of (add_16 a hs w') (hI.pure (fun B _ => mem_mid (by simp [mid])) (by decide) (by decide) hb (fun h => absurd h (by decide)) (fun _ _ => rfl) (Below.refl _ _))
  ·
   obtain rfl := Option.some.inj (ho.symm.trans (rfl : _ = some _))
   refine wpOp_of ho rfl ?_
   have h0 : b 0 = true := hdep ⟨0, .data⟩ (by simp) rfl
   have hk : b 13 = true := hdep ⟨13, .data⟩ (by simp) rfl
   have hu : b 16 = true := hdep ⟨16, .data⟩ (by simp) rfl
   exact hI.lay (e := (17, (7, 0, false), rowStr (7, 0, false))) (by simp [ins]) hb h0 (Or.inr ⟨12, rfl, hI.slot (i := 16) (by simp [mid]) hu⟩) rfl (hI.slot (i := 13) (by simp [mid]) hk) rfl ins_ok (fun _ h => h)
  ·
   obtain rfl := Option.some.inj (ho.symm.trans (rfl : _ = some _))
   refine wpOp_of ho rfl ?_
   exact upon_of (build_18 a w') (hI.pure (fun B _ => mem_mid (by simp [mid])) (by decide) (by decide) hb (fun h => absurd h (by decide)) (fun _ _ => rfl) (Below.refl _ _))
  ·
   obtain rfl := Option.some.inj (ho.symm.trans (rfl : _ = some _))
   refine wpOp_of ho rfl ?_
   unfold Oper.wp
   show Oper.upon PP _ a _ _ (.ok (.value (a.eval (.tmp 1))) w')
   rw [hI.cnd]
   exact hI.pure (fun B _ => mem_mid (by simp [mid])) (by decide) (by decide) hb (fun h => absurd h (by decide)) (fun _ _ => rfl) (Below.refl _ _)
  ·
   obtain rfl := Option.some.inj (ho.symm.trans (rfl : _ = some _))
   refine wpOp_of ho rfl ?_
   have hu : b 19 = true := hdep ⟨19, .data⟩ (by simp) rfl
   have hs := hI.slot (i := 19) (d := 14) (v := .string (mkS conds)) (by simp [mid]) hu
   have hm' : w'.cell? ⟨0, 0, none⟩ = some (.int .i64 m) := by rw [hI.below.cell (World.block_lt_of_cell? _ _ hm)]; exact hm
   refine upon_call (call_20 a hs w') ?_
   refine (replaceAll_k (mkS conds) ⟨#[32]⟩ ⟨#[32, 66, 76]⟩ m w' (by decide) hm' (by decide) (fun h => absurd (congrArg ByteArray.size h) (by decide)) rep_facts.1 (Nat.le_trans (Nat.add_le_add_left (Nat.mul_le_mul_left _ (by decide)) _) rep_facts.2)).mono ?_
   rintro e w'' ⟨rfl, hbw⟩
   have hv : (⟨(Lib.replaceK _ _ (Lib.replaceNum (mkS conds).data.toList _ (-1)) (mkS conds).data.toList).toArray⟩ : ByteArray) = mkS ((rowStr (7, 0, true)).drop 2) := congrArg mkS rep_bl
   exact ⟨_, congrArg (fun x => Ending.returned (Value.string x)) hv, hI.pure (fun B _ => mem_mid (by simp [mid])) (by decide) (by decide) hb (fun h => absurd h (by decide)) (fun B hB => hbw.block B hB) (hbw.mono hI.below.size)⟩
  ·
   obtain rfl := Option.some.inj (ho.symm.trans (rfl : _ = some _))
   refine wpOp_of ho rfl ?_
   have hu : b 20 = true := hdep ⟨20, .data⟩ (by simp) rfl
   have hs := hI.slot (i := 20) (d := 15) (v := .string (mkS ((rowStr (7, 0, true)).drop 2))) (by simp [mid]) hu
   exact upon_of (add_21 a hs w') (hI.pure (fun B _ => mem_mid (by simp [mid])) (by decide) (by decide) hb (fun h => absurd h (by decide)) (fun _ _ => rfl) (Below.refl _ _))
  ·
   obtain rfl := Option.some.inj (ho.symm.trans (rfl : _ = some _))
   refine wpOp_of ho rfl ?_
   have h0 : b 0 = true := hdep ⟨0, .data⟩ (by simp) rfl
   have hk : b 18 = true := hdep ⟨18, .data⟩ (by simp) rfl
   have hu : b 21 = true := hdep ⟨21, .data⟩ (by simp) rfl
   exact hI.lay (e := (22, (7, 0, true), rowStr (7, 0, true))) (by simp [ins]) hb h0 (Or.inr ⟨16, rfl, hI.slot (i := 21) (by simp [mid]) hu⟩) rfl (hI.slot (i := 18) (by simp [mid]) hk) rfl ins_ok (fun _ h => h)
  ·
   obtain rfl := Option.some.inj (ho.symm.trans (rfl : _ = some _))
   refine wpOp_of ho rfl ?_
   exact upon_of (build_23 a w') (hI.pure (fun B _ => mem_mid (by simp [mid])) (by decide) (by decide) hb (fun h => absurd h (by decide)) (fun _ _ => rfl) (Below.refl _ _))
  ·
   obtain rfl := Option.some.inj (ho.symm.trans (rfl : _ = some _))
   refine wpOp_of ho rfl ?_
   have h0 : b 0 = true := hdep ⟨0, .data⟩ (by simp) rfl
   have hk : b 23 = true := hdep ⟨23, .data⟩ (by simp) rfl
   exact hI.lay (e := (24, (8, 0, false), rowStr (8, 0, false))) (by simp [ins]) hb h0 (Or.inl rfl) rfl (hI.slot (i := 23) (by simp [mid]) hk) rfl ins_ok (fun _ h => h)
  ·
   obtain rfl := Option.some.inj (ho.symm.trans (rfl : _ = some _))
   refine wpOp_of ho rfl ?_
   exact upon_of (build_25 a w') (hI.pure (fun B _ => mem_mid (by simp [mid])) (by decide) (by decide) hb (fun h => absurd h (by decide)) (fun _ _ => rfl) (Below.refl _ _))
  ·
   obtain rfl := Option.some.inj (ho.symm.trans (rfl : _ = some _))
   refine wpOp_of ho rfl ?_
   have h0 : b 0 = true := hdep ⟨0, .data⟩ (by simp) rfl
   have hk : b 25 = true := hdep ⟨25, .data⟩ (by simp) rfl
   exact hI.lay (e := (26, (9, 0, false), rowStr (9, 0, false))) (by simp [ins]) hb h0 (Or.inl rfl) rfl (hI.slot (i := 25) (by simp [mid]) hk) rfl ins_ok (fun _ h => h)
  ·
   obtain rfl := Option.some.inj (ho.symm.trans (rfl : _ = some _))
   refine wpOp_of ho rfl ?_
   exact upon_of (build_27 a w') (hI.pure (fun B _ => mem_mid (by simp [mid])) (by decide) (by decide) hb (fun h => absurd h (by decide)) (fun _ _ => rfl) (Below.refl _ _))
  ·
   obtain rfl := Option.some.inj (ho.symm.trans (rfl : _ = some _))
   refine wpOp_of ho rfl ?_
   have h0 : b 0 = true := hdep ⟨0, .data⟩ (by simp) rfl
   have hk : b 27 = true := hdep ⟨27, .data⟩ (by simp) rfl
   exact hI.lay (e := (28, (10, 0, false), rowStr (10, 0, false))) (by simp [ins]) hb h0 (Or.inl rfl) rfl (hI.slot (i := 27) (by simp [mid]) hk) rfl ins_ok (fun _ h => h)
  ·
   obtain rfl := Option.some.inj (ho.symm.trans (rfl : _ = some _))
   refine wpOp_of ho rfl ?_
   have h0 : b 0 = true := hdep ⟨0, .data⟩ (by simp) rfl
   obtain ⟨B, hB, hs⟩ := hI.map
   have h2 : a.eval (.tmp 2) = .map (some B) := hs 0 2 _ (by simp [slots]) h0
   unfold Oper.wp
   show Oper.upon PP _ a _ _ (.ok (.value (a.eval (.tmp 2))) w')
   rw [h2]
   exact hI.pure (fun B' h => by rw [h h0 B h2]; simp [slots]) (by decide) (by decide) hb (fun _ => h0) (fun _ _ => rfl) (Below.refl _ _)
  ·
   obtain rfl := Option.some.inj (ho.symm.trans (rfl : _ = some _))
   refine wpOp_of ho rfl ?_
   have h29 : b 29 = true := hdep ⟨29, .data⟩ (by simp) rfl
   have h0 : b 0 = true := hI.early 29 (by decide) h29
   obtain ⟨B, hB, hs⟩ := hI.map
   have h2 : a.eval (.tmp 2) = .map (some B) := hs 0 2 _ (by simp [slots]) h0
   have h20 : a.eval (.tmp 20) = .map (some B) := hs 29 20 _ (by simp [slots]) h29
   unfold Oper.wp
   show Oper.upon PP _ a _ _ (.ok (.value (a.eval (.tmp 20))) w')
   rw [h20]
   exact hI.pure (fun B' h => by rw [h h0 B h2]; simp [slots]) (by decide) (by decide) hb (fun _ => h0) (fun _ _ => rfl) (Below.refl _ _)
 ·
  intro b a w' hI hall
  obtain ⟨⟨ts, rfl, hts⟩, hc, hbw, hea, B, hB, hs⟩ := hI
  have h30 : ts.getD 0 undef = .map (some B) := hs 30 0 (.map (some B)) (by simp [slots]) (hall 30 (by decide))
  obtain ⟨hle, n, f, hn, hM, hf⟩ := hB (hall 0 (by decide))
  have hn31 : n ≤ 31 := Nat.le_trans hn (by simpa using (List.countP_le_length (l := List.range 31) (p := b)))
  have hf' : f = rowF := by
   funext x
   rw [hf]
   have hb' : ∀ e ∈ ins, b e.1 = true := fun e he => hall e.1 (by have := (by decide : ∀ e ∈ ins, e.1 < 31) e he; simpa using this)
   exact rows_all hb' x
  subst hf'
  obtain ⟨ts⟩ := ts
  match ts, hts with
  | [t0, t1, t2, t3, t4, t5, t6, t7, t8, t9, t10, t11, t12, t13, t14, t15, t16, t17, t18, t19, t20], _ =>
   have h30' : t0 = .map (some B) := h30
   subst h30'
   have hM' : MapIs w' B 31 rowF := by
    obtain ⟨D, h1, h2⟩ := hM
    exact ⟨D, h1.mono hn31, h2⟩
   go_wp2
   go_ret
   exact ⟨B, rfl, hle, hM', hbw⟩
 ·
  refine ⟨⟨_, rfl, rfl⟩, rfl, (Below.refl _ _).drew, fun i hi h => ?_, 0, fun h => ?_, fun i d v _ h => ?_⟩
  ·rw [rep_false] at h; cases h
  ·rw [rep_false] at h; cases h
  ·rw [rep_false] at h; cases h
end
end Rv
namespace Rv
open Go Go.RowKit Go.Proofs Go.Maps
noncomputable section
set_option maxRecDepth 1000000
theorem rows_facts : ∀ e ∈ L.nameRows, e.2.all (fun c => c.toNat < 128) = true ∧ (Lib.fields e.2).length ≤ 16 ∧ e.2.length < 100 := by decide +kernel
def rowOk (e : NK × Str) : Bool := (List.range (Lib.fields e.2).length).all fun i => L.nameTbl.any fun t => t == ((e.1, i), (e.1.1, e.1.2.1 + i, e.1.2.2), Lib.trimSuffix ((Lib.fields e.2).getD i []) [46])
theorem rows_ok : ∀ e ∈ L.nameRows, rowOk e = true := by decide +kernel
theorem rows_len : ∀ e ∈ L.nameRows, ∀ t ∈ L.nameTbl, t.1.1 = e.1 → t.1.2 < (Lib.fields e.2).length := by decide +kernel
theorem tbl_ok : ∀ t ∈ L.nameTbl, (∃ e ∈ L.nameRows, e.1 = t.1.1) ∧ t.2.2.length ≤ 10 := by decide +kernel
theorem tbl_keys : L.nameTbl.Pairwise fun a b => a.2.1 ≠ b.2.1 := by decide +kernel
theorem tbl_ids : L.nameTbl.Pairwise fun a b => a.1 ≠ b.1 := by decide +kernel
theorem rows_small : ∀ e ∈ L.nameRows, 0 ≤ e.1.1 ∧ e.1.1 ≤ 10 ∧ 0 ≤ e.1.2.1 ∧ e.1.2.1 ≤ 8 := by decide +kernel
theorem rowF_mem {x : NK} {s : Str} (h : rowF x = some s) : (x, s) ∈ L.nameRows := by
 unfold rowF at h
 obtain ⟨e, he, hs⟩ := Option.map_eq_some_iff.1 h
 have h1 := List.mem_of_find?_eq_some he
 have h2 := List.find?_some he
 have h3 : e.1 = x := by simpa using h2
 rw [← h3, ← hs]
 exact h1
def tblF (x : NK) : Option Str := laidF L.nameTbl (fun _ => true) x
theorem own_size {w : World} {B n : Nat} {D : DataW Unit} (h : w.ownsMap PP TW (plainElem PP TS) B n D) : Maps.size D ≤ n := by
 obtain ⟨es, c, _, _, hs, rfl⟩ := h
 simpa [Maps.size, length_sorted] using hs
structure KB where
 k : NK
theorem inv_k : ∀ key l, keyOf PP TW key = some l → ∃ x : KB, key = kv x.k := fun key l h => by obtain ⟨k, e, _⟩ := keyOf_inv h; exact ⟨⟨k⟩, e⟩
theorem keyOf_kv_inv {x : NK} {l : Lit} (h : keyOf PP TW (kv x) = some l) : okK x ∧ l = kl x := by
 obtain ⟨k, e, hok, hl⟩ := keyOf_inv h
 have : x = k := by
  obtain ⟨a1, a2, a3⟩ := x
  obtain ⟨b1, b2, b3⟩ := k
  simp [kv] at e
  obtain ⟨rfl, rfl, rfl⟩ := e
  rfl
 subst this
 exact ⟨hok, hl⟩
theorem inv_v : ∀ v y, plainElem (H := Unit) PP TS v = some y → ∃ s : Str, v = .string (mkS s) := fun v y h => by obtain ⟨s, e, _⟩ := elem_inv h; exact ⟨s, e⟩
def pOut (left : Lit → Bool) (e : NK × Nat) : Bool := !left (kl e.1)
def pIn (left : Lit → Bool) (cur : NK) (i : Nat) (e : NK × Nat) : Bool := if e.1 = cur then decide (e.2 < i) else !left (kl e.1)
theorem ld_i (W : World) (b o : Nat) (n : Int) (h : W.cell? ⟨b, o, none⟩ = some (.int .i64 n)) : (Instr.loadAt 3 (.pointer (some ⟨b, o, none⟩))).run PP W = .ok (.int .i64 n) W := by go_simp
theorem ld_b (W : World) (b o : Nat) (n : Bool) (h : W.cell? ⟨b, o, none⟩ = some (.bool n)) : (Instr.loadAt 4 (.pointer (some ⟨b, o, none⟩))).run PP W = .ok (.bool n) W := by go_simp
theorem fa_0 (W : World) (b : Nat) : (Instr.fieldAt TW (.pointer (some ⟨b, 0, none⟩)) 0).run PP W = .ok (.pointer (some ⟨b, 0, none⟩)) W := by go_simp
theorem fa_1 (W : World) (b : Nat) : (Instr.fieldAt TW (.pointer (some ⟨b, 0, none⟩)) 1).run PP W = .ok (.pointer (some ⟨b, 1, none⟩)) W := by go_simp
theorem fa_2 (W : World) (b : Nat) : (Instr.fieldAt TW (.pointer (some ⟨b, 0, none⟩)) 2).run PP W = .ok (.pointer (some ⟨b, 2, none⟩)) W := by go_simp
theorem bd_k (W : World) (k : NK) : (Instr.build TW #[(0, .int .i64 k.1), (1, .int .i64 k.2.1), (2, .bool k.2.2)]).run PP W = .ok (kv k) W := by kernel_rfl
theorem ad_i (W : World) (x y : Int) (c d : Operand) (h : -9223372036854775808 ≤ x + y ∧ x + y ≤ 9223372036854775807) : (do eqGuard .add 3 c d (.int .i64 x) (.int .i64 y); binOp .add 3 (.int .i64 x) (.int .i64 y) : Sem Value).run PP W = .ok (.int .i64 (x + y)) W := by
 go_simp
 rw [IntKind.wrap_i64]; omega
structure SInv (w1 : World) (t0 : Array Value) (sl : List (Nat × Nat × Value)) (Fin : World → Prop) (b : Nat → Bool) (a : Act) (w' : World) : Prop where
 act : ∃ ts, a = ⟨ts, []⟩ ∧ ts.size = 36
 same : ∀ t : Nat, t < 22 ∨ 33 < t → a.eval (.tmp t) = t0.getD t undef
 slot : ∀ j d v, (j, d, v) ∈ sl → b j = true → a.eval (.tmp d) = v
 cl : b 12 = true → ∀ j, j < 12 → b j = true
 wld : (b 12 = true → Fin w') ∧ (b 12 = false → w' = w1)
structure SlOk (sl : List (Nat × Nat × Value)) : Prop where
 one : sl.map (fun x => x.1) = [0, 1, 2, 3, 4, 5, 6, 7, 8, 9, 10, 11]
 two : sl.map (fun x => x.2.1) = [22, 23, 24, 25, 26, 27, 28, 29, 30, 31, 32, 33]
theorem SInv.pure {w1 w' : World} {t0 : Array Value} {a : Act} {sl : List (Nat × Nat × Value)} {Fin : World → Prop} {b : Nat → Bool} (h : SInv w1 t0 sl Fin b a w') (ok : SlOk sl) {i d : Nat} {v : Value} (hm : (i, d, v) ∈ sl) (hi : i < 12) (hb : b i = false) :
  SInv w1 t0 sl Fin (fun k => b k || decide (k = i)) (a.put (some d) v) w' := by
 obtain ⟨⟨ts, rfl, hts⟩, hsm, hs, hc, hw⟩ := h
 have hd : 22 ≤ d ∧ d ≤ 33 := by
  have h1 : d ∈ sl.map (fun x => x.2.1) := List.mem_map.2 ⟨_, hm, rfl⟩
  rw [ok.two] at h1
  exact (by decide : ∀ d ∈ [22, 23, 24, 25, 26, 27, 28, 29, 30, 31, 32, 33], 22 ≤ d ∧ d ≤ 33) d h1
 have hlt : d < (⟨ts, []⟩ : Act).tmps.size := by show d < ts.size; omega
 have h12 : b 12 = false := by
  cases e : b 12
  ·rfl
  ·rw [hc e i hi] at hb; cases hb
 have h12' : (b 12 || decide (12 = i)) = false := by
  have : ¬ 12 = i := by omega
  simp [h12, this]
 refine ⟨⟨ts.setIfInBounds d v, rfl, by simpa using hts⟩, fun t ht => ?_, fun j e u hj hbj => ?_, fun e => ?_, fun e => ?_, fun _ => hw.2 h12⟩
 ·have hne : t ≠ d := by omega
  rw [eval_put hlt, if_neg hne]; exact hsm t ht
 ·rw [eval_put hlt]
  by_cases hed : e = d
  ·have := inj_map (f := fun x : Nat × Nat × Value => x.2.1) (by rw [ok.two]; decide) _ hj _ hm hed
   rw [if_pos hed]
   simp only [Prod.mk.injEq] at this
   exact this.2.2.symm
  ·rw [if_neg hed]
   refine hs j e u hj ?_
   simp only [Bool.or_eq_true, decide_eq_true_eq] at hbj
   rcases hbj with h | h
   ·exact h
   ·subst h
    have := inj_map (f := fun x : Nat × Nat × Value => x.1) (by rw [ok.one]; decide) _ hj _ hm rfl
    simp only [Prod.mk.injEq] at this
    exact absurd this.2.1 hed
 ·rw [h12'] at e; cases e
 ·rw [h12'] at e; cases e
theorem vrun {s : Sem Value} {v : Value} {W : World} (h : s.run PP W = .ok v W) : (do pure (Next.value (← s)) : Sem Next).run PP W = .ok (.value v) W := by
 simp [h, Result.andThen]
theorem SInv.w12 {w1 w' : World} {t0 : Array Value} {a : Act} {sl : List (Nat × Nat × Value)} {Fin : World → Prop} {b : Nat → Bool} (h : SInv w1 t0 sl Fin b a w') {i : Nat} (hi : i < 12) (hb : b i = false) : w' = w1 := by
 refine h.wld.2 ?_
 cases e : b 12
 ·rfl
 ·rw [h.cl e i hi] at hb; cases hb
theorem SInv.lay {w1 w' : World} {t0 : Array Value} {a : Act} {sl : List (Nat × Nat × Value)} {B n : Nat} {f : NK → Option Str} {b : Nat → Bool} {k : NK} {s : Str} {K : Act → World → Prop} {Q : Exit → Act → World → Prop} {o : Oper}
  (h : SInv w1 t0 sl (fun w' => MapIs w' B (n + 1) (fun z => if z = k then some s else f z) ∧ w1.grownBy w' (some B)) b a w') (hb : b 12 = false) (hall : ∀ j, j < 12 → b j = true) (hM : MapIs w1 B n f) (hn : n < 1000000) (hk : okK k) (hs : s.length ≤ 1000000)
  (hop : o.op = .mapUpdate TM (.tmp 22) (.tmp 31) (.tmp 33)) (hd : o.dst = none) (h22 : a.eval (.tmp 22) = .map (some B)) (h31 : a.eval (.tmp 31) = kv k) (h33 : a.eval (.tmp 33) = .string (mkS s)) (ok : SlOk sl)
  (hK : ∀ w'', SInv w1 t0 sl (fun w' => MapIs w' B (n + 1) (fun z => if z = k then some s else f z) ∧ w1.grownBy w' (some B)) (fun k => b k || decide (k = 12)) a w'' → K a w'') : o.wp PP a w' K Q := by
 obtain ⟨ha, hsm, hsl, hc, hw⟩ := h
 obtain rfl := hw.2 hb
 obtain ⟨w'', hrun, hM', hg⟩ := hM.put hn k s hk hs
 have hput : a.put o.dst undef = a := by rw [hd]; rfl
 have hfin := hK w'' ⟨ha, hsm, fun j d v hj hbj => by
  refine hsl j d v hj ?_
  simp only [Bool.or_eq_true, decide_eq_true_eq] at hbj
  rcases hbj with h | h
  ·exact h
  ·exfalso
   have h2 : j ∈ sl.map (fun x => x.1) := List.mem_map.2 ⟨_, hj, rfl⟩
   rw [ok.one, h] at h2
   exact absurd h2 (by decide), fun _ j hj => by simp [hall j hj], fun _ => ⟨hM', hg⟩, fun e => by simp at e⟩
 unfold Oper.wp
 simp [execOp, hop, h22, h31, h33, hrun, Result.andThen]
 rw [Oper.upon_skip, hput]
 exact hfin
theorem enter_suf : ∀ args w, (callFunc 118 args).run PP w = .ok (.enter 118 args) w := enters_of Tryz.func118 (by kernel_rfl) rfl
theorem call_suf (a : Act) {s : Str} (h : a.eval (.tmp 32) = .string (mkS s)) (w : World) : (execOp a.eval { dst := some 33, op := Op.call { callee := Callee.value (Operand.func 118), args := #[Operand.tmp 32, Operand.const (Value.string ⟨#[46]⟩)], argTypes := #[TS, TS] }, type := TS, pos := "name.go:73", after := #[{ on := 10, ground := Ground.data }], guard := none }).run PP w = .ok (.enter 118 #[.string (mkS s), .string ⟨#[46]⟩]) w := by
 have hf : a.eval (.func 118) = .func (.func 118) #[] #[] := rfl
 have hc : ∀ v, a.eval (.const v) = v := fun _ => rfl
 simp [execOp, resolve, Deferred.ofValue, invoke, h, hf, hc, enter_suf]
theorem bld_9 (a : Act) {k : NK} (h1 : a.eval (.tmp 24) = .int .i64 k.1) (h2 : a.eval (.tmp 28) = .int .i64 k.2.1) (h3 : a.eval (.tmp 30) = .bool k.2.2) (w : World) : (execOp a.eval { dst := some 31, op := Op.build TW #[(0, Operand.tmp 24), (1, Operand.tmp 28), (2, Operand.tmp 30)], type := TW, pos := "name.go:73", after := #[{ on := 2, ground := Ground.data }, { on := 6, ground := Ground.data }, { on := 8, ground := Ground.data }], guard := none }).run PP w = .ok (.value (kv k)) w := by
 simp only [execOp, List.map_toArray, List.map_cons, List.map_nil]
 rw [h1, h2, h3]
 exact vrun (bd_k w k)
theorem rows_fl : ∀ e ∈ L.nameRows, ∀ s ∈ Lib.fields e.2, s.length ≤ 20 := by decide +kernel
theorem lt13 {i : Nat} (h : i < 13) : i = 0 ∨ i = 1 ∨ i = 2 ∨ i = 3 ∨ i = 4 ∨ i = 5 ∨ i = 6 ∨ i = 7 ∨ i = 8 ∨ i = 9 ∨ i = 10 ∨ i = 11 ∨ i = 12 := by omega
theorem cell_grown {w w' : World} {row : Option Nat} (hg : w.grownBy w' row) {p : Addr} {v : Value} (h : w.cell? p = some v) (hne : some p.block ≠ row) : w'.cell? p = some v := by
 have hlt := World.block_lt_of_cell? _ _ h
 rw [World.cell?_of_block (w := w) (hg.block p.block hlt hne)]; exact h
theorem rowF_of : ∀ e ∈ L.nameRows, rowF e.1 = some e.2 := by decide +kernel
structure Cl (x : NK) (fs : List Str) (S : Nat) (w : World) : Prop where
 c0 : w.cell? ⟨S, 0, none⟩ = some (.int .i64 x.1)
 c1 : w.cell? ⟨S, 1, none⟩ = some (.int .i64 x.2.1)
 c2 : w.cell? ⟨S, 2, none⟩ = some (.bool x.2.2)
 fs : ∀ (j : Nat) s, fs[j]? = some s → w.cell? ⟨S + 1, j, none⟩ = some (.string (mkS s))
theorem Cl.kept {x : NK} {fs : List Str} {S B : Nat} {w w' : World} (h : Cl x fs S w) (hg : w.grownBy w' (some B)) (hB : B < S) : Cl x fs S w' :=
 ⟨cell_grown hg h.c0 (by simp; omega), cell_grown hg h.c1 (by simp; omega), cell_grown hg h.c2 (by simp; omega), fun j s hj => cell_grown hg (h.fs j s hj) (by simp; omega)⟩
theorem Cl.made (x : NK) (fs : List Str) {w : World} {S : Nat} (hS : w.heap.size = S) : Cl x fs S ((w.alloc (.cells #[.int .i64 x.1, .int .i64 x.2.1, .bool x.2.2] TW)).alloc (.cells (fs.map fun l => Value.string ⟨l.toArray⟩).toArray TS)) := by
 have h1 : (w.alloc (.cells #[.int .i64 x.1, .int .i64 x.2.1, .bool x.2.2] TW)).heap.size = S + 1 := by simp [hS]
 have hA := (MapKept.heap_alloc w (.cells #[.int .i64 x.1, .int .i64 x.2.1, .bool x.2.2] TW)).1
 have hB := (MapKept.heap_alloc (w.alloc (.cells #[.int .i64 x.1, .int .i64 x.2.1, .bool x.2.2] TW)) (.cells (fs.map fun l => Value.string ⟨l.toArray⟩).toArray TS))
 have hA' := hB.2 S (by rw [h1]; omega)
 rw [← hS] at hA'
 rw [hA] at hA'
 rw [hS] at hA'
 have hB' := hB.1
 rw [h1] at hB'
 refine ⟨?_, ?_, ?_, fun j s hj => ?_⟩
 ·rw [Lib.cell_of_heap hA']; rfl
 ·rw [Lib.cell_of_heap hA']; rfl
 ·rw [Lib.cell_of_heap hA']; rfl
 ·rw [Lib.cell_of_heap hB']
  simp [hj, mkS]
set_option maxHeartbeats 8000000 in
theorem table_walk (m : Int) (w : World) (hm : w.cell? ⟨0, 0, none⟩ = some (.int .i64 m)) (htab : Lib.TabIs PP w "strings.asciiSpace" .u8 Lib.asciiSpaceTab) :
  Calls PP 72 #[] w fun e w' => ∃ B, e = .returned (.map (some B)) ∧ w.heap.size ≤ B ∧ MapIs w' B 100000 tblF ∧ Below w.heap.size w w' := by
 have hmm := @run_makeMap PP
 have hm1 : (w.alloc (.map #[] 0)).cell? ⟨0, 0, none⟩ = some (.int .i64 m) := by rw [((Below.refl w.heap.size w).alloc (Nat.le_refl _) _).cell (World.block_lt_of_cell? _ _ hm)]; exact hm
 go_enter Tryz.func72, Tryz.ntmps72
 go_wp2_with (first
  | (go_at_call 116; refine (rows_walk m _ hm1).mono ?_; rintro e wa ⟨Br, rfl, hBr, hMr, hba⟩; obtain ⟨D1, ho1, hD1, hD2⟩ := hMr)
  | (at_range; refine wpList_range_own _ rfl _ TM rfl TW TS nameLaw under_m _ Br 31 _ rfl ho1 ?_; intro w0 hrg0 hg0 hs0)
  | go_in)
 go_frame
 have hsz1 : (w.alloc (.map #[] 0)).heap.size = w.heap.size + 1 := by simp
 rw [hsz1] at hBr hba
 have hsa := hba.size
 rw [hsz1] at hsa
 obtain ⟨R, hR⟩ : ∃ R, R = wa.heap.size := ⟨_, rfl⟩
 rw [← hR] at hrg0 hs0 hsa ⊢
 have hbw0 : Below w.heap.size w w0 := (((Below.refl _ _).alloc (Nat.le_refl _) _).trans (hba.mono (Nat.le_succ _))).grown hg0 (by rw [← hR]; omega) (fun j hj => by cases hj)
 have hM0 : MapIs w0 w.heap.size 0 (fun _ => none) := ((MapIs.made w).same (hba.block _ (Nat.lt_succ_self _))).kept hg0 (by simp)
 have hsd : Maps.size D1 ≤ 31 := own_size ho1
 clear hm1 ho1 hba hR hsz1
 go_loopw [2] (fun _ wr => ∃ left cnt n f, wr.ranges PP TW (plainElem PP TS) Br R 31 D1 left cnt ∧ (∀ l, left l = true → has D1 l = true) ∧ MapIs wr w.heap.size n f ∧ n + 100 * cnt ≤ 3100 ∧ (∀ x, f x = laidF L.nameTbl (pOut left) x) ∧ Below w.heap.size w wr)
  (fun _ wr => wr.rangeLeft Br R)
 case atStart =>
  refine ⟨_, _, 0, _, hrg0, fun _ h => h, hM0, by omega, fun x => ?_, hbw0⟩
  unfold laidF
  refine (List.findSome?_eq_none_iff.2 fun t ht => ?_).symm
  obtain ⟨⟨e, he, hek⟩, _⟩ := tbl_ok t ht
  have h1 := (hD2 e.1 e.2 (rowF_of e he)).2.1
  rw [hek] at h1
  simp [pOut, h1]
 case round =>
  obtain ⟨left, cnt, n, f, hrg, hld, hM, hn, hf, hbw⟩ := hrel
  go_wp2_with (first
   | (at_next; refine wpList_next_ranges _ rfl _ rfl TW nameLaw (plainElem PP TS) (fun x : KB => kv x.k) (fun s : Str => Value.string (mkS s)) inv_k inv_v Br R 31 D1 left cnt rfl hrg ?_ ?_)
   | go_in)
  ·
   intro hc0 hl0
   go_wp2
   go_ret
   refine ⟨_, rfl, Nat.le_refl _, ?_, hbw⟩
   have : f = tblF := by
    funext x
    rw [hf]
    refine laidF_congr (fun e _ => ?_) x
    simp [pOut, hl0]
   subst this
   obtain ⟨D, h1, h2⟩ := hM
   exact ⟨D, h1.mono (by omega), h2⟩
  ·
   intro ⟨x⟩ c l ya yb w1 cnt1 hkx hlx hcv hat hrg1 hlt hg1 hs1 hen
   obtain ⟨hok, rfl⟩ := keyOf_kv_inv hkx
   obtain ⟨k', hok', hkl', hrf⟩ := hD1 _ (hld _ hlx)
   obtain rfl := kl_inj hok hok' hkl'
   obtain ⟨r, hr⟩ := Option.isSome_iff_exists.1 hrf
   obtain rfl : c = r := by
    obtain ⟨s, e1, e2⟩ := elem_inv hcv
    have e3 := (hD2 x r hr).2.2 (.lit (.bool false))
    rw [hat] at e3
    have e4 : s = r := by
     have := e2.symm.trans e3
     simpa using this
    have e5 : c = s := by
     have := congrArg (fun v => match v with | Value.string b => b.data.toList | _ => []) e1
     simpa [mkS] using this
    rw [e5, e4]
   simp only at hok hr hen hkx hlx
   have hmem := rowF_mem hr
   obtain ⟨hasc, hfl, hcl⟩ := rows_facts _ hmem
   simp only at hasc hfl hcl
   have hbw1 : Below w.heap.size w w1 := hbw.grown hg1 hbw.size (fun j hj => by cases hj; omega)
   have hen' : (Instr.entry (.pointer (some ⟨R, 0, none⟩))).run PP w1 = .ok (.tuple #[.agg #[.int .i64 x.1, .int .i64 x.2.1, .bool x.2.2], .string (mkS c)]) w1 := hen
   clear hen hcv hat hkx
   have hbw2 := hbw1.alloc hbw1.size (.cells #[.int .i64 x.1, .int .i64 x.2.1, .bool x.2.2] TW)
   have htab1 : Lib.TabIs PP (w1.alloc (.cells #[.int .i64 x.1, .int .i64 x.2.1, .bool x.2.2] TW)) "strings.asciiSpace" .u8 Lib.asciiSpaceTab := keepTab htab htab fun g hg => hbw2.block g hg
   have hF := Tryz.strings_Fields_laid (mkS c) _ (by show c.length < _; omega) (ascii_of_all hasc) htab1
   obtain ⟨fs, hfs⟩ : ∃ fs, Lib.fields c = fs := ⟨_, rfl⟩
   obtain ⟨S, hS⟩ : ∃ S, w1.heap.size = S := ⟨_, rfl⟩
   have hRS : R < S := hS ▸ hrg1.lt
   have hBS : Br < S := hS ▸ hrg1.owns.lt
   clear hs1
   have hF' : Calls PP 117 #[.string (mkS c)] (w1.alloc (.cells #[.int .i64 x.1, .int .i64 x.2.1, .bool x.2.2] TW)) fun e w' => e = .returned (.slice (some ⟨S + 1, 0, none⟩) fs.length fs.length) ∧
     w1.grownBy w' none ∧ S + 2 ≤ w'.heap.size ∧ Cl x fs S w' := by
    have e : (w1.alloc (.cells #[.int .i64 x.1, .int .i64 x.2.1, .bool x.2.2] TW)).heap.size = S + 1 := by simp [hS]
    rw [show Lib.fields (mkS c).data.toList = fs from hfs, e] at hF
    refine hF.mono ?_
    rintro e' w' ⟨rfl, rfl⟩
    exact ⟨rfl, (World.grownBy_alloc _ _ none).andThen (World.grownBy_alloc _ _ none) (by simp), by simp [hS], Cl.made x fs hS⟩
   clear hF htab1
   go_wp2_with (first
    | (go_at_call 117; refine hF'.mono ?_; rintro e w3 ⟨rfl, hg3, hs3, hcl3⟩)
    | go_in)
   have hrg3 := hrg1.kept hg3 (by simp) (by simp)
   have hM3 := (hM.kept hg1 (fun e => by have := Option.some.inj e; omega)).kept hg3 (by simp)
   have hbw3 := hbw1.grown hg3 hbw1.size (fun j hj => by cases hj)
   rw [hfs] at hfl
   have hpIn : ∀ z, laidF L.nameTbl (pOut left) z = laidF L.nameTbl (pIn (fun z => left z && !z.sameKey (kl x)) x 0) z := fun z => laidF_congr (fun t ht => by
    obtain ⟨⟨e, he, hek⟩, _⟩ := tbl_ok t ht
    unfold pOut pIn
    by_cases h : t.1.1 = x
    ·simp [h, hlx]
    ·have hne : kl t.1.1 ≠ kl x := fun e' => h (kl_inj (hek ▸ (hD2 e.1 e.2 (rowF_of e he)).1) hok e')
     simp [h, sameKey_ne hne]) z
   have hpEnd : ∀ z, laidF L.nameTbl (pIn (fun z => left z && !z.sameKey (kl x)) x fs.length) z = laidF L.nameTbl (pOut (fun z => left z && !z.sameKey (kl x))) z := fun z => laidF_congr (fun t ht => by
    unfold pOut pIn
    by_cases h : t.1.1 = x
    ·have := rows_len _ hmem t ht h
     simp only at this
     rw [hfs] at this
     simp [h, this, WideAt.sameKey_self (kl_key x)]
    ·simp [h]) z
   obtain ⟨left1, hl1⟩ : ∃ left1, (fun z : Lit => left z && !z.sameKey (kl x)) = left1 := ⟨_, rfl⟩
   rw [hl1] at hrg3 hpIn hpEnd
   have hld1 : ∀ l, left1 l = true → has D1 l = true := fun l h => by
    rw [← hl1] at h
    simp only [Bool.and_eq_true] at h
    exact hld l h.1
   clear hrg1 hg3 hg1 hF' hen' hbw2 hbw1 hS hl1
   go_loopw [17] (fun vi wx => ∃ (i n' : Nat) (f' : NK → Option Str), vi = .int .i64 i ∧ i ≤ fs.length ∧ wx.ranges PP TW (plainElem PP TS) Br R 31 D1 left1 cnt1 ∧ MapIs wx w.heap.size n' f' ∧ n' ≤ n + i ∧ (∀ z, f' z = laidF L.nameTbl (pIn left1 x i) z) ∧ Below w.heap.size w wx ∧ Cl x fs S wx)
    (fun vi wx => fs.length - (intOf vi).toNat)
   case atStart => exact ⟨0, n, f, rfl, Nat.zero_le _, hrg3, hM3, by omega, fun z => by rw [hf, hpIn], hbw3, hcl3⟩
   case round =>
    obtain ⟨i, n', f', rfl, hi, hrgx, hMx, hnx, hfx, hbx, hclx⟩ := hrel
    by_cases hlt' : i < fs.length
    ·have hci : (i : Int) < (fs.length : Int) := by omega
     obtain ⟨s, hsi⟩ : ∃ s, fs[i]? = some s := ⟨fs[i], by simp [hlt']⟩
     have hcf := hclx.fs i s hsi
     have hrow := rows_ok _ hmem
     have hent : ((x, i), (x.1, x.2.1 + i, x.2.2), Lib.trimSuffix s [46]) ∈ L.nameTbl := by
      unfold rowOk at hrow
      rw [List.all_eq_true] at hrow
      have := hrow i (by simp only [hfs]; simpa using hlt')
      obtain ⟨t, ht, e⟩ := List.any_eq_true.1 this
      have e' := eq_of_beq e
      simp only [hfs] at e'
      have hg : fs.getD i [] = s := by simp [List.getD, hsi]
      rw [hg] at e'
      rw [← e']; exact ht
     have hsmall := rows_small _ hmem
     simp only at hsmall
     have hkn : okK (x.1, x.2.1 + i, x.2.2) := ⟨hok.1, by show (Lit.int .i64 (x.2.1 + i)).wf = true; exact WalkArith.wf_i64 (by omega)⟩
     have hvl := (tbl_ok _ hent).2
     simp only at hvl
     have hsl : s.length ≤ 9223372036854775807 := Nat.le_trans (rows_fl _ hmem s (hfs ▸ List.mem_of_getElem? hsi)) (by decide)
     go_wp2
     refine wp_region_any (by kernel_rfl) ?_
     change wpAny _ _ _ _ _ _ _ (World.drew _)
     obtain ⟨sl, hsl0⟩ : ∃ sl : List (Nat × Nat × Value), sl = [(0, 22, .map (some w.heap.size)), (1, 23, .pointer (some ⟨S, 0, none⟩)), (2, 24, .int .i64 x.1), (3, 25, .pointer (some ⟨S, 1, none⟩)), (4, 26, .int .i64 x.2.1), (5, 27, .int .i64 i), (6, 28, .int .i64 (x.2.1 + i)),
      (7, 29, .pointer (some ⟨S, 2, none⟩)), (8, 30, .bool x.2.2), (9, 31, kv (x.1, x.2.1 + i, x.2.2)), (10, 32, .string (mkS s)), (11, 33, .string (mkS (Lib.trimSuffix s [46])))] := ⟨_, rfl⟩
     have ok : SlOk sl := by rw [hsl0]; exact ⟨rfl, rfl⟩
     have c0 : wr.drew.cell? ⟨S, 0, none⟩ = some (.int .i64 x.1) := hclx.c0
     have c1 : wr.drew.cell? ⟨S, 1, none⟩ = some (.int .i64 x.2.1) := hclx.c1
     have c2 : wr.drew.cell? ⟨S, 2, none⟩ = some (.bool x.2.2) := hclx.c2
     refine any_order (by kernel_rfl) (SInv wr.drew _ sl (fun w' => MapIs w' w.heap.size (n' + 1) (fun z => if z = (x.1, x.2.1 + i, x.2.2) then some (Lib.trimSuffix s [46]) else f' z) ∧ wr.drew.grownBy w' (some w.heap.size))) ?_ ?_ _ _ _ _ (by simp) (by decide)
      ⟨⟨_, rfl, rfl⟩, fun t _ => rfl, fun j d v _ h => (by rw [rep_false] at h; cases h), fun h => (by rw [rep_false] at h; cases h), fun h => (by rw [rep_false] at h; cases h), fun _ => rfl⟩
     ·
      intro b a w' j o hI hj ho hb hdep
      have e1 : a.eval (.tmp 1) = .map (some w.heap.size) := hI.same 1 (Or.inl (by decide))
      have e2 : a.eval (.tmp 2) = .pointer (some ⟨S, 0, none⟩) := hI.same 2 (Or.inl (by decide))
      have e4 : a.eval (.tmp 4) = .int .i64 i := hI.same 4 (Or.inl (by decide))
      have e5 : a.eval (.tmp 5) = .string (mkS s) := hI.same 5 (Or.inl (by decide))
      rcases lt13 (by simpa using hj) with rfl | rfl | rfl | rfl | rfl | rfl | rfl | rfl | rfl | rfl | rfl | rfl | rfl
      ·
       obtain rfl := Option.some.inj (ho.symm.trans (rfl : _ = some _))
       refine wpOp_of ho rfl ?_
       obtain rfl := hI.w12 (by decide) hb
       refine upon_of (v := .map (some w.heap.size)) (w2 := wr.drew) ?_ (hI.pure ok (by simp [hsl0]) (by decide) hb)
       show Result.ok (Next.value (a.eval (.tmp 1))) _ = _
       rw [e1]
      ·
       obtain rfl := Option.some.inj (ho.symm.trans (rfl : _ = some _))
       refine wpOp_of ho rfl ?_
       obtain rfl := hI.w12 (by decide) hb
       exact upon_of (vrun (s := Instr.fieldAt TW (a.eval (.tmp 2)) 0) (by rw [e2]; exact fa_0 _ _)) (hI.pure ok (by simp [hsl0]) (by decide) hb)
      ·
       obtain rfl := Option.some.inj (ho.symm.trans (rfl : _ = some _))
       refine wpOp_of ho rfl ?_
       have hd1 : b 1 = true := hdep ⟨1, .data⟩ (by simp) rfl
       have h23 : a.eval (.tmp 23) = .pointer (some ⟨S, 0, none⟩) := hI.slot 1 23 _ (by simp [hsl0]) hd1
       obtain rfl := hI.w12 (by decide) hb
       exact upon_of (vrun (s := Instr.loadAt 3 (a.eval (.tmp 23))) (by rw [h23]; exact ld_i _ _ _ _ c0)) (hI.pure ok (by simp [hsl0]) (by decide) hb)
      ·
       obtain rfl := Option.some.inj (ho.symm.trans (rfl : _ = some _))
       refine wpOp_of ho rfl ?_
       obtain rfl := hI.w12 (by decide) hb
       exact upon_of (vrun (s := Instr.fieldAt TW (a.eval (.tmp 2)) 1) (by rw [e2]; exact fa_1 _ _)) (hI.pure ok (by simp [hsl0]) (by decide) hb)
      ·
       obtain rfl := Option.some.inj (ho.symm.trans (rfl : _ = some _))
       refine wpOp_of ho rfl ?_
       have hd3 : b 3 = true := hdep ⟨3, .data⟩ (by simp) rfl
       have h25 : a.eval (.tmp 25) = .pointer (some ⟨S, 1, none⟩) := hI.slot 3 25 _ (by simp [hsl0]) hd3
       obtain rfl := hI.w12 (by decide) hb
       exact upon_of (vrun (s := Instr.loadAt 3 (a.eval (.tmp 25))) (by rw [h25]; exact ld_i _ _ _ _ c1)) (hI.pure ok (by simp [hsl0]) (by decide) hb)
      ·
       obtain rfl := Option.some.inj (ho.symm.trans (rfl : _ = some _))
       refine wpOp_of ho rfl ?_
       obtain rfl := hI.w12 (by decide) hb
       refine upon_of (v := .int .i64 i) (w2 := wr.drew) ?_ (hI.pure ok (by simp [hsl0]) (by decide) hb)
       show Result.ok (Next.value (a.eval (.tmp 4))) _ = _
       rw [e4]
      ·
       obtain rfl := Option.some.inj (ho.symm.trans (rfl : _ = some _))
       refine wpOp_of ho rfl ?_
       have hd4 : b 4 = true := hdep ⟨4, .data⟩ (by simp) rfl
       have hd5 : b 5 = true := hdep ⟨5, .data⟩ (by simp) rfl
       have h26 : a.eval (.tmp 26) = .int .i64 x.2.1 := hI.slot 4 26 _ (by simp [hsl0]) hd4
       have h27 : a.eval (.tmp 27) = .int .i64 i := hI.slot 5 27 _ (by simp [hsl0]) hd5
       obtain rfl := hI.w12 (by decide) hb
       exact upon_of (vrun (s := do eqGuard .add 3 (.tmp 26) (.tmp 27) (a.eval (.tmp 26)) (a.eval (.tmp 27)); binOp .add 3 (a.eval (.tmp 26)) (a.eval (.tmp 27))) (by rw [h26, h27]; exact ad_i _ _ _ _ _ (by omega))) (hI.pure ok (by simp [hsl0]) (by decide) hb)
      ·
       obtain rfl := Option.some.inj (ho.symm.trans (rfl : _ = some _))
       refine wpOp_of ho rfl ?_
       obtain rfl := hI.w12 (by decide) hb
       exact upon_of (vrun (s := Instr.fieldAt TW (a.eval (.tmp 2)) 2) (by rw [e2]; exact fa_2 _ _)) (hI.pure ok (by simp [hsl0]) (by decide) hb)
      ·
       obtain rfl := Option.some.inj (ho.symm.trans (rfl : _ = some _))
       refine wpOp_of ho rfl ?_
       have hd7 : b 7 = true := hdep ⟨7, .data⟩ (by simp) rfl
       have h29 : a.eval (.tmp 29) = .pointer (some ⟨S, 2, none⟩) := hI.slot 7 29 _ (by simp [hsl0]) hd7
       obtain rfl := hI.w12 (by decide) hb
       exact upon_of (vrun (s := Instr.loadAt 4 (a.eval (.tmp 29))) (by rw [h29]; exact ld_b _ _ _ _ c2)) (hI.pure ok (by simp [hsl0]) (by decide) hb)
      ·
       obtain rfl := Option.some.inj (ho.symm.trans (rfl : _ = some _))
       refine wpOp_of ho rfl ?_
       have hd2 : b 2 = true := hdep ⟨2, .data⟩ (by simp) rfl
       have hd6 : b 6 = true := hdep ⟨6, .data⟩ (by simp) rfl
       have hd8 : b 8 = true := hdep ⟨8, .data⟩ (by simp) rfl
       have h24 : a.eval (.tmp 24) = .int .i64 x.1 := hI.slot 2 24 _ (by simp [hsl0]) hd2
       have h28 : a.eval (.tmp 28) = .int .i64 (x.2.1 + i) := hI.slot 6 28 _ (by simp [hsl0]) hd6
       have h30 : a.eval (.tmp 30) = .bool x.2.2 := hI.slot 8 30 _ (by simp [hsl0]) hd8
       obtain rfl := hI.w12 (by decide) hb
       exact upon_of (bld_9 a (k := (x.1, x.2.1 + i, x.2.2)) h24 h28 h30 _) (hI.pure ok (by simp [hsl0]) (by decide) hb)
      ·
       obtain rfl := Option.some.inj (ho.symm.trans (rfl : _ = some _))
       refine wpOp_of ho rfl ?_
       obtain rfl := hI.w12 (by decide) hb
       refine upon_of (v := .string (mkS s)) (w2 := wr.drew) ?_ (hI.pure ok (by simp [hsl0]) (by decide) hb)
       show Result.ok (Next.value (a.eval (.tmp 5))) _ = _
       rw [e5]
      ·
       obtain rfl := Option.some.inj (ho.symm.trans (rfl : _ = some _))
       refine wpOp_of ho rfl ?_
       have hd10 : b 10 = true := hdep ⟨10, .data⟩ (by simp) rfl
       have h32 : a.eval (.tmp 32) = .string (mkS s) := hI.slot 10 32 _ (by simp [hsl0]) hd10
       obtain rfl := hI.w12 (by decide) hb
       refine upon_call (f := 118) (args := #[.string (mkS s), .string ⟨#[46]⟩]) (call_suf a h32 _) ?_
       refine (Tryz.strings_TrimSuffix (mkS s) ⟨#[46]⟩ _ hsl).mono ?_
       rintro e w'' ⟨rfl, rfl⟩
       exact ⟨.string (mkS (Lib.trimSuffix s [46])), rfl, hI.pure ok (by simp [hsl0]) (by decide) hb⟩
      ·
       obtain rfl := Option.some.inj (ho.symm.trans (rfl : _ = some _))
       refine wpOp_of ho rfl ?_
       have hall : ∀ j, j < 12 → b j = true := fun j hj => by
        rcases lt13 (by omega : j < 13) with rfl | rfl | rfl | rfl | rfl | rfl | rfl | rfl | rfl | rfl | rfl | rfl | rfl
        all_goals first | omega | exact hdep ⟨_, .phase⟩ (by simp) rfl
       have h22 : a.eval (.tmp 22) = .map (some w.heap.size) := hI.slot 0 22 _ (by simp [hsl0]) (hall 0 (by decide))
       have h31 : a.eval (.tmp 31) = kv (x.1, x.2.1 + i, x.2.2) := hI.slot 9 31 _ (by simp [hsl0]) (hall 9 (by decide))
       have h33 : a.eval (.tmp 33) = .string (mkS (Lib.trimSuffix s [46])) := hI.slot 11 33 _ (by simp [hsl0]) (hall 11 (by decide))
       exact hI.lay hb hall hMx (by omega) hkn (by omega) rfl rfl h22 h31 h33 ok (fun _ h => h)
     ·
      intro b a w' hI hall
      obtain ⟨⟨ts, rfl, hts⟩, hsm, _, _, hw⟩ := hI
      obtain ⟨hMf, hgf⟩ := hw.1 (hall 12 (by decide))
      obtain ⟨ts⟩ := ts
      match ts, hts with
      | t0 :: t1 :: t2 :: t3 :: t4 :: t5 :: t6 :: t7 :: t8 :: t9 :: t10 :: t11 :: t12 :: t13 :: t14 :: t15 :: t16 :: t17 :: t18 :: t19 :: t20 :: t21 :: t22 :: t23 :: t24 :: t25 :: t26 :: t27 :: t28 :: t29 :: t30 :: t31 :: t32 :: t33 :: t34 :: t35 :: [], _ =>
       obtain rfl : t0 = .map none := hsm 0 (Or.inl (by decide))
       obtain rfl : t1 = .map (some w.heap.size) := hsm 1 (Or.inl (by decide))
       obtain rfl : t2 = .pointer (some ⟨S, 0, none⟩) := hsm 2 (Or.inl (by decide))
       obtain rfl : t3 = .string (mkS c) := hsm 3 (Or.inl (by decide))
       obtain rfl : t6 = .map (some w.heap.size) := hsm 6 (Or.inl (by decide))
       obtain rfl : t7 = .map (some Br) := hsm 7 (Or.inl (by decide))
       obtain rfl : t8 = .pointer (some ⟨R, 0, none⟩) := hsm 8 (Or.inl (by decide))
       obtain rfl : t9 = .tuple #[.bool true, kv x, .string (mkS c)] := hsm 9 (Or.inl (by decide))
       obtain rfl : t10 = .bool true := hsm 10 (Or.inl (by decide))
       obtain rfl : t11 = .tuple #[.agg #[.int .i64 x.1, .int .i64 x.2.1, .bool x.2.2], .string (mkS c)] := hsm 11 (Or.inl (by decide))
       obtain rfl : t12 = .agg #[.int .i64 x.1, .int .i64 x.2.1, .bool x.2.2] := hsm 12 (Or.inl (by decide))
       obtain rfl : t13 = .string (mkS c) := hsm 13 (Or.inl (by decide))
       obtain rfl : t14 = .string (mkS c) := hsm 14 (Or.inl (by decide))
       obtain rfl : t15 = .slice (some ⟨S + 1, 0, none⟩) fs.length fs.length := hsm 15 (Or.inl (by decide))
       obtain rfl : t16 = .int .i64 fs.length := hsm 16 (Or.inl (by decide))
       obtain rfl : t17 = .int .i64 i := hsm 17 (Or.inl (by decide))
       obtain rfl : t35 = undef := hsm 35 (Or.inr (by decide))
       have hrgd : wr.drew.ranges PP TW (plainElem PP TS) Br R 31 D1 left1 cnt1 := hrgx
       have hrg4 := hrgd.kept hgf (fun e => by have := Option.some.inj e; omega) (fun e => by have := Option.some.inj e; omega)
       have hcld : Cl x fs S wr.drew := ⟨hclx.c0, hclx.c1, hclx.c2, hclx.fs⟩
       have hcl4 := hcld.kept hgf (by omega)
       have hb4 := hbx.drew.grown hgf hbx.drew.size (fun j hj => by cases hj; exact Nat.le_refl _)
       clear hsm hw
       go_wp2
       go_roundw
       case rel =>
        refine ⟨i + 1, n' + 1, _, by first | rfl | (simp; unfold wrap64; omega), by omega, hrg4, hMf, by omega, fun z => ?_, hb4, hcl4⟩
        have e0 : laidF L.nameTbl (pIn left1 x (i + 1)) z = laidF L.nameTbl (fun k => pIn left1 x i k || decide (k = (x, i))) z := laidF_congr (fun t _ => by
         unfold pIn
         by_cases h : t.1.1 = x
         ·by_cases h2 : t.1.2 = i
          ·have : t.1 = (x, i) := Prod.ext h h2
           simp [this]
          ·have : ¬ t.1 = (x, i) := fun e => h2 (by rw [e])
           simp only [h, if_true, this, decide_false, Bool.or_false]
           exact decide_eq_decide.2 (by omega)
         ·have : ¬ t.1 = (x, i) := fun e => h (by rw [e])
          simp [h, this]) z
        rw [e0]
        have e1 := laidF_put tbl_keys tbl_ids (b := pIn left1 x i) hent z
        simp only at e1
        rw [e1, hfx]
       case measure => simp [intOf]; omega
    ·have hie : i = fs.length := by omega
     subst hie
     go_wp2
     go_roundw
     case rel => exact ⟨left1, cnt1, n', f', hrgx, hld1, hMx, by omega, fun z => by rw [hfx, hpEnd], hbx⟩
     case measure => rw [hrgx.left_eq, hrg.left_eq]; exact hlt
end
end Rv
namespace Rv
open Go Go.RowKit Go.Proofs Go.Maps
noncomputable section
set_option maxRecDepth 1000000
theorem tblF_eq (x : NK) : tblF x = (L.nameTbl.find? fun e => e.2.1 == x).map (·.2.2) := by
 unfold tblF laidF
 generalize L.nameTbl = l
 induction l with
 | nil => rfl
 | cons e l ih =>
  rw [List.find?_cons, List.findSome?_cons]
  by_cases h : e.2.1 = x
  ·simp [h]
  ·have : (e.2.1 == x) = false := by simpa using h
   simpa [this, h] using ih
theorem mnem_look {w : World} {B n : Nat} {k o : Int} {u : Bool} (hM : MapIs w B n tblF) (hk : okK (k, o, u)) : (Instr.lookup TM (.map (some B)) (.agg #[.int .i64 k, .int .i64 o, .bool u]) false).run PP w = .ok (.string (mkS (L.mnemR k o u))) w := by
 have := hM.look (k, o, u) hk
 rw [tblF_eq] at this
 exact this
theorem mnem_walk (k o : Int) (u : Bool) (hk : okK (k, o, u)) (m : Int) (w : World) (hm : w.cell? ⟨0, 0, none⟩ = some (.int .i64 m)) (htab : Lib.TabIs PP w "strings.asciiSpace" .u8 Lib.asciiSpaceTab) :
  Calls PP 50 #[.int .i64 k, .int .i64 o, .bool u] w fun e w' => e = .returned (.string (mkS (L.mnemR k o u))) ∧ Below w.heap.size w w' := by
 go_enter Tryz.func50, Tryz.ntmps50
 go_wp2_with (go_at_call 72; refine (table_walk m _ hm htab).mono ?_; rintro e wa ⟨B, rfl, hB, hM, hb⟩; have hl := mnem_look hM hk)
 go_ret
 exact ⟨rfl, hb⟩
theorem results_tmp4 {fn : Func} {t u v x : Tmp} (h : fn.results = #[.tmp t, .tmp u, .tmp v, .tmp x]) (tmps : Array Value) (P : Program) (w : World) :
  (results fn tmps).run P w = .ok (.tuple #[tmps.getD t undef, tmps.getD u undef, tmps.getD v undef, tmps.getD x undef]) w := by
 simp [results, h]
theorem tbl_vals : L.nameTbl.Pairwise fun a b => a.2.2 ≠ b.2.2 := by decide +kernel
theorem tblF_mem {x : NK} {s : Str} (h : tblF x = some s) : ∃ i, (i, x, s) ∈ L.nameTbl := by
 rw [tblF_eq] at h
 obtain ⟨e, he, hs⟩ := Option.map_eq_some_iff.1 h
 have h1 := List.mem_of_find?_eq_some he
 have h2 := List.find?_some he
 have h3 : e.2.1 = x := by simpa using h2
 exact ⟨e.1, by rw [← h3, ← hs]; exact h1⟩
theorem tblF_of : ∀ e ∈ L.nameTbl, tblF e.2.1 = some e.2.2 := by
 intro e he
 have := laidF_put tbl_keys tbl_ids (b := fun _ => true) he e.2.1
 simp only [Bool.true_or, if_true] at this
 exact this
theorem ofR_hit {x : NK} {s : Str} (h : tblF x = some s) : L.ofR s = (x.1, x.2.1, x.2.2, true, ()) := by
 obtain ⟨i, hm⟩ := tblF_mem h
 unfold L.ofR
 cases hf : L.nameTbl.find? fun e => e.2.2 == s with
 | none =>
  have := List.find?_eq_none.1 hf _ hm
  simp at this
 | some e =>
  have h1 := List.mem_of_find?_eq_some hf
  have h2 : e.2.2 = s := by simpa using List.find?_some hf
  have : e = (i, x, s) := by
   have hp := tbl_vals
   revert hp h1 hm
   generalize L.nameTbl = l
   intro hm h1 hp
   induction hp with
   | nil => simp at h1
   | cons ha _ ih =>
    rcases List.mem_cons.1 h1 with e1 | h1'
    ·rcases List.mem_cons.1 hm with e2 | hm'
     ·rw [e1, e2]
     ·exact absurd h2 (by rw [e1]; exact ha _ hm')
    ·rcases List.mem_cons.1 hm with e2 | hm'
     ·exact absurd h2.symm (by have := ha _ h1'; rw [← e2] at this; exact this)
     ·exact ih hm' h1'
  subst this
  rfl
theorem ofR_miss {s : Str} (h : ∀ x r, tblF x = some r → r ≠ s) : L.ofR s = (0, 0, false, false, ()) := by
 unfold L.ofR
 cases hf : L.nameTbl.find? fun e => e.2.2 == s with
 | none => rfl
 | some e =>
  have h1 := List.mem_of_find?_eq_some hf
  have h2 : e.2.2 = s := by simpa using List.find?_some hf
  exact absurd h2 (h e.2.1 e.2.2 (tblF_of e h1))
set_option maxHeartbeats 4000000 in
theorem of_walk (s : Str) (m : Int) (w : World) (hm : w.cell? ⟨0, 0, none⟩ = some (.int .i64 m)) (htab : Lib.TabIs PP w "strings.asciiSpace" .u8 Lib.asciiSpaceTab) :
  Calls PP 43 #[.string (mkS s)] w fun e w' => e = .returned (.tuple #[.int .i64 (L.ofR s).1, .int .i64 (L.ofR s).2.1, .bool (L.ofR s).2.2.1, .bool (L.ofR s).2.2.2.1]) ∧ Below w.heap.size w w' := by
 have mixed : PP.follows .mixedOrders = true := by kernel_rfl
 go_enter Tryz.func43, Tryz.ntmps43
 go_wp2_with (first
  | (go_at_call 72; refine (table_walk m _ hm htab).mono ?_; rintro e wa ⟨B, rfl, hB, hM, hb⟩; obtain ⟨D, ho, hD1, hD2⟩ := hM)
  | (at_range; refine wpList_range_own _ rfl _ TM rfl TW TS nameLaw under_m _ B 100000 _ rfl ho ?_; intro w0 hrg0 hg0 hs0)
  | go_in)
 go_frame
 have hsa := hb.size
 have hlt0 := ho.lt
 obtain ⟨R, hR⟩ : ∃ R, R = wa.heap.size := ⟨_, rfl⟩
 rw [← hR] at hrg0 hs0 hsa hlt0 ⊢
 have hbw0 : Below w.heap.size w w0 := hb.grown hg0 (by rw [← hR]; exact hsa) (fun j hj => by cases hj)
 clear ho hb hR hg0 hs0
 go_loopw [6] (fun _ wr => ∃ left cnt, wr.ranges PP TW (plainElem PP TS) B R 100000 D left cnt ∧ (∀ l, left l = true → has D l = true) ∧ (∀ k r, tblF k = some r → left (kl k) = false → r ≠ s) ∧ Below w.heap.size w wr)
  (fun _ wr => wr.rangeLeft B R)
 case atStart =>
  exact ⟨_, _, hrg0, fun _ h => h, fun k r hk hl => (by rw [(hD2 k r hk).2.1] at hl; cases hl), hbw0⟩
 case round =>
  obtain ⟨left, cnt, hrg, hld, hno, hbw⟩ := hrel
  go_wp2_with (first
   | (at_next; refine wpList_next_ranges _ rfl _ rfl TW nameLaw (plainElem PP TS) (fun x : KB => kv x.k) (fun s : Str => Value.string (mkS s)) inv_k inv_v B R 100000 D left cnt rfl hrg ?_ ?_)
   | go_in)
  ·intro hc0 hl0
   have hmiss := ofR_miss (s := s) fun x r hx => hno x r hx (hl0 _)
   go_wp2
   try simp only [Exit.inBlock, Exit.then]
   refine bodyPost_ret (results_tmp4 rfl _ _ _) rfl ?_
   rw [hmiss]
   exact ⟨rfl, hbw⟩
  ·intro ⟨x⟩ c l ya yb w1 cnt1 hkx hlx hcv hat hrg1 hlt hg1 hs1 hen
   obtain ⟨hok, rfl⟩ := keyOf_kv_inv hkx
   obtain ⟨k', hok', hkl', hrf⟩ := hD1 _ (hld _ hlx)
   obtain rfl := kl_inj hok hok' hkl'
   obtain ⟨r, hr⟩ := Option.isSome_iff_exists.1 hrf
   obtain rfl : c = r := by
    obtain ⟨s', e1, e2⟩ := elem_inv hcv
    have e3 := (hD2 x r hr).2.2 (.lit (.bool false))
    rw [hat] at e3
    have e4 : s' = r := by
     have := e2.symm.trans e3
     simpa using this
    have e5 : c = s' := by
     have := congrArg (fun v => match v with | Value.string b => b.data.toList | _ => []) e1
     simpa [mkS] using this
    rw [e5, e4]
   simp only at hok hr hen hkx hlx
   have hbw1 : Below w.heap.size w w1 := hbw.grown hg1 hbw.size (fun j hj => by cases hj; omega)
   have hen' : (Instr.entry (.pointer (some ⟨R, 0, none⟩))).run PP w1 = .ok (.tuple #[.agg #[.int .i64 x.1, .int .i64 x.2.1, .bool x.2.2], .string (mkS c)]) w1 := hen
   obtain ⟨S, hS⟩ : ∃ S, w1.heap.size = S := ⟨_, rfl⟩
   clear hen hcv hat hkx hs1
   have hbw2 := hbw1.alloc hbw1.size (.cells #[.int .i64 x.1, .int .i64 x.2.1, .bool x.2.2] TW)
   by_cases hcs : c = s
   ·have hhit := ofR_hit (hcs ▸ hr)
    subst hcs
    have hA := (MapKept.heap_alloc w1 (.cells #[.int .i64 x.1, .int .i64 x.2.1, .bool x.2.2] TW)).1
    rw [hS] at hA
    have c0 : (w1.alloc (.cells #[.int .i64 x.1, .int .i64 x.2.1, .bool x.2.2] TW)).cell? ⟨S, 0, none⟩ = some (.int .i64 x.1) := by rw [Lib.cell_of_heap hA]; rfl
    have c1 : (w1.alloc (.cells #[.int .i64 x.1, .int .i64 x.2.1, .bool x.2.2] TW)).cell? ⟨S, 1, none⟩ = some (.int .i64 x.2.1) := by rw [Lib.cell_of_heap hA]; rfl
    have c2 : (w1.alloc (.cells #[.int .i64 x.1, .int .i64 x.2.1, .bool x.2.2] TW)).cell? ⟨S, 2, none⟩ = some (.bool x.2.2) := by rw [Lib.cell_of_heap hA]; rfl
    go_wp2
    go_region_o
    all_goals (go_wp2; (try simp only [Exit.inBlock, Exit.then]); refine bodyPost_ret (results_tmp4 rfl _ _ _) rfl ?_; rw [hhit]; exact ⟨rfl, hbw2.drew⟩)
   ·have hne : ((mkS c).toList == (mkS s).toList) = false := (Lib.bytes_beq_false_iff _ _).2 fun e => hcs (by
     have := congrArg (fun b : ByteArray => b.data.toList) e
     simpa [mkS] using this)
    go_wp2
    have hrg2 := hrg1.alloc (.cells #[.int .i64 x.1, .int .i64 x.2.1, .bool x.2.2] TW)
    go_roundw
    case rel =>
     refine ⟨_, cnt1, hrg2, fun l h => ?_, fun k r' hk hl => ?_, hbw2⟩
     ·simp only [Bool.and_eq_true] at h
      exact hld l h.1
     ·by_cases hkx : k = x
      ·subst hkx
       rw [hr] at hk
       cases hk
       exact hcs
      ·have hne' : kl k ≠ kl x := fun e' => hkx (kl_inj (hD2 k r' hk).1 hok e')
       rw [sameKey_ne hne'] at hl
       exact hno k r' hk (by simpa using hl)
    case measure => rw [hrg2.left_eq, hrg.left_eq]; exact hlt
end
end Rv
