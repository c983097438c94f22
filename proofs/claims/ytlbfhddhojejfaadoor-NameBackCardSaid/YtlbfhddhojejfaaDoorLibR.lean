/- The library's functions, told: out of the shelf's contracts. -/
import Derived.Test.YtlbfhddhojejfaaDoorRvMap
import Derived.Test.YtlbfhddhojejfaaDoorRvL0
import Derived.Test.YtlbfhddhojejfaaDoorShelfN
import Derived.Lib.LaidTab
import Derived.Lib.AppendIntMem
import Derived.Shelf.Strings.SlTrimAscii
import Derived.Test.YtlbfhddhojejfaaDoorRvOf
set_option linter.all false
namespace Rv
open Go Go.RowKit Go.Proofs
noncomputable section
set_option maxRecDepth 100000

noncomputable def P : Program := Tryd.prog
theorem mixed : P.follows .mixedOrders = true := by kernel_rfl

/-- Where the maps are. -/
abbrev LQ := Nat → Nat

/-- What the package's variables hold. -/
structure LW (ad : LQ) (w : World) : Prop where
  errSyntax : ∃ te pe, w.cell? ⟨3, 0, none⟩ = some (.iface te pe)
  errRange : ∃ te pe, w.cell? ⟨4, 0, none⟩ = some (.iface te pe)
  pow10 : Lib.TabIs P w "internal/strconv.uint64pow10" .u64 Lib.pow10Tab
  maxLen : ∃ m, w.cell? ⟨1, 0, none⟩ = some (.int .i64 m)
  asciiSpace : Lib.TabIs P w "strings.asciiSpace" .u8 Lib.asciiSpaceTab

variable {ad : LQ}

theorem LW.stable {w : World} (h : LW ad w) (a b : World) (ha : LW ad a) (hb : ∀ g, g < w.heap.size → b.heap[g]? = a.heap[g]?) : LW ad b where
  errSyntax := keepI h.errSyntax ha.errSyntax hb
  errRange := keepI h.errRange ha.errRange hb
  pow10 := keepTab h.pow10 ha.pow10 hb
  maxLen := keepN h.maxLen ha.maxLen hb
  asciiSpace := keepTab h.asciiSpace ha.asciiSpace hb

namespace strings_IndexByte
noncomputable def sp : Spec := ⟨⟨[(0, .c .str), (1, .c (.int .u8))], []⟩, ⟨[(0, .c (.int .i64))], []⟩, fun x => some (L.indexByte x.1 x.2.1, ())⟩
theorem enter : Enterable P 39 := enter_of (by kernel_rfl)
theorem sat : Sat P (LW ad) 39 sp := sat_plain (la := [.str, .int .u8]) (lr := [.int .i64]) rfl rfl rfl rfl fun x y h w _ => by
  have h : some (L.indexByte x.1 x.2.1, ()) = some y := h
  obtain rfl := Option.some.inj h
  refine (Tryd.strings_IndexByte (mkS x.1) x.2.1 w).mono ?_
  rintro e w' ⟨rfl, rfl⟩
  exact ⟨Below.refl _ _, #[_], rfl, rfl, trivial⟩
end strings_IndexByte
namespace strings_CutPrefix
noncomputable def sp : Spec := ⟨⟨[(0, .c .str), (1, .c .str)], []⟩, ⟨[(0, .c .str), (1, .c .bool)], []⟩, fun x => some (L.cutRest x.1 x.2.1, L.cutIs x.1 x.2.1, ())⟩
theorem enter : Enterable P 51 := enter_of (by kernel_rfl)
theorem sat : Sat P (LW ad) 51 sp := sat_plain (la := [.str, .str]) (lr := [.str, .bool]) rfl rfl rfl rfl fun x y h w _ => by
  have h : some (L.cutRest x.1 x.2.1, L.cutIs x.1 x.2.1, ()) = some y := h
  obtain rfl := Option.some.inj h
  refine (Tryd.strings_CutPrefix (mkS x.1) (mkS x.2.1) w).mono ?_
  rintro e w' ⟨rfl, rfl⟩
  exact ⟨Below.refl _ _, #[_, _], rfl, rfl, rfl, trivial⟩
end strings_CutPrefix
namespace strings_Contains
noncomputable def sp : Spec := ⟨⟨[(0, .c .str), (1, .c .str)], []⟩, ⟨[(0, .c .bool)], []⟩, fun x => L.containsO x.1 x.2.1⟩
theorem enter : Enterable P 55 := enter_of (by kernel_rfl)
theorem sat : Sat P (LW ad) 55 sp := sat_plain (la := [.str, .str]) (lr := [.bool]) rfl rfl rfl rfl fun x y h w hw => by
  have h : L.containsO x.1 x.2.1 = some y := h
  unfold L.containsO at h
  split at h
  · rename_i hs
    obtain rfl := Option.some.inj h
    obtain ⟨m, hm⟩ := hw.maxLen
    refine (Tryd.strings_Contains (mkS x.1) (mkS x.2.1) m w hs hm).mono ?_
    rintro e w' ⟨rfl, rfl⟩
    exact ⟨Below.refl _ _, #[_], rfl, rfl, trivial⟩
  · cases h
end strings_Contains
namespace strconv_Itoa
noncomputable def sp : Spec := ⟨⟨[(0, .c (.int .i64))], []⟩, ⟨[(0, .c .str)], []⟩, fun x => L.itoaO x.1⟩
theorem enter : Enterable P 50 := enter_of (by kernel_rfl)
theorem sat : Sat P (LW ad) 50 sp := sat_plain (la := [.int .i64]) (lr := [.str]) rfl rfl rfl rfl fun x y h w hw => by
  have h : L.itoaO x.1 = some y := h
  unfold L.itoaO at h
  split at h
  · rename_i hs
    obtain rfl := Option.some.inj h
    refine (Tryd.strconv_Itoa x.1 hs.1 hs.2 w hw.pow10).mono ?_
    rintro e w' ⟨rfl, k, os, rfl⟩
    exact ⟨Lib.below_grow _ _ (Nat.le_refl _) _ _, #[_], rfl, rfl, trivial⟩
  · cases h
end strconv_Itoa
namespace strconv_toError
noncomputable def sp : Spec := ⟨⟨[(0, .c .str), (1, .c .str), (2, .c (.int .i64)), (3, .c (.int .i64)), (4, .c (.ifo 102 .i64))], []⟩, ⟨[(0, .c .err)], []⟩, fun x => L.toErrorO x.1 x.2.1 x.2.2.1 x.2.2.2.1 x.2.2.2.2.1⟩
theorem enter : Enterable P 73 := enter_of (by kernel_rfl)
theorem sat : Sat P (LW ad) 73 sp := sat_plain (la := [.str, .str, .int .i64, .int .i64, .ifo 102 .i64]) (lr := [.err]) rfl rfl rfl rfl fun x y h w hw => by
  have h : L.toErrorO x.1 x.2.1 x.2.2.1 x.2.2.2.1 x.2.2.2.2.1 = some y := h
  obtain ⟨x1, x2, x3, x4, x5, _⟩ := x
  simp only at h
  unfold L.toErrorO at h
  split at h
  · rename_i hs
    obtain rfl := Option.some.inj h
    obtain ⟨h1, h2⟩ := hs
    rcases h2 with rfl | rfl
    · obtain ⟨te, pe, hv⟩ := hw.errRange
      refine (Tryd.strconv_toError_range (mkS x1) (mkS x2) x3 x4 _ w h1 hv (.inr ⟨te, pe, rfl⟩)).mono ?_
      rintro e w' ⟨N, rfl, _, _, hb⟩
      exact ⟨hb, #[_], rfl, ⟨rfl, fun h => (by cases h), fun _ => ⟨_, _, rfl⟩⟩, trivial⟩
    · obtain ⟨te, pe, hv⟩ := hw.errSyntax
      refine (Tryd.strconv_toError_syntax (mkS x1) (mkS x2) x3 x4 _ w h1 hv (.inr ⟨te, pe, rfl⟩)).mono ?_
      rintro e w' ⟨N, rfl, _, _, hb⟩
      exact ⟨hb, #[_], rfl, ⟨rfl, fun h => (by cases h), fun _ => ⟨_, _, rfl⟩⟩, trivial⟩
  · cases h
end strconv_toError
namespace internal_strconv_underscoreOK
noncomputable def sp : Spec := ⟨⟨[(0, .c .str)], []⟩, ⟨[(0, .c .bool)], []⟩, fun x => L.underscoreO x.1⟩
theorem enter : Enterable P 98 := enter_of (by kernel_rfl)
theorem sat : Sat P (LW ad) 98 sp := fun x y h => (by cases h)
end internal_strconv_underscoreOK

theorem digs_isDig (b : UInt8) : ([48, 49, 50, 51, 52, 53, 54, 55, 56, 57] : List UInt8).contains b = L.isDig b := by
  have h : ∀ n : Nat, n < 256 → ([48, 49, 50, 51, 52, 53, 54, 55, 56, 57] : List UInt8).contains (UInt8.ofNat n) = L.isDig (UInt8.ofNat n) := by decide +kernel
  have := h b.toNat (UInt8.toNat_lt b)
  rwa [UInt8.ofNat_toNat] at this
theorem trimDig_eq (l : List UInt8) : Lib.trimS l [48, 49, 50, 51, 52, 53, 54, 55, 56, 57] = L.trimDig l := by
  have : (fun b : UInt8 => ([48, 49, 50, 51, 52, 53, 54, 55, 56, 57] : List UInt8).contains b) = L.isDig := funext digs_isDig
  unfold Lib.trimS Lib.trimLeftS Lib.trimRightS L.trimDig
  rw [this]
namespace strings_Trim
noncomputable def sp : Spec := ⟨⟨[(0, .c .str), (1, .c .str)], []⟩, ⟨[(0, .c .str)], []⟩, fun x => L.trimO x.1 x.2.1⟩
theorem enter : Enterable P 48 := enter_of (by kernel_rfl)
theorem sat : Sat P (LW ad) 48 sp := sat_plain (la := [.str, .str]) (lr := [.str]) rfl rfl rfl rfl fun x y h w hw => by
  have h : L.trimO x.1 x.2.1 = some y := h
  obtain ⟨x1, x2, _⟩ := x
  simp only at h
  unfold L.trimO at h
  split at h
  · rename_i hs
    obtain rfl := Option.some.inj h
    obtain ⟨rfl, h2⟩ := hs
    refine (Any.strings_Trim_laid Tryd.lays160 (by kernel_rfl) (mkS x1) (mkS [48, 49, 50, 51, 52, 53, 54, 55, 56, 57]) w (by show x1.length ≤ _; omega) (by decide) (ascii_of_all (by decide))).mono ?_
    rintro e w' ⟨rfl, hb⟩
    exact ⟨hb, #[_], rfl, by show Value.string _ = _; rw [show (mkS x1).data.toList = x1 from rfl, show (mkS [48, 49, 50, 51, 52, 53, 54, 55, 56, 57]).data.toList = [48, 49, 50, 51, 52, 53, 54, 55, 56, 57] from rfl, trimDig_eq]; rfl, trivial⟩
  · cases h
end strings_Trim


namespace name_Of
noncomputable def sp : Spec := ⟨⟨[(0, .c .str)], []⟩, ⟨[(0, .c (.int .i64)), (1, .c (.int .i64)), (2, .c .bool), (3, .c .bool)], []⟩, fun x => L.nameOfO x.1⟩
theorem enter : Enterable P 27 := enter_of (by kernel_rfl)
theorem sat : Sat P (LW ad) 27 sp := sat_plain (la := [.str]) (lr := [.int .i64, .int .i64, .bool, .bool]) rfl rfl rfl rfl fun x y h w hw => by
  have h : L.nameOfO x.1 = some y := h
  unfold L.nameOfO at h
  obtain rfl := Option.some.inj h
  obtain ⟨m, hm⟩ := hw.maxLen
  refine (of_walk x.1 m w hm hw.asciiSpace).mono ?_
  rintro e w' ⟨rfl, hb⟩
  exact ⟨hb, #[_, _, _, _], rfl, rfl, rfl, rfl, rfl, trivial⟩
end name_Of
namespace name_Mnemonic
noncomputable def sp : Spec := ⟨⟨[(0, .c (.int .i64)), (1, .c (.int .i64)), (2, .c .bool)], []⟩, ⟨[(0, .c .str)], []⟩, fun x => L.mnemO x.1 x.2.1 x.2.2.1⟩
theorem enter : Enterable P 26 := enter_of (by kernel_rfl)
theorem sat : Sat P (LW ad) 26 sp := sat_plain (la := [.int .i64, .int .i64, .bool]) (lr := [.str]) rfl rfl rfl rfl fun x y h w hw => by
  have h : L.mnemO x.1 x.2.1 x.2.2.1 = some y := h
  obtain ⟨x1, x2, x3, _⟩ := x
  simp only at h
  unfold L.mnemO at h
  split at h
  · rename_i hs
    obtain rfl := Option.some.inj h
    obtain ⟨m, hm⟩ := hw.maxLen
    refine (mnem_walk x1 x2 x3 ⟨WalkArith.wf_i64 (n := x1) ⟨by omega, by omega⟩, WalkArith.wf_i64 (n := x2) ⟨by omega, by omega⟩⟩ m w hm hw.asciiSpace).mono ?_
    rintro e w' ⟨rfl, hb⟩
    exact ⟨hb, #[_], rfl, rfl, trivial⟩
  · cases h
end name_Mnemonic
end
end Rv
