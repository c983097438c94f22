/- The functions do what their plain texts say, printed by gen.py (a program of this work's own). -/
import Derived.Test.YtlbfhddhojejfaaDoorDef
import Derived.Test.YtlbfhddhojejfaaDoorLibJ
set_option linter.all false
namespace Rv
open Go Go.Proofs
noncomputable section
set_option maxRecDepth 100000
set_option linter.unusedVariables false
variable {ad : LQ}

noncomputable def types : List (TypeId × TI) := [
  (3, ⟨1, false, 8, [.int .i64 0], [], none, some (.int .i64), some .i64, false, false, true, none, none⟩),
  (5, ⟨1, false, 1, [.int .u8 0], [], none, some (.int .u8), some .u8, false, false, true, none, none⟩),
  (9, ⟨1, false, 16, [.str []], [], none, some .str, none, true, false, false, none, none⟩),
  (22, ⟨1, false, 4, [.int .u32 0], [], none, some (.int .u32), some .u32, false, false, true, none, none⟩),
  (24, ⟨1, false, 24, [.nilS], [], some 30, some (.sl (.pair (.int .i64) (.pair (.int .i64) (.pair .str (.pair (.int .u32) .nil))))), none, false, false, false, none, none⟩),
  (30, ⟨4, true, 40, [.int .i64 0, .int .i64 0, .str [], .int .u32 0], [(0, 1, false), (1, 1, false), (2, 1, false), (3, 1, false)], none, some (.pair (.int .i64) (.pair (.int .i64) (.pair .str (.pair (.int .u32) .nil)))), none, false, false, false, some (.pair (.int .i64) (.pair (.int .i64) (.pair .str (.pair (.int .u32) .nil)))), none⟩),
  (32, ⟨1, false, 24, [.nilS], [], some 5, some (.sl (.int .u8)), none, false, false, false, none, none⟩),
  (64, ⟨1, false, 16, [.raw .nilIface], [], none, none, none, false, true, false, none, none⟩),
  (76, ⟨1, false, 8, [.int .u64 0], [], none, some (.int .u64), some .u64, false, false, true, none, none⟩),
  (102, ⟨1, false, 8, [.int .i64 0], [], none, some (.int .i64), some .i64, false, false, true, none, none⟩),
  (109, ⟨1, false, 8, [.int .u64 0], [], none, some (.int .u64), some .u64, false, false, true, none, none⟩)]
theorem types_ok : (types.all fun p => checkTI P p.1 p.2) = true := by kernel_rfl

-- rivet/scan.letter
namespace scan_letter
noncomputable def sp : Spec := ⟨⟨[(0, .c (.int .u8))], []⟩, ⟨[(0, .c .bool)], []⟩, fun x => g x.1⟩
noncomputable def E (n : Nat) : Env sp.r.T := ⟨teOf types, specOf [], fun _ => none, fun _ => none, fun _ => none, n, 21, 0, fun _ _ => none⟩
theorem enter : Enterable P 35 := enter_of (by kernel_rfl)
theorem entry (n : Nat) : (fun x => evalCode (E n) [] (bodyOf P 35) (init sp (funcOf P 35).ntmps x) (endK (E n).te (resOf P 35) sp)) = fun x => f n x.1 := by kernel_rfl
theorem sites_eq (n : Nat) : (sites (E n) (bodyOf P 35) (fun _ => endK (E n).te (resOf P 35) sp)).map (Site.lhs (E n)) = (sites (E n) (bodyOf P 35) (fun _ => endK (E n).te (resOf P 35) sp)).map (Site.rhs (E n)) := by kernel_rfl
theorem ntmps : (funcOf P 35).ntmps = 21 := by kernel_rfl
theorem labs_none : (labs (bodyOf P 35)).isEmpty = true := by kernel_rfl
theorem sat : Sat P (LW ad) 35 sp := sat_by (E := E) mixed enter (fun _ => teOf_ok types_ok) (fun _ => specOf_ok specs_nil) (fun _ => rfl) (fun _ => maps_none) (fun _ => ntmps.symm) (by rw [ntmps]; exact Nat.le_of_ble_eq_true rfl) labs_none (g := fun n x => f n x.1) (fun x => 1000 + x.1.toNat) sites_eq entry (fun _ => rfl)
end scan_letter

-- rivet/scan.digit
namespace scan_digit
noncomputable def sp : Spec := ⟨⟨[(0, .c (.int .u8))], []⟩, ⟨[(0, .c .bool)], []⟩, fun x => g x.1⟩
noncomputable def E (n : Nat) : Env sp.r.T := ⟨teOf types, specOf [], fun _ => none, fun _ => none, fun _ => none, n, 9, 0, fun _ _ => none⟩
theorem enter : Enterable P 37 := enter_of (by kernel_rfl)
theorem entry (n : Nat) : (fun x => evalCode (E n) [] (bodyOf P 37) (init sp (funcOf P 37).ntmps x) (endK (E n).te (resOf P 37) sp)) = fun x => f n x.1 := by kernel_rfl
theorem sites_eq (n : Nat) : (sites (E n) (bodyOf P 37) (fun _ => endK (E n).te (resOf P 37) sp)).map (Site.lhs (E n)) = (sites (E n) (bodyOf P 37) (fun _ => endK (E n).te (resOf P 37) sp)).map (Site.rhs (E n)) := by kernel_rfl
theorem ntmps : (funcOf P 37).ntmps = 9 := by kernel_rfl
theorem labs_none : (labs (bodyOf P 37)).isEmpty = true := by kernel_rfl
theorem sat : Sat P (LW ad) 37 sp := sat_by (E := E) mixed enter (fun _ => teOf_ok types_ok) (fun _ => specOf_ok specs_nil) (fun _ => rfl) (fun _ => maps_none) (fun _ => ntmps.symm) (by rw [ntmps]; exact Nat.le_of_ble_eq_true rfl) labs_none (g := fun n x => f n x.1) (fun x => 1000 + x.1.toNat) sites_eq entry (fun _ => rfl)
end scan_digit

-- rivet/scan.word
namespace scan_word
noncomputable def sp : Spec := ⟨⟨[(0, .c .str)], []⟩, ⟨[(0, .c .str)], []⟩, fun x => g x.1⟩
noncomputable def E (n : Nat) : Env sp.r.T := ⟨teOf types, specOf [((35, []), scan_letter.sp), ((37, []), scan_digit.sp)], fun r => if r = 3 then some ⟨⟨[(0, .c .str), (3, .c (.int .i64))], []⟩, fun ms x => j3 n (l2 n ms.head!) x.1 x.2.1⟩ else if r = 4 then some ⟨⟨[(0, .c .str), (3, .c (.int .i64))], []⟩, fun ms x => j4 n x.1 x.2.1⟩ else none, fun r => if r = 2 then some ⟨⟨[(0, .c .str), (3, .c (.int .i64))], []⟩, fun ms m x => l2 n m x.1 x.2.1⟩ else none, fun _ => none, n, 25, 0, fun _ _ => none⟩
theorem enter : Enterable P 36 := enter_of (by kernel_rfl)
theorem entry (n : Nat) : (fun x => evalCode (E n) [] (bodyOf P 36) (init sp (funcOf P 36).ntmps x) (endK (E n).te (resOf P 36) sp)) = fun x => f n x.1 := by kernel_rfl
theorem sites_eq (n : Nat) : (sites (E n) (bodyOf P 36) (fun _ => endK (E n).te (resOf P 36) sp)).map (Site.lhs (E n)) = (sites (E n) (bodyOf P 36) (fun _ => endK (E n).te (resOf P 36) sp)).map (Site.rhs (E n)) := by kernel_rfl
theorem ntmps : (funcOf P 36).ntmps = 25 := by kernel_rfl
theorem labs_none : (labs (bodyOf P 36)).isEmpty = true := by kernel_rfl
theorem sat : Sat P (LW ad) 36 sp := sat_by (E := E) mixed enter (fun _ => teOf_ok types_ok) (fun _ => specOf_ok (specs_cons scan_letter.sat scan_letter.enter (specs_cons scan_digit.sat scan_digit.enter specs_nil))) (fun _ => rfl) (fun _ => maps_none) (fun _ => ntmps.symm) (by rw [ntmps]; exact Nat.le_of_ble_eq_true rfl) labs_none (g := fun n x => f n x.1) (fun x => 1000 + x.1.length) sites_eq entry (fun _ => rfl)
end scan_word

-- internal/strconv.lower
namespace internal_strconv_lower
noncomputable def sp : Spec := ⟨⟨[(0, .c (.int .u8))], []⟩, ⟨[(0, .c (.int .u8))], []⟩, fun x => g x.1⟩
noncomputable def E (n : Nat) : Env sp.r.T := ⟨teOf types, specOf [], fun _ => none, fun _ => none, fun _ => none, n, 5, 0, fun _ _ => none⟩
theorem enter : Enterable P 97 := enter_of (by kernel_rfl)
theorem entry (n : Nat) : (fun x => evalCode (E n) [] (bodyOf P 97) (init sp (funcOf P 97).ntmps x) (endK (E n).te (resOf P 97) sp)) = fun x => f n x.1 := by kernel_rfl
theorem sites_eq (n : Nat) : (sites (E n) (bodyOf P 97) (fun _ => endK (E n).te (resOf P 97) sp)).map (Site.lhs (E n)) = (sites (E n) (bodyOf P 97) (fun _ => endK (E n).te (resOf P 97) sp)).map (Site.rhs (E n)) := by kernel_rfl
theorem ntmps : (funcOf P 97).ntmps = 5 := by kernel_rfl
theorem labs_none : (labs (bodyOf P 97)).isEmpty = true := by kernel_rfl
theorem sat : Sat P (LW ad) 97 sp := sat_by (E := E) mixed enter (fun _ => teOf_ok types_ok) (fun _ => specOf_ok specs_nil) (fun _ => rfl) (fun _ => maps_none) (fun _ => ntmps.symm) (by rw [ntmps]; exact Nat.le_of_ble_eq_true rfl) labs_none (g := fun n x => f n x.1) (fun x => 1000 + x.1.toNat) sites_eq entry (fun _ => rfl)
end internal_strconv_lower

-- internal/strconv.ParseUint
namespace internal_strconv_ParseUint
noncomputable def sp : Spec := ⟨⟨[(0, .c .str), (1, .c (.int .i64)), (2, .c (.int .i64))], []⟩, ⟨[(0, .c (.int .u64)), (1, .c (.ifo 102 .i64))], []⟩, fun x => g x.1 x.2.1 x.2.2.1⟩
noncomputable def E (n : Nat) : Env sp.r.T := ⟨teOf types, specOf [((97, []), internal_strconv_lower.sp), ((98, []), internal_strconv_underscoreOK.sp)], fun r => if r = 55 then some ⟨⟨[(1, .c (.int .i64)), (8, .c .bool), (9, .c .str), (10, .c (.int .u64)), (11, .c (.int .u64)), (12, .c .bool), (13, .c (.int .u64)), (99, .c (.sl (.int .u8))), (100, .c (.int .i64)), (101, .c (.int .i64))], []⟩, fun ms x => j55 n (l36 n ms.head!) x.1 x.2.1 x.2.2.1 x.2.2.2.1 x.2.2.2.2.1 x.2.2.2.2.2.1 x.2.2.2.2.2.2.1 x.2.2.2.2.2.2.2.1 x.2.2.2.2.2.2.2.2.1 x.2.2.2.2.2.2.2.2.2.1⟩ else if r = 46 then some ⟨⟨[(1, .c (.int .i64)), (8, .c .bool), (9, .c .str), (10, .c (.int .u64)), (11, .c (.int .u64)), (12, .c .bool), (13, .c (.int .u64)), (16, .c (.int .u8)), (99, .c (.sl (.int .u8))), (100, .c (.int .i64)), (101, .c (.int .i64))], []⟩, fun ms x => j46 n (l36 n ms.head!) x.1 x.2.1 x.2.2.1 x.2.2.2.1 x.2.2.2.2.1 x.2.2.2.2.2.1 x.2.2.2.2.2.2.1 x.2.2.2.2.2.2.2.1 x.2.2.2.2.2.2.2.2.1 x.2.2.2.2.2.2.2.2.2.1 x.2.2.2.2.2.2.2.2.2.2.1⟩ else if r = 32 then some ⟨⟨[(0, .c .str), (1, .c (.int .i64)), (2, .c (.int .i64)), (8, .c .bool), (9, .c .str), (10, .c (.int .u64))], []⟩, fun ms x => j32 n x.1 x.2.1 x.2.2.1 x.2.2.2.1 x.2.2.2.2.1 x.2.2.2.2.2.1⟩ else if r = 25 then some ⟨⟨[(0, .c .str), (1, .c (.int .i64)), (2, .c (.int .i64)), (8, .c .bool), (9, .c .str)], []⟩, fun ms x => j25 n x.1 x.2.1 x.2.2.1 x.2.2.2.1 x.2.2.2.2.1⟩ else if r = 21 then some ⟨⟨[(0, .c .str), (1, .c (.int .i64)), (2, .c (.int .i64)), (8, .c .bool), (9, .c .str)], []⟩, fun ms x => j21 n x.1 x.2.1 x.2.2.1 x.2.2.2.1 x.2.2.2.2.1⟩ else if r = 17 then some ⟨⟨[(0, .c .str), (1, .c (.int .i64)), (2, .c (.int .i64)), (8, .c .bool), (9, .c .str)], []⟩, fun ms x => j17 n x.1 x.2.1 x.2.2.1 x.2.2.2.1 x.2.2.2.2.1⟩ else if r = 20 then some ⟨⟨[(0, .c .str), (1, .c (.int .i64)), (2, .c (.int .i64)), (8, .c .bool), (9, .c .str)], []⟩, fun ms x => j20 n x.1 x.2.1 x.2.2.1 x.2.2.2.1 x.2.2.2.2.1⟩ else if r = 11 then some ⟨⟨[(0, .c .str), (1, .c (.int .i64)), (2, .c (.int .i64)), (8, .c .bool), (9, .c .str)], []⟩, fun ms x => j11 n x.1 x.2.1 x.2.2.1 x.2.2.2.1 x.2.2.2.2.1⟩ else if r = 9 then some ⟨⟨[(0, .c .str), (1, .c (.int .i64)), (2, .c (.int .i64)), (8, .c .bool), (9, .c .str)], []⟩, fun ms x => j9 n x.1 x.2.1 x.2.2.1 x.2.2.2.1 x.2.2.2.2.1⟩ else none, fun r => if r = 36 then some ⟨⟨[(1, .c (.int .i64)), (8, .c .bool), (9, .c .str), (10, .c (.int .u64)), (11, .c (.int .u64)), (12, .c .bool), (13, .c (.int .u64)), (99, .c (.sl (.int .u8))), (100, .c (.int .i64)), (101, .c (.int .i64))], []⟩, fun ms m x => l36 n m x.1 x.2.1 x.2.2.1 x.2.2.2.1 x.2.2.2.2.1 x.2.2.2.2.2.1 x.2.2.2.2.2.2.1 x.2.2.2.2.2.2.2.1 x.2.2.2.2.2.2.2.2.1 x.2.2.2.2.2.2.2.2.2.1⟩ else none, fun _ => none, n, 172, 0, fun _ _ => none⟩
theorem enter : Enterable P 78 := enter_of (by kernel_rfl)
theorem entry (n : Nat) : (fun x => evalCode (E n) [] (bodyOf P 78) (init sp (funcOf P 78).ntmps x) (endK (E n).te (resOf P 78) sp)) = fun x => f n x.1 x.2.1 x.2.2.1 := by kernel_rfl
theorem sites_eq (n : Nat) : (sites (E n) (bodyOf P 78) (fun _ => endK (E n).te (resOf P 78) sp)).map (Site.lhs (E n)) = (sites (E n) (bodyOf P 78) (fun _ => endK (E n).te (resOf P 78) sp)).map (Site.rhs (E n)) := by kernel_rfl
theorem ntmps : (funcOf P 78).ntmps = 172 := by kernel_rfl
theorem labs_none : (labs (bodyOf P 78)).isEmpty = true := by kernel_rfl
theorem sat : Sat P (LW ad) 78 sp := sat_by (E := E) mixed enter (fun _ => teOf_ok types_ok) (fun _ => specOf_ok (specs_cons internal_strconv_lower.sat internal_strconv_lower.enter (specs_cons internal_strconv_underscoreOK.sat internal_strconv_underscoreOK.enter specs_nil))) (fun _ => rfl) (fun _ => maps_none) (fun _ => ntmps.symm) (by rw [ntmps]; exact Nat.le_of_ble_eq_true rfl) labs_none (g := fun n x => f n x.1 x.2.1 x.2.2.1) (fun x => 1000 + x.1.length + x.2.1.toNat + x.2.2.1.toNat) sites_eq entry (fun _ => rfl)
end internal_strconv_ParseUint

-- strconv.ParseUint
namespace strconv_ParseUint
noncomputable def sp : Spec := ⟨⟨[(0, .c .str), (1, .c (.int .i64)), (2, .c (.int .i64))], []⟩, ⟨[(0, .c (.int .u64)), (1, .c .err)], []⟩, fun x => g x.1 x.2.1 x.2.2.1⟩
noncomputable def E (n : Nat) : Env sp.r.T := ⟨teOf types, specOf [((78, []), internal_strconv_ParseUint.sp), ((73, []), strconv_toError.sp)], fun _ => none, fun _ => none, fun _ => none, n, 26, 0, fun _ _ => none⟩
theorem enter : Enterable P 56 := enter_of (by kernel_rfl)
theorem entry (n : Nat) : (fun x => evalCode (E n) [] (bodyOf P 56) (init sp (funcOf P 56).ntmps x) (endK (E n).te (resOf P 56) sp)) = fun x => f n x.1 x.2.1 x.2.2.1 := by kernel_rfl
theorem sites_eq (n : Nat) : (sites (E n) (bodyOf P 56) (fun _ => endK (E n).te (resOf P 56) sp)).map (Site.lhs (E n)) = (sites (E n) (bodyOf P 56) (fun _ => endK (E n).te (resOf P 56) sp)).map (Site.rhs (E n)) := by kernel_rfl
theorem ntmps : (funcOf P 56).ntmps = 26 := by kernel_rfl
theorem labs_none : (labs (bodyOf P 56)).isEmpty = true := by kernel_rfl
theorem sat : Sat P (LW ad) 56 sp := sat_by (E := E) mixed enter (fun _ => teOf_ok types_ok) (fun _ => specOf_ok (specs_cons internal_strconv_ParseUint.sat internal_strconv_ParseUint.enter (specs_cons strconv_toError.sat strconv_toError.enter specs_nil))) (fun _ => rfl) (fun _ => maps_none) (fun _ => ntmps.symm) (by rw [ntmps]; exact Nat.le_of_ble_eq_true rfl) labs_none (g := fun n x => f n x.1 x.2.1 x.2.2.1) (fun x => 1000 + x.1.length + x.2.1.toNat + x.2.2.1.toNat) sites_eq entry (fun _ => rfl)
end strconv_ParseUint

-- rivet/scan.number
namespace scan_number
noncomputable def sp : Spec := ⟨⟨[(0, .c .str)], []⟩, ⟨[(0, .c (.int .u32)), (1, .c .bool)], []⟩, fun x => g x.1⟩
noncomputable def E (n : Nat) : Env sp.r.T := ⟨teOf types, specOf [((51, []), strings_CutPrefix.sp), ((55, []), strings_Contains.sp), ((56, []), strconv_ParseUint.sp)], fun r => if r = 5 then some ⟨⟨[(0, .c .str), (4, .c (.int .i64))], []⟩, fun ms x => j5 n x.1 x.2.1⟩ else none, fun _ => none, fun _ => none, n, 28, 0, fun _ _ => none⟩
theorem enter : Enterable P 38 := enter_of (by kernel_rfl)
theorem entry (n : Nat) : (fun x => evalCode (E n) [] (bodyOf P 38) (init sp (funcOf P 38).ntmps x) (endK (E n).te (resOf P 38) sp)) = fun x => f n x.1 := by kernel_rfl
theorem sites_eq (n : Nat) : (sites (E n) (bodyOf P 38) (fun _ => endK (E n).te (resOf P 38) sp)).map (Site.lhs (E n)) = (sites (E n) (bodyOf P 38) (fun _ => endK (E n).te (resOf P 38) sp)).map (Site.rhs (E n)) := by kernel_rfl
theorem ntmps : (funcOf P 38).ntmps = 28 := by kernel_rfl
theorem labs_none : (labs (bodyOf P 38)).isEmpty = true := by kernel_rfl
theorem sat : Sat P (LW ad) 38 sp := sat_by (E := E) mixed enter (fun _ => teOf_ok types_ok) (fun _ => specOf_ok (specs_cons strings_CutPrefix.sat strings_CutPrefix.enter (specs_cons strings_Contains.sat strings_Contains.enter (specs_cons strconv_ParseUint.sat strconv_ParseUint.enter specs_nil)))) (fun _ => rfl) (fun _ => maps_none) (fun _ => ntmps.symm) (by rw [ntmps]; exact Nat.le_of_ble_eq_true rfl) labs_none (g := fun n x => f n x.1) (fun x => 1000 + x.1.length) sites_eq entry (fun _ => rfl)
end scan_number

-- rivet/scan.Line
namespace scan_Line
noncomputable def sp : Spec := ⟨⟨[(0, .c .str)], []⟩, ⟨[(0, .c (.row 30 (.pair (.int .i64) (.pair (.int .i64) (.pair .str (.pair (.int .u32) .nil)))))), (1, .c (.int .i64))], []⟩, fun x => g x.1⟩
noncomputable def E (n : Nat) : Env sp.r.T := ⟨teOf types, specOf [((35, []), scan_letter.sp), ((36, []), scan_word.sp), ((37, []), scan_digit.sp), ((38, []), scan_number.sp), ((39, []), strings_IndexByte.sp)], fun r => if r = 23 then some ⟨⟨[(0, .c .str), (4, .c (.row 30 (.pair (.int .i64) (.pair (.int .i64) (.pair .str (.pair (.int .u32) .nil)))))), (5, .c (.int .i64)), (6, .c (.ptr 0 0))], [(some 3, [.int .i64, .int .i64, .str, .int .u32])]⟩, fun ms x => j23 n (g0 n ms.head!) x.1 x.2.1 x.2.2.1 x.2.2.2.2.1 x.2.2.2.2.2.1 x.2.2.2.2.2.2.1 x.2.2.2.2.2.2.2.1⟩ else none, fun _ => none, fun r => if r = 0 then some ⟨⟨[(0, .c .str), (4, .c (.row 30 (.pair (.int .i64) (.pair (.int .i64) (.pair .str (.pair (.int .u32) .nil)))))), (5, .c (.int .i64))], []⟩, fun ms m x => g0 n m x.1 x.2.1 x.2.2.1⟩ else none, n, 108, 0, fun _ _ => none⟩
theorem enter : Enterable P 14 := enter_of (by kernel_rfl)
theorem entry (n : Nat) : (fun x => evalCode (E n) [] (bodyOf P 14) (init sp (funcOf P 14).ntmps x) (endK (E n).te (resOf P 14) sp)) = fun x => f n x.1 := by kernel_rfl
theorem sites_eq (n : Nat) : (sites (E n) (bodyOf P 14) (fun _ => endK (E n).te (resOf P 14) sp)).map (Site.lhs (E n)) = (sites (E n) (bodyOf P 14) (fun _ => endK (E n).te (resOf P 14) sp)).map (Site.rhs (E n)) := by kernel_rfl
theorem ntmps : (funcOf P 14).ntmps = 108 := by kernel_rfl
theorem labs_none : (labs (bodyOf P 14)).isEmpty = true := by kernel_rfl
theorem sat : Sat P (LW ad) 14 sp := sat_by (E := E) mixed enter (fun _ => teOf_ok types_ok) (fun _ => specOf_ok (specs_cons scan_letter.sat scan_letter.enter (specs_cons scan_word.sat scan_word.enter (specs_cons scan_digit.sat scan_digit.enter (specs_cons scan_number.sat scan_number.enter (specs_cons strings_IndexByte.sat strings_IndexByte.enter specs_nil)))))) (fun _ => rfl) (fun _ => maps_none) (fun _ => ntmps.symm) (by rw [ntmps]; exact Nat.le_of_ble_eq_true rfl) labs_none (g := fun n x => f n x.1) (fun x => 1000 + x.1.length) sites_eq entry (fun _ => rfl)
end scan_Line

-- rivet/rivetlaw14.shown
namespace rivetlaw14_shown
noncomputable def sp : Spec := ⟨⟨[], []⟩, ⟨[(0, .c .bool)], []⟩, fun x => g ⟩
noncomputable def E (n : Nat) : Env sp.r.T := ⟨teOf types, specOf [((14, []), scan_Line.sp)], fun _ => none, fun _ => none, fun _ => none, n, 49, 0, fun _ _ => none⟩
theorem enter : Enterable P 13 := enter_of (by kernel_rfl)
theorem entry (n : Nat) : (fun x => evalCode (E n) [] (bodyOf P 13) (init sp (funcOf P 13).ntmps x) (endK (E n).te (resOf P 13) sp)) = fun x => f n  := by kernel_rfl
theorem sites_eq (n : Nat) : (sites (E n) (bodyOf P 13) (fun _ => endK (E n).te (resOf P 13) sp)).map (Site.lhs (E n)) = (sites (E n) (bodyOf P 13) (fun _ => endK (E n).te (resOf P 13) sp)).map (Site.rhs (E n)) := by kernel_rfl
theorem ntmps : (funcOf P 13).ntmps = 49 := by kernel_rfl
theorem labs_none : (labs (bodyOf P 13)).isEmpty = true := by kernel_rfl
theorem sat : Sat P (LW ad) 13 sp := sat_by (E := E) mixed enter (fun _ => teOf_ok types_ok) (fun _ => specOf_ok (specs_cons scan_Line.sat scan_Line.enter specs_nil)) (fun _ => rfl) (fun _ => maps_none) (fun _ => ntmps.symm) (by rw [ntmps]; exact Nat.le_of_ble_eq_true rfl) labs_none (g := fun n x => f n ) (fun x => 1000) sites_eq entry (fun _ => rfl)
end rivetlaw14_shown

-- rivet/rivetlaw14.few
namespace rivetlaw14_few
noncomputable def sp : Spec := ⟨⟨[(0, .c .str)], []⟩, ⟨[(0, .c .str)], []⟩, fun x => g x.1⟩
noncomputable def E (n : Nat) : Env sp.r.T := ⟨teOf types, specOf [], fun _ => none, fun _ => none, fun _ => none, n, 8, 0, fun _ _ => none⟩
theorem enter : Enterable P 16 := enter_of (by kernel_rfl)
theorem entry (n : Nat) : (fun x => evalCode (E n) [] (bodyOf P 16) (init sp (funcOf P 16).ntmps x) (endK (E n).te (resOf P 16) sp)) = fun x => f n x.1 := by kernel_rfl
theorem sites_eq (n : Nat) : (sites (E n) (bodyOf P 16) (fun _ => endK (E n).te (resOf P 16) sp)).map (Site.lhs (E n)) = (sites (E n) (bodyOf P 16) (fun _ => endK (E n).te (resOf P 16) sp)).map (Site.rhs (E n)) := by kernel_rfl
theorem ntmps : (funcOf P 16).ntmps = 8 := by kernel_rfl
theorem labs_none : (labs (bodyOf P 16)).isEmpty = true := by kernel_rfl
theorem sat : Sat P (LW ad) 16 sp := sat_by (E := E) mixed enter (fun _ => teOf_ok types_ok) (fun _ => specOf_ok specs_nil) (fun _ => rfl) (fun _ => maps_none) (fun _ => ntmps.symm) (by rw [ntmps]; exact Nat.le_of_ble_eq_true rfl) labs_none (g := fun n x => f n x.1) (fun x => 1000 + x.1.length) sites_eq entry (fun _ => rfl)
end rivetlaw14_few

-- rivet/rivetref14.letter
namespace rivetref14_letter
noncomputable def sp : Spec := ⟨⟨[(0, .c (.int .u8))], []⟩, ⟨[(0, .c .bool)], []⟩, fun x => g x.1⟩
noncomputable def E (n : Nat) : Env sp.r.T := ⟨teOf types, specOf [], fun _ => none, fun _ => none, fun _ => none, n, 21, 0, fun _ _ => none⟩
theorem enter : Enterable P 41 := enter_of (by kernel_rfl)
theorem entry (n : Nat) : (fun x => evalCode (E n) [] (bodyOf P 41) (init sp (funcOf P 41).ntmps x) (endK (E n).te (resOf P 41) sp)) = fun x => f n x.1 := by kernel_rfl
theorem sites_eq (n : Nat) : (sites (E n) (bodyOf P 41) (fun _ => endK (E n).te (resOf P 41) sp)).map (Site.lhs (E n)) = (sites (E n) (bodyOf P 41) (fun _ => endK (E n).te (resOf P 41) sp)).map (Site.rhs (E n)) := by kernel_rfl
theorem ntmps : (funcOf P 41).ntmps = 21 := by kernel_rfl
theorem labs_none : (labs (bodyOf P 41)).isEmpty = true := by kernel_rfl
theorem sat : Sat P (LW ad) 41 sp := sat_by (E := E) mixed enter (fun _ => teOf_ok types_ok) (fun _ => specOf_ok specs_nil) (fun _ => rfl) (fun _ => maps_none) (fun _ => ntmps.symm) (by rw [ntmps]; exact Nat.le_of_ble_eq_true rfl) labs_none (g := fun n x => f n x.1) (fun x => 1000 + x.1.toNat) sites_eq entry (fun _ => rfl)
end rivetref14_letter

-- rivet/rivetref14.digit
namespace rivetref14_digit
noncomputable def sp : Spec := ⟨⟨[(0, .c (.int .u8))], []⟩, ⟨[(0, .c .bool)], []⟩, fun x => g x.1⟩
noncomputable def E (n : Nat) : Env sp.r.T := ⟨teOf types, specOf [], fun _ => none, fun _ => none, fun _ => none, n, 9, 0, fun _ _ => none⟩
theorem enter : Enterable P 43 := enter_of (by kernel_rfl)
theorem entry (n : Nat) : (fun x => evalCode (E n) [] (bodyOf P 43) (init sp (funcOf P 43).ntmps x) (endK (E n).te (resOf P 43) sp)) = fun x => f n x.1 := by kernel_rfl
theorem sites_eq (n : Nat) : (sites (E n) (bodyOf P 43) (fun _ => endK (E n).te (resOf P 43) sp)).map (Site.lhs (E n)) = (sites (E n) (bodyOf P 43) (fun _ => endK (E n).te (resOf P 43) sp)).map (Site.rhs (E n)) := by kernel_rfl
theorem ntmps : (funcOf P 43).ntmps = 9 := by kernel_rfl
theorem labs_none : (labs (bodyOf P 43)).isEmpty = true := by kernel_rfl
theorem sat : Sat P (LW ad) 43 sp := sat_by (E := E) mixed enter (fun _ => teOf_ok types_ok) (fun _ => specOf_ok specs_nil) (fun _ => rfl) (fun _ => maps_none) (fun _ => ntmps.symm) (by rw [ntmps]; exact Nat.le_of_ble_eq_true rfl) labs_none (g := fun n x => f n x.1) (fun x => 1000 + x.1.toNat) sites_eq entry (fun _ => rfl)
end rivetref14_digit

-- rivet/rivetref14.word
namespace rivetref14_word
noncomputable def sp : Spec := ⟨⟨[(0, .c .str)], []⟩, ⟨[(0, .c (.int .i64))], []⟩, fun x => g x.1⟩
noncomputable def E (n : Nat) : Env sp.r.T := ⟨teOf types, specOf [((41, []), rivetref14_letter.sp), ((43, []), rivetref14_digit.sp)], fun r => if r = 3 then some ⟨⟨[(0, .c .str), (3, .c (.int .i64))], []⟩, fun ms x => j3 n (l2 n ms.head!) x.1 x.2.1⟩ else none, fun r => if r = 2 then some ⟨⟨[(0, .c .str), (3, .c (.int .i64))], []⟩, fun ms m x => l2 n m x.1 x.2.1⟩ else none, fun _ => none, n, 23, 0, fun _ _ => none⟩
theorem enter : Enterable P 42 := enter_of (by kernel_rfl)
theorem entry (n : Nat) : (fun x => evalCode (E n) [] (bodyOf P 42) (init sp (funcOf P 42).ntmps x) (endK (E n).te (resOf P 42) sp)) = fun x => f n x.1 := by kernel_rfl
theorem sites_eq (n : Nat) : (sites (E n) (bodyOf P 42) (fun _ => endK (E n).te (resOf P 42) sp)).map (Site.lhs (E n)) = (sites (E n) (bodyOf P 42) (fun _ => endK (E n).te (resOf P 42) sp)).map (Site.rhs (E n)) := by kernel_rfl
theorem ntmps : (funcOf P 42).ntmps = 23 := by kernel_rfl
theorem labs_none : (labs (bodyOf P 42)).isEmpty = true := by kernel_rfl
theorem sat : Sat P (LW ad) 42 sp := sat_by (E := E) mixed enter (fun _ => teOf_ok types_ok) (fun _ => specOf_ok (specs_cons rivetref14_letter.sat rivetref14_letter.enter (specs_cons rivetref14_digit.sat rivetref14_digit.enter specs_nil))) (fun _ => rfl) (fun _ => maps_none) (fun _ => ntmps.symm) (by rw [ntmps]; exact Nat.le_of_ble_eq_true rfl) labs_none (g := fun n x => f n x.1) (fun x => 1000 + x.1.length) sites_eq entry (fun _ => rfl)
end rivetref14_word

-- rivet/rivetref14.sixteen
namespace rivetref14_sixteen
noncomputable def sp : Spec := ⟨⟨[(0, .c (.int .u8))], []⟩, ⟨[(0, .c (.int .i64)), (1, .c .bool)], []⟩, fun x => g x.1⟩
noncomputable def E (n : Nat) : Env sp.r.T := ⟨teOf types, specOf [((43, []), rivetref14_digit.sp)], fun _ => none, fun _ => none, fun _ => none, n, 32, 0, fun _ _ => none⟩
theorem enter : Enterable P 58 := enter_of (by kernel_rfl)
theorem entry (n : Nat) : (fun x => evalCode (E n) [] (bodyOf P 58) (init sp (funcOf P 58).ntmps x) (endK (E n).te (resOf P 58) sp)) = fun x => f n x.1 := by kernel_rfl
theorem sites_eq (n : Nat) : (sites (E n) (bodyOf P 58) (fun _ => endK (E n).te (resOf P 58) sp)).map (Site.lhs (E n)) = (sites (E n) (bodyOf P 58) (fun _ => endK (E n).te (resOf P 58) sp)).map (Site.rhs (E n)) := by kernel_rfl
theorem ntmps : (funcOf P 58).ntmps = 32 := by kernel_rfl
theorem labs_none : (labs (bodyOf P 58)).isEmpty = true := by kernel_rfl
theorem sat : Sat P (LW ad) 58 sp := sat_by (E := E) mixed enter (fun _ => teOf_ok types_ok) (fun _ => specOf_ok (specs_cons rivetref14_digit.sat rivetref14_digit.enter specs_nil)) (fun _ => rfl) (fun _ => maps_none) (fun _ => ntmps.symm) (by rw [ntmps]; exact Nat.le_of_ble_eq_true rfl) labs_none (g := fun n x => f n x.1) (fun x => 1000 + x.1.toNat) sites_eq entry (fun _ => rfl)
end rivetref14_sixteen

-- rivet/rivetref14.number
namespace rivetref14_number
noncomputable def sp : Spec := ⟨⟨[(0, .c .str)], []⟩, ⟨[(0, .c (.int .u32)), (1, .c .bool)], []⟩, fun x => g x.1⟩
noncomputable def E (n : Nat) : Env sp.r.T := ⟨teOf types, specOf [((58, []), rivetref14_sixteen.sp)], fun r => if r = 6 then some ⟨⟨[(0, .c .str), (4, .c (.int .i64)), (5, .c (.int .i64))], []⟩, fun ms x => j6 n x.1 x.2.1 x.2.2.1⟩ else none, fun r => if r = 8 then some ⟨⟨[(0, .c .str), (4, .c (.int .i64)), (6, .c (.int .i64)), (7, .c (.int .i64))], []⟩, fun ms m x => l8 n m x.1 x.2.1 x.2.2.1 x.2.2.2.1⟩ else none, fun _ => none, n, 53, 0, fun _ _ => none⟩
theorem enter : Enterable P 44 := enter_of (by kernel_rfl)
theorem entry (n : Nat) : (fun x => evalCode (E n) [] (bodyOf P 44) (init sp (funcOf P 44).ntmps x) (endK (E n).te (resOf P 44) sp)) = fun x => f n x.1 := by kernel_rfl
theorem sites_eq (n : Nat) : (sites (E n) (bodyOf P 44) (fun _ => endK (E n).te (resOf P 44) sp)).map (Site.lhs (E n)) = (sites (E n) (bodyOf P 44) (fun _ => endK (E n).te (resOf P 44) sp)).map (Site.rhs (E n)) := by kernel_rfl
theorem ntmps : (funcOf P 44).ntmps = 53 := by kernel_rfl
theorem labs_none : (labs (bodyOf P 44)).isEmpty = true := by kernel_rfl
theorem sat : Sat P (LW ad) 44 sp := sat_by (E := E) mixed enter (fun _ => teOf_ok types_ok) (fun _ => specOf_ok (specs_cons rivetref14_sixteen.sat rivetref14_sixteen.enter specs_nil)) (fun _ => rfl) (fun _ => maps_none) (fun _ => ntmps.symm) (by rw [ntmps]; exact Nat.le_of_ble_eq_true rfl) labs_none (g := fun n x => f n x.1) (fun x => 1000 + x.1.length) sites_eq entry (fun _ => rfl)
end rivetref14_number

-- rivet/rivetref14.sign
namespace rivetref14_sign
noncomputable def sp : Spec := ⟨⟨[(0, .c (.int .u8))], []⟩, ⟨[(0, .c .bool)], []⟩, fun x => g x.1⟩
noncomputable def E (n : Nat) : Env sp.r.T := ⟨teOf types, specOf [], fun _ => none, fun r => if r = 3 then some ⟨⟨[(0, .c (.int .u8)), (3, .c .str), (4, .c (.int .i64))], []⟩, fun ms m x => l3 n m x.1 x.2.1 x.2.2.1⟩ else none, fun _ => none, n, 16, 0, fun _ _ => none⟩
theorem enter : Enterable P 45 := enter_of (by kernel_rfl)
theorem entry (n : Nat) : (fun x => evalCode (E n) [] (bodyOf P 45) (init sp (funcOf P 45).ntmps x) (endK (E n).te (resOf P 45) sp)) = fun x => f n x.1 := by kernel_rfl
theorem sites_eq (n : Nat) : (sites (E n) (bodyOf P 45) (fun _ => endK (E n).te (resOf P 45) sp)).map (Site.lhs (E n)) = (sites (E n) (bodyOf P 45) (fun _ => endK (E n).te (resOf P 45) sp)).map (Site.rhs (E n)) := by kernel_rfl
theorem ntmps : (funcOf P 45).ntmps = 16 := by kernel_rfl
theorem labs_none : (labs (bodyOf P 45)).isEmpty = true := by kernel_rfl
theorem sat : Sat P (LW ad) 45 sp := sat_by (E := E) mixed enter (fun _ => teOf_ok types_ok) (fun _ => specOf_ok specs_nil) (fun _ => rfl) (fun _ => maps_none) (fun _ => ntmps.symm) (by rw [ntmps]; exact Nat.le_of_ble_eq_true rfl) labs_none (g := fun n x => f n x.1) (fun x => 1000 + x.1.toNat) sites_eq entry (fun _ => rfl)
end rivetref14_sign

-- rivet/rivetref14.Line
namespace rivetref14_Line
noncomputable def sp : Spec := ⟨⟨[(0, .c .str)], []⟩, ⟨[(0, .c (.row 30 (.pair (.int .i64) (.pair (.int .i64) (.pair .str (.pair (.int .u32) .nil)))))), (1, .c (.int .i64))], []⟩, fun x => g x.1⟩
noncomputable def E (n : Nat) : Env sp.r.T := ⟨teOf types, specOf [((41, []), rivetref14_letter.sp), ((42, []), rivetref14_word.sp), ((43, []), rivetref14_digit.sp), ((44, []), rivetref14_number.sp), ((45, []), rivetref14_sign.sp)], fun r => if r = 26 then some ⟨⟨[(0, .c .str), (4, .c (.row 30 (.pair (.int .i64) (.pair (.int .i64) (.pair .str (.pair (.int .u32) .nil)))))), (5, .c (.int .i64)), (7, .c (.ptr 0 0))], [(some 3, [.int .i64, .int .i64, .str, .int .u32])]⟩, fun ms x => j26 n (l3 n ms.head!) x.1 x.2.1 x.2.2.1 x.2.2.2.2.1 x.2.2.2.2.2.1 x.2.2.2.2.2.2.1 x.2.2.2.2.2.2.2.1⟩ else if r = 25 then some ⟨⟨[(0, .c .str), (4, .c (.row 30 (.pair (.int .i64) (.pair (.int .i64) (.pair .str (.pair (.int .u32) .nil)))))), (5, .c (.int .i64)), (7, .c (.ptr 0 0))], [(some 3, [.int .i64, .int .i64, .str, .int .u32])]⟩, fun ms x => j25 n (l3 n ms.head!) x.1 x.2.1 x.2.2.1 x.2.2.2.2.1 x.2.2.2.2.2.1 x.2.2.2.2.2.2.1 x.2.2.2.2.2.2.2.1⟩ else none, fun r => if r = 3 then some ⟨⟨[(0, .c .str), (4, .c (.row 30 (.pair (.int .i64) (.pair (.int .i64) (.pair .str (.pair (.int .u32) .nil)))))), (5, .c (.int .i64))], []⟩, fun ms m x => l3 n m x.1 x.2.1 x.2.2.1⟩ else none, fun _ => none, n, 126, 0, fun _ _ => none⟩
theorem enter : Enterable P 18 := enter_of (by kernel_rfl)
theorem entry (n : Nat) : (fun x => evalCode (E n) [] (bodyOf P 18) (init sp (funcOf P 18).ntmps x) (endK (E n).te (resOf P 18) sp)) = fun x => f n x.1 := by kernel_rfl
theorem sites_eq (n : Nat) : (sites (E n) (bodyOf P 18) (fun _ => endK (E n).te (resOf P 18) sp)).map (Site.lhs (E n)) = (sites (E n) (bodyOf P 18) (fun _ => endK (E n).te (resOf P 18) sp)).map (Site.rhs (E n)) := by kernel_rfl
theorem ntmps : (funcOf P 18).ntmps = 126 := by kernel_rfl
theorem labs_none : (labs (bodyOf P 18)).isEmpty = true := by kernel_rfl
theorem sat : Sat P (LW ad) 18 sp := sat_by (E := E) mixed enter (fun _ => teOf_ok types_ok) (fun _ => specOf_ok (specs_cons rivetref14_letter.sat rivetref14_letter.enter (specs_cons rivetref14_word.sat rivetref14_word.enter (specs_cons rivetref14_digit.sat rivetref14_digit.enter (specs_cons rivetref14_number.sat rivetref14_number.enter (specs_cons rivetref14_sign.sat rivetref14_sign.enter specs_nil)))))) (fun _ => rfl) (fun _ => maps_none) (fun _ => ntmps.symm) (by rw [ntmps]; exact Nat.le_of_ble_eq_true rfl) labs_none (g := fun n x => f n x.1) (fun x => 1000 + x.1.length) sites_eq entry (fun _ => rfl)
end rivetref14_Line

-- rivet/rivetref14.Same
namespace rivetref14_Same
noncomputable def sp : Spec := ⟨⟨[(0, .c (.sl (.pair (.int .i64) (.pair (.int .i64) (.pair .str (.pair (.int .u32) .nil)))))), (1, .c (.sl (.pair (.int .i64) (.pair (.int .i64) (.pair .str (.pair (.int .u32) .nil))))))], []⟩, ⟨[(0, .c .bool)], []⟩, fun x => g x.1 x.2.1⟩
noncomputable def E (n : Nat) : Env sp.r.T := ⟨teOf types, specOf [], fun _ => none, fun r => if r = 4 then some ⟨⟨[(0, .c (.sl (.pair (.int .i64) (.pair (.int .i64) (.pair .str (.pair (.int .u32) .nil)))))), (1, .c (.sl (.pair (.int .i64) (.pair (.int .i64) (.pair .str (.pair (.int .u32) .nil)))))), (5, .c (.int .i64))], []⟩, fun ms m x => l4 n m x.1 x.2.1 x.2.2.1⟩ else none, fun _ => none, n, 26, 0, fun _ _ => none⟩
theorem enter : Enterable P 17 := enter_of (by kernel_rfl)
theorem entry (n : Nat) : (fun x => evalCode (E n) [] (bodyOf P 17) (init sp (funcOf P 17).ntmps x) (endK (E n).te (resOf P 17) sp)) = fun x => f n x.1 x.2.1 := by kernel_rfl
theorem sites_eq (n : Nat) : (sites (E n) (bodyOf P 17) (fun _ => endK (E n).te (resOf P 17) sp)).map (Site.lhs (E n)) = (sites (E n) (bodyOf P 17) (fun _ => endK (E n).te (resOf P 17) sp)).map (Site.rhs (E n)) := by kernel_rfl
theorem ntmps : (funcOf P 17).ntmps = 26 := by kernel_rfl
theorem labs_none : (labs (bodyOf P 17)).isEmpty = true := by kernel_rfl
theorem sat : Sat P (LW ad) 17 sp := sat_by (E := E) mixed enter (fun _ => teOf_ok types_ok) (fun _ => specOf_ok specs_nil) (fun _ => rfl) (fun _ => maps_none) (fun _ => ntmps.symm) (by rw [ntmps]; exact Nat.le_of_ble_eq_true rfl) labs_none (g := fun n x => f n x.1 x.2.1) (fun x => 1000 + x.1.length + x.2.1.length) sites_eq entry (fun _ => rfl)
end rivetref14_Same

-- rivet/rivetlaw14.short
namespace rivetlaw14_short
noncomputable def sp : Spec := ⟨⟨[(0, .c (.sl (.pair (.int .i64) (.pair (.int .i64) (.pair .str (.pair (.int .u32) .nil))))))], []⟩, ⟨[(0, .c (.row 30 (.pair (.int .i64) (.pair (.int .i64) (.pair .str (.pair (.int .u32) .nil))))))], []⟩, fun x => g x.1⟩
noncomputable def E (n : Nat) : Env sp.r.T := ⟨teOf types, specOf [], fun _ => none, fun r => if r = 3 then some ⟨⟨[(0, .c (.sl (.pair (.int .i64) (.pair (.int .i64) (.pair .str (.pair (.int .u32) .nil)))))), (3, .c (.row 30 (.pair (.int .i64) (.pair (.int .i64) (.pair .str (.pair (.int .u32) .nil)))))), (4, .c (.int .i64))], []⟩, fun ms m x => l3 n m x.1 x.2.1 x.2.2.1⟩ else none, fun _ => none, n, 34, 0, fun _ _ => none⟩
theorem enter : Enterable P 20 := enter_of (by kernel_rfl)
theorem entry (n : Nat) : (fun x => evalCode (E n) [] (bodyOf P 20) (init sp (funcOf P 20).ntmps x) (endK (E n).te (resOf P 20) sp)) = fun x => f n x.1 := by kernel_rfl
theorem sites_eq (n : Nat) : (sites (E n) (bodyOf P 20) (fun _ => endK (E n).te (resOf P 20) sp)).map (Site.lhs (E n)) = (sites (E n) (bodyOf P 20) (fun _ => endK (E n).te (resOf P 20) sp)).map (Site.rhs (E n)) := by kernel_rfl
theorem ntmps : (funcOf P 20).ntmps = 34 := by kernel_rfl
theorem labs_none : (labs (bodyOf P 20)).isEmpty = true := by kernel_rfl
theorem sat : Sat P (LW ad) 20 sp := sat_by (E := E) mixed enter (fun _ => teOf_ok types_ok) (fun _ => specOf_ok specs_nil) (fun _ => rfl) (fun _ => maps_none) (fun _ => ntmps.symm) (by rw [ntmps]; exact Nat.le_of_ble_eq_true rfl) labs_none (g := fun n x => f n x.1) (fun x => 1000 + x.1.length) sites_eq entry (fun _ => rfl)
end rivetlaw14_short

-- rivet/rivetref14.Join
namespace rivetref14_Join
noncomputable def sp : Spec := ⟨⟨[(0, .c (.sl (.pair (.int .i64) (.pair (.int .i64) (.pair .str (.pair (.int .u32) .nil))))))], []⟩, ⟨[(0, .c .str)], []⟩, fun x => g x.1⟩
noncomputable def E (n : Nat) : Env sp.r.T := ⟨teOf types, specOf [], fun r => if r = 7 then some ⟨⟨[(0, .c (.sl (.pair (.int .i64) (.pair (.int .i64) (.pair .str (.pair (.int .u32) .nil)))))), (3, .c .str), (4, .c (.int .i64))], []⟩, fun ms x => j7 n (l3 n ms.head!) x.1 x.2.1 x.2.2.1⟩ else none, fun r => if r = 3 then some ⟨⟨[(0, .c (.sl (.pair (.int .i64) (.pair (.int .i64) (.pair .str (.pair (.int .u32) .nil)))))), (3, .c .str), (4, .c (.int .i64))], []⟩, fun ms m x => l3 n m x.1 x.2.1 x.2.2.1⟩ else none, fun _ => none, n, 28, 0, fun _ _ => none⟩
theorem enter : Enterable P 21 := enter_of (by kernel_rfl)
theorem entry (n : Nat) : (fun x => evalCode (E n) [] (bodyOf P 21) (init sp (funcOf P 21).ntmps x) (endK (E n).te (resOf P 21) sp)) = fun x => f n x.1 := by kernel_rfl
theorem sites_eq (n : Nat) : (sites (E n) (bodyOf P 21) (fun _ => endK (E n).te (resOf P 21) sp)).map (Site.lhs (E n)) = (sites (E n) (bodyOf P 21) (fun _ => endK (E n).te (resOf P 21) sp)).map (Site.rhs (E n)) := by kernel_rfl
theorem ntmps : (funcOf P 21).ntmps = 28 := by kernel_rfl
theorem labs_none : (labs (bodyOf P 21)).isEmpty = true := by kernel_rfl
theorem sat : Sat P (LW ad) 21 sp := sat_by (E := E) mixed enter (fun _ => teOf_ok types_ok) (fun _ => specOf_ok specs_nil) (fun _ => rfl) (fun _ => maps_none) (fun _ => ntmps.symm) (by rw [ntmps]; exact Nat.le_of_ble_eq_true rfl) labs_none (g := fun n x => f n x.1) (fun x => 1000 + x.1.length) sites_eq entry (fun _ => rfl)
end rivetref14_Join

-- rivet/rivetlaw14.ScanAll
namespace rivetlaw14_ScanAll
noncomputable def sp : Spec := ⟨⟨[(0, .c .str), (1, .c (.sl (.pair (.int .i64) (.pair (.int .i64) (.pair .str (.pair (.int .u32) .nil))))))], []⟩, ⟨[(0, .c .bool)], []⟩, fun x => g x.1 x.2.1⟩
noncomputable def E (n : Nat) : Env sp.r.T := ⟨teOf types, specOf [((13, []), rivetlaw14_shown.sp), ((16, []), rivetlaw14_few.sp), ((14, []), scan_Line.sp), ((18, []), rivetref14_Line.sp), ((17, []), rivetref14_Same.sp), ((20, []), rivetlaw14_short.sp), ((19, []), scan_Join.sp), ((21, []), rivetref14_Join.sp)], fun _ => none, fun _ => none, fun _ => none, n, 43, 0, fun _ _ => none⟩
theorem enter : Enterable P 6 := enter_of (by kernel_rfl)
theorem entry (n : Nat) : (fun x => evalCode (E n) [] (bodyOf P 6) (init sp (funcOf P 6).ntmps x) (endK (E n).te (resOf P 6) sp)) = fun x => f n x.1 x.2.1 := by kernel_rfl
theorem sites_eq (n : Nat) : (sites (E n) (bodyOf P 6) (fun _ => endK (E n).te (resOf P 6) sp)).map (Site.lhs (E n)) = (sites (E n) (bodyOf P 6) (fun _ => endK (E n).te (resOf P 6) sp)).map (Site.rhs (E n)) := by kernel_rfl
theorem ntmps : (funcOf P 6).ntmps = 43 := by kernel_rfl
theorem labs_none : (labs (bodyOf P 6)).isEmpty = true := by kernel_rfl
theorem sat : Sat P (LW ad) 6 sp := sat_by (E := E) mixed enter (fun _ => teOf_ok types_ok) (fun _ => specOf_ok (specs_cons rivetlaw14_shown.sat rivetlaw14_shown.enter (specs_cons rivetlaw14_few.sat rivetlaw14_few.enter (specs_cons scan_Line.sat scan_Line.enter (specs_cons rivetref14_Line.sat rivetref14_Line.enter (specs_cons rivetref14_Same.sat rivetref14_Same.enter (specs_cons rivetlaw14_short.sat rivetlaw14_short.enter (specs_cons scan_Join.sat scan_Join.enter (specs_cons rivetref14_Join.sat rivetref14_Join.enter specs_nil))))))))) (fun _ => rfl) (fun _ => maps_none) (fun _ => ntmps.symm) (by rw [ntmps]; exact Nat.le_of_ble_eq_true rfl) labs_none (g := fun n x => f n x.1 x.2.1) (fun x => 1000 + x.1.length + x.2.1.length) sites_eq entry (fun _ => rfl)
end rivetlaw14_ScanAll

-- rivet/rivetlaw14.ScanBack
namespace rivetlaw14_ScanBack
noncomputable def sp : Spec := ⟨⟨[(0, .c .str), (1, .c .str)], []⟩, ⟨[(0, .c .bool)], []⟩, fun x => g x.1 x.2.1⟩
noncomputable def E (n : Nat) : Env sp.r.T := ⟨teOf types, specOf [((13, []), rivetlaw14_shown.sp), ((16, []), rivetlaw14_few.sp), ((14, []), scan_Line.sp), ((19, []), scan_Join.sp)], fun r => if r = 19 then some ⟨⟨[(6, .c (.row 30 (.pair (.int .i64) (.pair (.int .i64) (.pair .str (.pair (.int .u32) .nil)))))), (9, .c (.row 30 (.pair (.int .i64) (.pair (.int .i64) (.pair .str (.pair (.int .u32) .nil)))))), (11, .c (.row 30 (.pair (.int .i64) (.pair (.int .i64) (.pair .str (.pair (.int .u32) .nil)))))), (13, .c (.int .i64)), (14, .c (.int .i64)), (15, .c (.ptr 0 0))], [(some 5, [.int .i64, .int .i64, .str, .int .u32])]⟩, fun ms x => j19 n (l12 n ms.head!) x.1 x.2.1 x.2.2.1 x.2.2.2.1 x.2.2.2.2.1 x.2.2.2.2.2.2.1 x.2.2.2.2.2.2.2.1 x.2.2.2.2.2.2.2.2.1 x.2.2.2.2.2.2.2.2.2.1⟩ else none, fun r => if r = 12 then some ⟨⟨[(6, .c (.row 30 (.pair (.int .i64) (.pair (.int .i64) (.pair .str (.pair (.int .u32) .nil)))))), (9, .c (.row 30 (.pair (.int .i64) (.pair (.int .i64) (.pair .str (.pair (.int .u32) .nil)))))), (11, .c (.row 30 (.pair (.int .i64) (.pair (.int .i64) (.pair .str (.pair (.int .u32) .nil)))))), (13, .c (.int .i64)), (14, .c (.int .i64))], []⟩, fun ms m x => l12 n m x.1 x.2.1 x.2.2.1 x.2.2.2.1 x.2.2.2.2.1⟩ else none, fun _ => none, n, 116, 0, fun _ _ => none⟩
theorem enter : Enterable P 7 := enter_of (by kernel_rfl)
theorem entry (n : Nat) : (fun x => evalCode (E n) [] (bodyOf P 7) (init sp (funcOf P 7).ntmps x) (endK (E n).te (resOf P 7) sp)) = fun x => f n x.1 x.2.1 := by kernel_rfl
theorem sites_eq (n : Nat) : (sites (E n) (bodyOf P 7) (fun _ => endK (E n).te (resOf P 7) sp)).map (Site.lhs (E n)) = (sites (E n) (bodyOf P 7) (fun _ => endK (E n).te (resOf P 7) sp)).map (Site.rhs (E n)) := by kernel_rfl
theorem ntmps : (funcOf P 7).ntmps = 116 := by kernel_rfl
theorem labs_none : (labs (bodyOf P 7)).isEmpty = true := by kernel_rfl
theorem sat : Sat P (LW ad) 7 sp := sat_by (E := E) mixed enter (fun _ => teOf_ok types_ok) (fun _ => specOf_ok (specs_cons rivetlaw14_shown.sat rivetlaw14_shown.enter (specs_cons rivetlaw14_few.sat rivetlaw14_few.enter (specs_cons scan_Line.sat scan_Line.enter (specs_cons scan_Join.sat scan_Join.enter specs_nil))))) (fun _ => rfl) (fun _ => maps_none) (fun _ => ntmps.symm) (by rw [ntmps]; exact Nat.le_of_ble_eq_true rfl) labs_none (g := fun n x => f n x.1 x.2.1) (fun x => 1000 + x.1.length + x.2.1.length) sites_eq entry (fun _ => rfl)
end rivetlaw14_ScanBack

end
end Rv
