/- The functions do what their plain texts say, printed by gen.py (a program of this work's own). -/
import Derived.Test.YtlbfhddhojejfaaDoorDef
import Derived.Test.YtlbfhddhojejfaaDoorLibS
set_option linter.all false
namespace Rv
open Go Go.Proofs
noncomputable section
set_option maxRecDepth 100000
set_option linter.unusedVariables false

noncomputable def types : List (TypeId × TI) := [
  (3, ⟨1, false, 8, [.int .i64 0], [], none, some (.int .i64), some .i64, false, false, true, none⟩),
  (5, ⟨1, false, 1, [.int .u8 0], [], none, some (.int .u8), some .u8, false, false, true, none⟩),
  (9, ⟨1, false, 16, [.str []], [], none, some .str, none, true, false, false, none⟩),
  (22, ⟨1, false, 4, [.int .u32 0], [], none, some (.int .u32), some .u32, false, false, true, none⟩),
  (24, ⟨1, false, 24, [.nilS], [], some 30, some (.sl (.pair (.int .i64) (.pair (.int .i64) (.pair .str (.pair (.int .u32) .nil))))), none, false, false, false, none⟩),
  (30, ⟨4, true, 40, [.int .i64 0, .int .i64 0, .str [], .int .u32 0], [(0, 1, false), (1, 1, false), (2, 1, false), (3, 1, false)], none, some (.pair (.int .i64) (.pair (.int .i64) (.pair .str (.pair (.int .u32) .nil)))), none, false, false, false, some (.pair (.int .i64) (.pair (.int .i64) (.pair .str (.pair (.int .u32) .nil))))⟩),
  (32, ⟨1, false, 24, [.nilS], [], some 5, some (.sl (.int .u8)), none, false, false, false, none⟩),
  (64, ⟨1, false, 16, [.raw .nilIface], [], none, none, none, false, true, false, none⟩),
  (76, ⟨1, false, 8, [.int .u64 0], [], none, some (.int .u64), some .u64, false, false, true, none⟩),
  (102, ⟨1, false, 8, [.int .i64 0], [], none, some (.int .i64), some .i64, false, false, true, none⟩),
  (109, ⟨1, false, 8, [.int .u64 0], [], none, some (.int .u64), some .u64, false, false, true, none⟩)]
theorem types_ok : (types.all fun p => checkTI P p.1 p.2) = true := by kernel_rfl

-- rivet/scan.letter
namespace scan_letter
noncomputable def sp : Spec := ⟨⟨[(0, .c (.int .u8))], []⟩, ⟨[(0, .c .bool)], []⟩, fun x => g x.1⟩
noncomputable def specs : List (FuncId × Spec) := []
noncomputable def E (n : Nat) : Env sp.r.T := ⟨teOf types, specOf specs, fun _ => none, fun _ => none, fun _ => none, n, 21⟩
theorem enter : Enterable P 35 := enter_of (by kernel_rfl)
theorem entry (n : Nat) : (fun x => evalCode (E n) [] (bodyOf P 35) (init sp (funcOf P 35).ntmps x) (endK (E n).te (resOf P 35) sp)) = fun x => f n x.1 := by kernel_rfl
theorem sites_eq (n : Nat) : (sites (E n) (bodyOf P 35) (fun _ => endK (E n).te (resOf P 35) sp)).map (Site.lhs (E n)) = (sites (E n) (bodyOf P 35) (fun _ => endK (E n).te (resOf P 35) sp)).map (Site.rhs (E n)) := by kernel_rfl
theorem ntmps : (funcOf P 35).ntmps = 21 := by kernel_rfl
theorem labs_none : (labs (bodyOf P 35)).isEmpty = true := by kernel_rfl
theorem sat : Sat P LW 35 sp := sat_by (E := E) mixed enter (fun _ => teOf_ok types_ok) (fun _ => specOf_ok specs_nil) (fun _ => ntmps.symm) (by rw [ntmps]; decide) labs_none (g := fun n x => f n x.1) (fun x => 1000 + x.1.toNat) sites_eq entry (fun _ => rfl)
end scan_letter

-- rivet/scan.digit
namespace scan_digit
noncomputable def sp : Spec := ⟨⟨[(0, .c (.int .u8))], []⟩, ⟨[(0, .c .bool)], []⟩, fun x => g x.1⟩
noncomputable def specs : List (FuncId × Spec) := []
noncomputable def E (n : Nat) : Env sp.r.T := ⟨teOf types, specOf specs, fun _ => none, fun _ => none, fun _ => none, n, 9⟩
theorem enter : Enterable P 37 := enter_of (by kernel_rfl)
theorem entry (n : Nat) : (fun x => evalCode (E n) [] (bodyOf P 37) (init sp (funcOf P 37).ntmps x) (endK (E n).te (resOf P 37) sp)) = fun x => f n x.1 := by kernel_rfl
theorem sites_eq (n : Nat) : (sites (E n) (bodyOf P 37) (fun _ => endK (E n).te (resOf P 37) sp)).map (Site.lhs (E n)) = (sites (E n) (bodyOf P 37) (fun _ => endK (E n).te (resOf P 37) sp)).map (Site.rhs (E n)) := by kernel_rfl
theorem ntmps : (funcOf P 37).ntmps = 9 := by kernel_rfl
theorem labs_none : (labs (bodyOf P 37)).isEmpty = true := by kernel_rfl
theorem sat : Sat P LW 37 sp := sat_by (E := E) mixed enter (fun _ => teOf_ok types_ok) (fun _ => specOf_ok specs_nil) (fun _ => ntmps.symm) (by rw [ntmps]; decide) labs_none (g := fun n x => f n x.1) (fun x => 1000 + x.1.toNat) sites_eq entry (fun _ => rfl)
end scan_digit

-- rivet/scan.word
namespace scan_word
noncomputable def sp : Spec := ⟨⟨[(0, .c .str)], []⟩, ⟨[(0, .c .str)], []⟩, fun x => g x.1⟩
noncomputable def specs : List (FuncId × Spec) := [(35, scan_letter.sp), (37, scan_digit.sp)]
noncomputable def E (n : Nat) : Env sp.r.T := ⟨teOf types, specOf specs, fun r => if r = 3 then some ⟨⟨[(0, .c .str), (3, .c (.int .i64))], []⟩, fun ms x => j3 n (l2 n ms.head!) x.1 x.2.1⟩ else if r = 4 then some ⟨⟨[(0, .c .str), (3, .c (.int .i64))], []⟩, fun ms x => j4 n x.1 x.2.1⟩ else none, fun r => if r = 2 then some ⟨⟨[(0, .c .str), (3, .c (.int .i64))], []⟩, fun ms m x => l2 n m x.1 x.2.1⟩ else none, fun _ => none, n, 25⟩
theorem enter : Enterable P 36 := enter_of (by kernel_rfl)
theorem entry (n : Nat) : (fun x => evalCode (E n) [] (bodyOf P 36) (init sp (funcOf P 36).ntmps x) (endK (E n).te (resOf P 36) sp)) = fun x => f n x.1 := by kernel_rfl
theorem sites_eq (n : Nat) : (sites (E n) (bodyOf P 36) (fun _ => endK (E n).te (resOf P 36) sp)).map (Site.lhs (E n)) = (sites (E n) (bodyOf P 36) (fun _ => endK (E n).te (resOf P 36) sp)).map (Site.rhs (E n)) := by kernel_rfl
theorem ntmps : (funcOf P 36).ntmps = 25 := by kernel_rfl
theorem labs_none : (labs (bodyOf P 36)).isEmpty = true := by kernel_rfl
theorem sat : Sat P LW 36 sp := sat_by (E := E) mixed enter (fun _ => teOf_ok types_ok) (fun _ => specOf_ok (specs_cons scan_letter.sat scan_letter.enter (specs_cons scan_digit.sat scan_digit.enter specs_nil))) (fun _ => ntmps.symm) (by rw [ntmps]; decide) labs_none (g := fun n x => f n x.1) (fun x => 1000 + x.1.length) sites_eq entry (fun _ => rfl)
end scan_word

-- internal/strconv.lower
namespace internal_strconv_lower
noncomputable def sp : Spec := ⟨⟨[(0, .c (.int .u8))], []⟩, ⟨[(0, .c (.int .u8))], []⟩, fun x => g x.1⟩
noncomputable def specs : List (FuncId × Spec) := []
noncomputable def E (n : Nat) : Env sp.r.T := ⟨teOf types, specOf specs, fun _ => none, fun _ => none, fun _ => none, n, 5⟩
theorem enter : Enterable P 97 := enter_of (by kernel_rfl)
theorem entry (n : Nat) : (fun x => evalCode (E n) [] (bodyOf P 97) (init sp (funcOf P 97).ntmps x) (endK (E n).te (resOf P 97) sp)) = fun x => f n x.1 := by kernel_rfl
theorem sites_eq (n : Nat) : (sites (E n) (bodyOf P 97) (fun _ => endK (E n).te (resOf P 97) sp)).map (Site.lhs (E n)) = (sites (E n) (bodyOf P 97) (fun _ => endK (E n).te (resOf P 97) sp)).map (Site.rhs (E n)) := by kernel_rfl
theorem ntmps : (funcOf P 97).ntmps = 5 := by kernel_rfl
theorem labs_none : (labs (bodyOf P 97)).isEmpty = true := by kernel_rfl
theorem sat : Sat P LW 97 sp := sat_by (E := E) mixed enter (fun _ => teOf_ok types_ok) (fun _ => specOf_ok specs_nil) (fun _ => ntmps.symm) (by rw [ntmps]; decide) labs_none (g := fun n x => f n x.1) (fun x => 1000 + x.1.toNat) sites_eq entry (fun _ => rfl)
end internal_strconv_lower

-- internal/strconv.ParseUint
namespace internal_strconv_ParseUint
noncomputable def sp : Spec := ⟨⟨[(0, .c .str), (1, .c (.int .i64)), (2, .c (.int .i64))], []⟩, ⟨[(0, .c (.int .u64)), (1, .c (.ifo 102 .i64))], []⟩, fun x => g x.1 x.2.1 x.2.2.1⟩
noncomputable def specs : List (FuncId × Spec) := [(97, internal_strconv_lower.sp), (98, internal_strconv_underscoreOK.sp)]
noncomputable def E (n : Nat) : Env sp.r.T := ⟨teOf types, specOf specs, fun r => if r = 55 then some ⟨⟨[(1, .c (.int .i64)), (8, .c .bool), (9, .c .str), (10, .c (.int .u64)), (11, .c (.int .u64)), (12, .c .bool), (13, .c (.int .u64)), (99, .c (.sl (.int .u8))), (100, .c (.int .i64)), (101, .c (.int .i64))], []⟩, fun ms x => j55 n (l36 n ms.head!) x.1 x.2.1 x.2.2.1 x.2.2.2.1 x.2.2.2.2.1 x.2.2.2.2.2.1 x.2.2.2.2.2.2.1 x.2.2.2.2.2.2.2.1 x.2.2.2.2.2.2.2.2.1 x.2.2.2.2.2.2.2.2.2.1⟩ else if r = 46 then some ⟨⟨[(1, .c (.int .i64)), (8, .c .bool), (9, .c .str), (10, .c (.int .u64)), (11, .c (.int .u64)), (12, .c .bool), (13, .c (.int .u64)), (16, .c (.int .u8)), (99, .c (.sl (.int .u8))), (100, .c (.int .i64)), (101, .c (.int .i64))], []⟩, fun ms x => j46 n (l36 n ms.head!) x.1 x.2.1 x.2.2.1 x.2.2.2.1 x.2.2.2.2.1 x.2.2.2.2.2.1 x.2.2.2.2.2.2.1 x.2.2.2.2.2.2.2.1 x.2.2.2.2.2.2.2.2.1 x.2.2.2.2.2.2.2.2.2.1 x.2.2.2.2.2.2.2.2.2.2.1⟩ else if r = 32 then some ⟨⟨[(0, .c .str), (1, .c (.int .i64)), (2, .c (.int .i64)), (8, .c .bool), (9, .c .str), (10, .c (.int .u64))], []⟩, fun ms x => j32 n x.1 x.2.1 x.2.2.1 x.2.2.2.1 x.2.2.2.2.1 x.2.2.2.2.2.1⟩ else if r = 25 then some ⟨⟨[(0, .c .str), (1, .c (.int .i64)), (2, .c (.int .i64)), (8, .c .bool), (9, .c .str)], []⟩, fun ms x => j25 n x.1 x.2.1 x.2.2.1 x.2.2.2.1 x.2.2.2.2.1⟩ else if r = 21 then some ⟨⟨[(0, .c .str), (1, .c (.int .i64)), (2, .c (.int .i64)), (8, .c .bool), (9, .c .str)], []⟩, fun ms x => j21 n x.1 x.2.1 x.2.2.1 x.2.2.2.1 x.2.2.2.2.1⟩ else if r = 17 then some ⟨⟨[(0, .c .str), (1, .c (.int .i64)), (2, .c (.int .i64)), (8, .c .bool), (9, .c .str)], []⟩, fun ms x => j17 n x.1 x.2.1 x.2.2.1 x.2.2.2.1 x.2.2.2.2.1⟩ else if r = 20 then some ⟨⟨[(0, .c .str), (1, .c (.int .i64)), (2, .c (.int .i64)), (8, .c .bool), (9, .c .str)], []⟩, fun ms x => j20 n x.1 x.2.1 x.2.2.1 x.2.2.2.1 x.2.2.2.2.1⟩ else if r = 11 then some ⟨⟨[(0, .c .str), (1, .c (.int .i64)), (2, .c (.int .i64)), (8, .c .bool), (9, .c .str)], []⟩, fun ms x => j11 n x.1 x.2.1 x.2.2.1 x.2.2.2.1 x.2.2.2.2.1⟩ else if r = 9 then some ⟨⟨[(0, .c .str), (1, .c (.int .i64)), (2, .c (.int .i64)), (8, .c .bool), (9, .c .str)], []⟩, fun ms x => j9 n x.1 x.2.1 x.2.2.1 x.2.2.2.1 x.2.2.2.2.1⟩ else none, fun r => if r = 36 then some ⟨⟨[(1, .c (.int .i64)), (8, .c .bool), (9, .c .str), (10, .c (.int .u64)), (11, .c (.int .u64)), (12, .c .bool), (13, .c (.int .u64)), (99, .c (.sl (.int .u8))), (100, .c (.int .i64)), (101, .c (.int .i64))], []⟩, fun ms m x => l36 n m x.1 x.2.1 x.2.2.1 x.2.2.2.1 x.2.2.2.2.1 x.2.2.2.2.2.1 x.2.2.2.2.2.2.1 x.2.2.2.2.2.2.2.1 x.2.2.2.2.2.2.2.2.1 x.2.2.2.2.2.2.2.2.2.1⟩ else none, fun _ => none, n, 172⟩
theorem enter : Enterable P 78 := enter_of (by kernel_rfl)
theorem entry (n : Nat) : (fun x => evalCode (E n) [] (bodyOf P 78) (init sp (funcOf P 78).ntmps x) (endK (E n).te (resOf P 78) sp)) = fun x => f n x.1 x.2.1 x.2.2.1 := by kernel_rfl
theorem sites_eq (n : Nat) : (sites (E n) (bodyOf P 78) (fun _ => endK (E n).te (resOf P 78) sp)).map (Site.lhs (E n)) = (sites (E n) (bodyOf P 78) (fun _ => endK (E n).te (resOf P 78) sp)).map (Site.rhs (E n)) := by kernel_rfl
theorem ntmps : (funcOf P 78).ntmps = 172 := by kernel_rfl
theorem labs_none : (labs (bodyOf P 78)).isEmpty = true := by kernel_rfl
theorem sat : Sat P LW 78 sp := sat_by (E := E) mixed enter (fun _ => teOf_ok types_ok) (fun _ => specOf_ok (specs_cons internal_strconv_lower.sat internal_strconv_lower.enter (specs_cons internal_strconv_underscoreOK.sat internal_strconv_underscoreOK.enter specs_nil))) (fun _ => ntmps.symm) (by rw [ntmps]; decide) labs_none (g := fun n x => f n x.1 x.2.1 x.2.2.1) (fun x => 1000 + x.1.length + x.2.1.toNat + x.2.2.1.toNat) sites_eq entry (fun _ => rfl)
end internal_strconv_ParseUint

-- strconv.ParseUint
namespace strconv_ParseUint
noncomputable def sp : Spec := ⟨⟨[(0, .c .str), (1, .c (.int .i64)), (2, .c (.int .i64))], []⟩, ⟨[(0, .c (.int .u64)), (1, .c .err)], []⟩, fun x => g x.1 x.2.1 x.2.2.1⟩
noncomputable def specs : List (FuncId × Spec) := [(78, internal_strconv_ParseUint.sp), (73, strconv_toError.sp)]
noncomputable def E (n : Nat) : Env sp.r.T := ⟨teOf types, specOf specs, fun _ => none, fun _ => none, fun _ => none, n, 26⟩
theorem enter : Enterable P 56 := enter_of (by kernel_rfl)
theorem entry (n : Nat) : (fun x => evalCode (E n) [] (bodyOf P 56) (init sp (funcOf P 56).ntmps x) (endK (E n).te (resOf P 56) sp)) = fun x => f n x.1 x.2.1 x.2.2.1 := by kernel_rfl
theorem sites_eq (n : Nat) : (sites (E n) (bodyOf P 56) (fun _ => endK (E n).te (resOf P 56) sp)).map (Site.lhs (E n)) = (sites (E n) (bodyOf P 56) (fun _ => endK (E n).te (resOf P 56) sp)).map (Site.rhs (E n)) := by kernel_rfl
theorem ntmps : (funcOf P 56).ntmps = 26 := by kernel_rfl
theorem labs_none : (labs (bodyOf P 56)).isEmpty = true := by kernel_rfl
theorem sat : Sat P LW 56 sp := sat_by (E := E) mixed enter (fun _ => teOf_ok types_ok) (fun _ => specOf_ok (specs_cons internal_strconv_ParseUint.sat internal_strconv_ParseUint.enter (specs_cons strconv_toError.sat strconv_toError.enter specs_nil))) (fun _ => ntmps.symm) (by rw [ntmps]; decide) labs_none (g := fun n x => f n x.1 x.2.1 x.2.2.1) (fun x => 1000 + x.1.length + x.2.1.toNat + x.2.2.1.toNat) sites_eq entry (fun _ => rfl)
end strconv_ParseUint

-- rivet/scan.number
namespace scan_number
noncomputable def sp : Spec := ⟨⟨[(0, .c .str)], []⟩, ⟨[(0, .c (.int .u32)), (1, .c .bool)], []⟩, fun x => g x.1⟩
noncomputable def specs : List (FuncId × Spec) := [(51, strings_CutPrefix.sp), (55, strings_Contains.sp), (56, strconv_ParseUint.sp)]
noncomputable def E (n : Nat) : Env sp.r.T := ⟨teOf types, specOf specs, fun r => if r = 5 then some ⟨⟨[(0, .c .str), (4, .c (.int .i64))], []⟩, fun ms x => j5 n x.1 x.2.1⟩ else none, fun _ => none, fun _ => none, n, 28⟩
theorem enter : Enterable P 38 := enter_of (by kernel_rfl)
theorem entry (n : Nat) : (fun x => evalCode (E n) [] (bodyOf P 38) (init sp (funcOf P 38).ntmps x) (endK (E n).te (resOf P 38) sp)) = fun x => f n x.1 := by kernel_rfl
theorem sites_eq (n : Nat) : (sites (E n) (bodyOf P 38) (fun _ => endK (E n).te (resOf P 38) sp)).map (Site.lhs (E n)) = (sites (E n) (bodyOf P 38) (fun _ => endK (E n).te (resOf P 38) sp)).map (Site.rhs (E n)) := by kernel_rfl
theorem ntmps : (funcOf P 38).ntmps = 28 := by kernel_rfl
theorem labs_none : (labs (bodyOf P 38)).isEmpty = true := by kernel_rfl
theorem sat : Sat P LW 38 sp := sat_by (E := E) mixed enter (fun _ => teOf_ok types_ok) (fun _ => specOf_ok (specs_cons strings_CutPrefix.sat strings_CutPrefix.enter (specs_cons strings_Contains.sat strings_Contains.enter (specs_cons strconv_ParseUint.sat strconv_ParseUint.enter specs_nil)))) (fun _ => ntmps.symm) (by rw [ntmps]; decide) labs_none (g := fun n x => f n x.1) (fun x => 1000 + x.1.length) sites_eq entry (fun _ => rfl)
end scan_number

-- rivet/scan.Line
namespace scan_Line
noncomputable def sp : Spec := ⟨⟨[(0, .c .str)], []⟩, ⟨[(0, .c (.row 30 (.pair (.int .i64) (.pair (.int .i64) (.pair .str (.pair (.int .u32) .nil)))))), (1, .c (.int .i64))], []⟩, fun x => g x.1⟩
noncomputable def specs : List (FuncId × Spec) := [(35, scan_letter.sp), (36, scan_word.sp), (37, scan_digit.sp), (38, scan_number.sp), (39, strings_IndexByte.sp)]
noncomputable def E (n : Nat) : Env sp.r.T := ⟨teOf types, specOf specs, fun r => if r = 23 then some ⟨⟨[(0, .c .str), (4, .c (.row 30 (.pair (.int .i64) (.pair (.int .i64) (.pair .str (.pair (.int .u32) .nil)))))), (5, .c (.int .i64)), (6, .c (.ptr 0 0))], [(3, [.int .i64, .int .i64, .str, .int .u32])]⟩, fun ms x => j23 n (g0 n ms.head!) x.1 x.2.1 x.2.2.1 x.2.2.2.2.1 x.2.2.2.2.2.1 x.2.2.2.2.2.2.1 x.2.2.2.2.2.2.2.1⟩ else none, fun _ => none, fun r => if r = 0 then some ⟨⟨[(0, .c .str), (4, .c (.row 30 (.pair (.int .i64) (.pair (.int .i64) (.pair .str (.pair (.int .u32) .nil)))))), (5, .c (.int .i64))], []⟩, fun ms m x => g0 n m x.1 x.2.1 x.2.2.1⟩ else none, n, 108⟩
theorem enter : Enterable P 14 := enter_of (by kernel_rfl)
theorem entry (n : Nat) : (fun x => evalCode (E n) [] (bodyOf P 14) (init sp (funcOf P 14).ntmps x) (endK (E n).te (resOf P 14) sp)) = fun x => f n x.1 := by kernel_rfl
theorem sites_eq (n : Nat) : (sites (E n) (bodyOf P 14) (fun _ => endK (E n).te (resOf P 14) sp)).map (Site.lhs (E n)) = (sites (E n) (bodyOf P 14) (fun _ => endK (E n).te (resOf P 14) sp)).map (Site.rhs (E n)) := by kernel_rfl
theorem ntmps : (funcOf P 14).ntmps = 108 := by kernel_rfl
theorem labs_none : (labs (bodyOf P 14)).isEmpty = true := by kernel_rfl
theorem sat : Sat P LW 14 sp := sat_by (E := E) mixed enter (fun _ => teOf_ok types_ok) (fun _ => specOf_ok (specs_cons scan_letter.sat scan_letter.enter (specs_cons scan_word.sat scan_word.enter (specs_cons scan_digit.sat scan_digit.enter (specs_cons scan_number.sat scan_number.enter (specs_cons strings_IndexByte.sat strings_IndexByte.enter specs_nil)))))) (fun _ => ntmps.symm) (by rw [ntmps]; decide) labs_none (g := fun n x => f n x.1) (fun x => 1000 + x.1.length) sites_eq entry (fun _ => rfl)
end scan_Line

-- rivet/rivetlaw14.shown
namespace rivetlaw14_shown
noncomputable def sp : Spec := ⟨⟨[], []⟩, ⟨[(0, .c .bool)], []⟩, fun x => g ⟩
noncomputable def specs : List (FuncId × Spec) := [(14, scan_Line.sp)]
noncomputable def E (n : Nat) : Env sp.r.T := ⟨teOf types, specOf specs, fun _ => none, fun _ => none, fun _ => none, n, 49⟩
theorem enter : Enterable P 13 := enter_of (by kernel_rfl)
theorem entry (n : Nat) : (fun x => evalCode (E n) [] (bodyOf P 13) (init sp (funcOf P 13).ntmps x) (endK (E n).te (resOf P 13) sp)) = fun x => f n  := by kernel_rfl
theorem sites_eq (n : Nat) : (sites (E n) (bodyOf P 13) (fun _ => endK (E n).te (resOf P 13) sp)).map (Site.lhs (E n)) = (sites (E n) (bodyOf P 13) (fun _ => endK (E n).te (resOf P 13) sp)).map (Site.rhs (E n)) := by kernel_rfl
theorem ntmps : (funcOf P 13).ntmps = 49 := by kernel_rfl
theorem labs_none : (labs (bodyOf P 13)).isEmpty = true := by kernel_rfl
theorem sat : Sat P LW 13 sp := sat_by (E := E) mixed enter (fun _ => teOf_ok types_ok) (fun _ => specOf_ok (specs_cons scan_Line.sat scan_Line.enter specs_nil)) (fun _ => ntmps.symm) (by rw [ntmps]; decide) labs_none (g := fun n x => f n ) (fun x => 1000) sites_eq entry (fun _ => rfl)
end rivetlaw14_shown

-- rivet/rivetlaw14.few
namespace rivetlaw14_few
noncomputable def sp : Spec := ⟨⟨[(0, .c .str)], []⟩, ⟨[(0, .c .str)], []⟩, fun x => g x.1⟩
noncomputable def specs : List (FuncId × Spec) := []
noncomputable def E (n : Nat) : Env sp.r.T := ⟨teOf types, specOf specs, fun _ => none, fun _ => none, fun _ => none, n, 8⟩
theorem enter : Enterable P 16 := enter_of (by kernel_rfl)
theorem entry (n : Nat) : (fun x => evalCode (E n) [] (bodyOf P 16) (init sp (funcOf P 16).ntmps x) (endK (E n).te (resOf P 16) sp)) = fun x => f n x.1 := by kernel_rfl
theorem sites_eq (n : Nat) : (sites (E n) (bodyOf P 16) (fun _ => endK (E n).te (resOf P 16) sp)).map (Site.lhs (E n)) = (sites (E n) (bodyOf P 16) (fun _ => endK (E n).te (resOf P 16) sp)).map (Site.rhs (E n)) := by kernel_rfl
theorem ntmps : (funcOf P 16).ntmps = 8 := by kernel_rfl
theorem labs_none : (labs (bodyOf P 16)).isEmpty = true := by kernel_rfl
theorem sat : Sat P LW 16 sp := sat_by (E := E) mixed enter (fun _ => teOf_ok types_ok) (fun _ => specOf_ok specs_nil) (fun _ => ntmps.symm) (by rw [ntmps]; decide) labs_none (g := fun n x => f n x.1) (fun x => 1000 + x.1.length) sites_eq entry (fun _ => rfl)
end rivetlaw14_few

-- rivet/rivetref14.Same
namespace rivetref14_Same
noncomputable def sp : Spec := ⟨⟨[(0, .c (.sl (.pair (.int .i64) (.pair (.int .i64) (.pair .str (.pair (.int .u32) .nil)))))), (1, .c (.sl (.pair (.int .i64) (.pair (.int .i64) (.pair .str (.pair (.int .u32) .nil))))))], []⟩, ⟨[(0, .c .bool)], []⟩, fun x => g x.1 x.2.1⟩
noncomputable def specs : List (FuncId × Spec) := []
noncomputable def E (n : Nat) : Env sp.r.T := ⟨teOf types, specOf specs, fun _ => none, fun r => if r = 4 then some ⟨⟨[(0, .c (.sl (.pair (.int .i64) (.pair (.int .i64) (.pair .str (.pair (.int .u32) .nil)))))), (1, .c (.sl (.pair (.int .i64) (.pair (.int .i64) (.pair .str (.pair (.int .u32) .nil)))))), (5, .c (.int .i64))], []⟩, fun ms m x => l4 n m x.1 x.2.1 x.2.2.1⟩ else none, fun _ => none, n, 26⟩
theorem enter : Enterable P 17 := enter_of (by kernel_rfl)
theorem entry (n : Nat) : (fun x => evalCode (E n) [] (bodyOf P 17) (init sp (funcOf P 17).ntmps x) (endK (E n).te (resOf P 17) sp)) = fun x => f n x.1 x.2.1 := by kernel_rfl
theorem sites_eq (n : Nat) : (sites (E n) (bodyOf P 17) (fun _ => endK (E n).te (resOf P 17) sp)).map (Site.lhs (E n)) = (sites (E n) (bodyOf P 17) (fun _ => endK (E n).te (resOf P 17) sp)).map (Site.rhs (E n)) := by kernel_rfl
theorem ntmps : (funcOf P 17).ntmps = 26 := by kernel_rfl
theorem labs_none : (labs (bodyOf P 17)).isEmpty = true := by kernel_rfl
theorem sat : Sat P LW 17 sp := sat_by (E := E) mixed enter (fun _ => teOf_ok types_ok) (fun _ => specOf_ok specs_nil) (fun _ => ntmps.symm) (by rw [ntmps]; decide) labs_none (g := fun n x => f n x.1 x.2.1) (fun x => 1000 + x.1.length + x.2.1.length) sites_eq entry (fun _ => rfl)
end rivetref14_Same

-- rivet/rivetlaw14.ScanBlanks
namespace rivetlaw14_ScanBlanks
noncomputable def sp : Spec := ⟨⟨[(0, .c .str), (1, .c (.int .u8)), (2, .c (.int .u8))], []⟩, ⟨[(0, .c .bool)], []⟩, fun x => g x.1 x.2.1 x.2.2.1⟩
noncomputable def specs : List (FuncId × Spec) := [(13, rivetlaw14_shown.sp), (16, rivetlaw14_few.sp), (14, scan_Line.sp), (17, rivetref14_Same.sp)]
noncomputable def E (n : Nat) : Env sp.r.T := ⟨teOf types, specOf specs, fun r => if r = 13 then some ⟨⟨[(2, .c (.int .u8)), (7, .c .bool), (8, .c .str), (11, .c (.row 30 (.pair (.int .i64) (.pair (.int .i64) (.pair .str (.pair (.int .u32) .nil)))))), (12, .c (.int .i64)), (13, .c (.row 30 (.pair (.int .i64) (.pair (.int .i64) (.pair .str (.pair (.int .u32) .nil)))))), (14, .c (.int .i64)), (15, .c (.row 30 (.pair (.int .i64) (.pair (.int .i64) (.pair .str (.pair (.int .u32) .nil)))))), (16, .c (.int .i64)), (18, .c .bool)], []⟩, fun ms x => j13 n x.1 x.2.1 x.2.2.1 x.2.2.2.1 x.2.2.2.2.1 x.2.2.2.2.2.1 x.2.2.2.2.2.2.1 x.2.2.2.2.2.2.2.1 x.2.2.2.2.2.2.2.2.1 x.2.2.2.2.2.2.2.2.2.1⟩ else none, fun r => if r = 9 then some ⟨⟨[(2, .c (.int .u8)), (7, .c .bool), (8, .c .str), (9, .c (.int .i64)), (11, .c (.row 30 (.pair (.int .i64) (.pair (.int .i64) (.pair .str (.pair (.int .u32) .nil)))))), (12, .c (.int .i64)), (13, .c (.row 30 (.pair (.int .i64) (.pair (.int .i64) (.pair .str (.pair (.int .u32) .nil)))))), (14, .c (.int .i64)), (15, .c (.row 30 (.pair (.int .i64) (.pair (.int .i64) (.pair .str (.pair (.int .u32) .nil)))))), (16, .c (.int .i64)), (17, .c (.int .i64))], []⟩, fun ms m x => l9 n m x.1 x.2.1 x.2.2.1 x.2.2.2.1 x.2.2.2.2.1 x.2.2.2.2.2.1 x.2.2.2.2.2.2.1 x.2.2.2.2.2.2.2.1 x.2.2.2.2.2.2.2.2.1 x.2.2.2.2.2.2.2.2.2.1 x.2.2.2.2.2.2.2.2.2.2.1⟩ else none, fun _ => none, n, 155⟩
theorem enter : Enterable P 4 := enter_of (by kernel_rfl)
theorem entry (n : Nat) : (fun x => evalCode (E n) [] (bodyOf P 4) (init sp (funcOf P 4).ntmps x) (endK (E n).te (resOf P 4) sp)) = fun x => f n x.1 x.2.1 x.2.2.1 := by kernel_rfl
theorem sites_eq (n : Nat) : (sites (E n) (bodyOf P 4) (fun _ => endK (E n).te (resOf P 4) sp)).map (Site.lhs (E n)) = (sites (E n) (bodyOf P 4) (fun _ => endK (E n).te (resOf P 4) sp)).map (Site.rhs (E n)) := by kernel_rfl
theorem ntmps : (funcOf P 4).ntmps = 155 := by kernel_rfl
theorem labs_none : (labs (bodyOf P 4)).isEmpty = true := by kernel_rfl
theorem sat : Sat P LW 4 sp := sat_by (E := E) mixed enter (fun _ => teOf_ok types_ok) (fun _ => specOf_ok (specs_cons rivetlaw14_shown.sat rivetlaw14_shown.enter (specs_cons rivetlaw14_few.sat rivetlaw14_few.enter (specs_cons scan_Line.sat scan_Line.enter (specs_cons rivetref14_Same.sat rivetref14_Same.enter specs_nil))))) (fun _ => ntmps.symm) (by rw [ntmps]; decide) labs_none (g := fun n x => f n x.1 x.2.1 x.2.2.1) (fun x => 1000 + x.1.length + x.2.1.toNat + x.2.2.1.toNat) sites_eq entry (fun _ => rfl)
end rivetlaw14_ScanBlanks

-- rivet/rivetlaw14.ScanParts
namespace rivetlaw14_ScanParts
noncomputable def sp : Spec := ⟨⟨[(0, .c .str), (1, .c .str)], []⟩, ⟨[(0, .c .bool)], []⟩, fun x => g x.1 x.2.1⟩
noncomputable def specs : List (FuncId × Spec) := [(13, rivetlaw14_shown.sp), (16, rivetlaw14_few.sp), (14, scan_Line.sp), (17, rivetref14_Same.sp)]
noncomputable def E (n : Nat) : Env sp.r.T := ⟨teOf types, specOf specs, fun r => if r = 5 then some ⟨⟨[(0, .c .str), (1, .c .str), (5, .c .bool), (6, .c .str), (7, .c (.int .i64))], []⟩, fun ms x => j5 n (l4 n ms.head!) x.1 x.2.1 x.2.2.1 x.2.2.2.1 x.2.2.2.2.1⟩ else none, fun r => if r = 18 then some ⟨⟨[(5, .c .bool), (6, .c .str), (9, .c (.row 30 (.pair (.int .i64) (.pair (.int .i64) (.pair .str (.pair (.int .u32) .nil)))))), (11, .c (.row 30 (.pair (.int .i64) (.pair (.int .i64) (.pair .str (.pair (.int .u32) .nil)))))), (13, .c (.row 30 (.pair (.int .i64) (.pair (.int .i64) (.pair .str (.pair (.int .u32) .nil)))))), (14, .c (.int .i64)), (15, .c (.int .i64))], []⟩, fun ms m x => l18 n m x.1 x.2.1 x.2.2.1 x.2.2.2.1 x.2.2.2.2.1 x.2.2.2.2.2.1 x.2.2.2.2.2.2.1⟩ else if r = 4 then some ⟨⟨[(0, .c .str), (1, .c .str), (5, .c .bool), (6, .c .str), (7, .c (.int .i64))], []⟩, fun ms m x => l4 n m x.1 x.2.1 x.2.2.1 x.2.2.2.1 x.2.2.2.2.1⟩ else none, fun _ => none, n, 116⟩
theorem enter : Enterable P 5 := enter_of (by kernel_rfl)
theorem entry (n : Nat) : (fun x => evalCode (E n) [] (bodyOf P 5) (init sp (funcOf P 5).ntmps x) (endK (E n).te (resOf P 5) sp)) = fun x => f n x.1 x.2.1 := by kernel_rfl
theorem sites_eq (n : Nat) : (sites (E n) (bodyOf P 5) (fun _ => endK (E n).te (resOf P 5) sp)).map (Site.lhs (E n)) = (sites (E n) (bodyOf P 5) (fun _ => endK (E n).te (resOf P 5) sp)).map (Site.rhs (E n)) := by kernel_rfl
theorem ntmps : (funcOf P 5).ntmps = 116 := by kernel_rfl
theorem labs_none : (labs (bodyOf P 5)).isEmpty = true := by kernel_rfl
theorem sat : Sat P LW 5 sp := sat_by (E := E) mixed enter (fun _ => teOf_ok types_ok) (fun _ => specOf_ok (specs_cons rivetlaw14_shown.sat rivetlaw14_shown.enter (specs_cons rivetlaw14_few.sat rivetlaw14_few.enter (specs_cons scan_Line.sat scan_Line.enter (specs_cons rivetref14_Same.sat rivetref14_Same.enter specs_nil))))) (fun _ => ntmps.symm) (by rw [ntmps]; decide) labs_none (g := fun n x => f n x.1 x.2.1) (fun x => 1000 + x.1.length + x.2.1.length) sites_eq entry (fun _ => rfl)
end rivetlaw14_ScanParts

-- rivet/rivetref07.Fit
namespace rivetref07_Fit
noncomputable def sp : Spec := ⟨⟨[(0, .c .str)], []⟩, ⟨[(0, .c .str)], []⟩, fun x => g x.1⟩
noncomputable def specs : List (FuncId × Spec) := []
noncomputable def E (n : Nat) : Env sp.r.T := ⟨teOf types, specOf specs, fun _ => none, fun r => if r = 4 then some ⟨⟨[(0, .c .str), (3, .c .str), (4, .c .str), (5, .c (.int .i64))], []⟩, fun ms m x => l4 n m x.1 x.2.1 x.2.2.1 x.2.2.2.1⟩ else none, fun _ => none, n, 39⟩
theorem enter : Enterable P 40 := enter_of (by kernel_rfl)
theorem entry (n : Nat) : (fun x => evalCode (E n) [] (bodyOf P 40) (init sp (funcOf P 40).ntmps x) (endK (E n).te (resOf P 40) sp)) = fun x => f n x.1 := by kernel_rfl
theorem sites_eq (n : Nat) : (sites (E n) (bodyOf P 40) (fun _ => endK (E n).te (resOf P 40) sp)).map (Site.lhs (E n)) = (sites (E n) (bodyOf P 40) (fun _ => endK (E n).te (resOf P 40) sp)).map (Site.rhs (E n)) := by kernel_rfl
theorem ntmps : (funcOf P 40).ntmps = 39 := by kernel_rfl
theorem labs_none : (labs (bodyOf P 40)).isEmpty = true := by kernel_rfl
theorem sat : Sat P LW 40 sp := sat_by (E := E) mixed enter (fun _ => teOf_ok types_ok) (fun _ => specOf_ok specs_nil) (fun _ => ntmps.symm) (by rw [ntmps]; decide) labs_none (g := fun n x => f n x.1) (fun x => 1000 + x.1.length) sites_eq entry (fun _ => rfl)
end rivetref07_Fit

-- rivet/rivetref13.Fit
namespace rivetref13_Fit
noncomputable def sp : Spec := ⟨⟨[(0, .c .str)], []⟩, ⟨[(0, .c .str)], []⟩, fun x => g x.1⟩
noncomputable def specs : List (FuncId × Spec) := [(40, rivetref07_Fit.sp)]
noncomputable def E (n : Nat) : Env sp.r.T := ⟨teOf types, specOf specs, fun _ => none, fun _ => none, fun _ => none, n, 17⟩
theorem enter : Enterable P 15 := enter_of (by kernel_rfl)
theorem entry (n : Nat) : (fun x => evalCode (E n) [] (bodyOf P 15) (init sp (funcOf P 15).ntmps x) (endK (E n).te (resOf P 15) sp)) = fun x => f n x.1 := by kernel_rfl
theorem sites_eq (n : Nat) : (sites (E n) (bodyOf P 15) (fun _ => endK (E n).te (resOf P 15) sp)).map (Site.lhs (E n)) = (sites (E n) (bodyOf P 15) (fun _ => endK (E n).te (resOf P 15) sp)).map (Site.rhs (E n)) := by kernel_rfl
theorem ntmps : (funcOf P 15).ntmps = 17 := by kernel_rfl
theorem labs_none : (labs (bodyOf P 15)).isEmpty = true := by kernel_rfl
theorem sat : Sat P LW 15 sp := sat_by (E := E) mixed enter (fun _ => teOf_ok types_ok) (fun _ => specOf_ok (specs_cons rivetref07_Fit.sat rivetref07_Fit.enter specs_nil)) (fun _ => ntmps.symm) (by rw [ntmps]; decide) labs_none (g := fun n x => f n x.1) (fun x => 1000 + x.1.length) sites_eq entry (fun _ => rfl)
end rivetref13_Fit

-- rivet/rivetlaw14.ScanNumbers
namespace rivetlaw14_ScanNumbers
noncomputable def sp : Spec := ⟨⟨[(0, .c (.int .u32)), (1, .c (.int .u8)), (2, .c .str)], []⟩, ⟨[(0, .c .bool)], []⟩, fun x => g x.1 x.2.1 x.2.2.1⟩
noncomputable def specs : List (FuncId × Spec) := [(13, rivetlaw14_shown.sp), (14, scan_Line.sp), (16, rivetlaw14_few.sp), (15, rivetref13_Fit.sp)]
noncomputable def E (n : Nat) : Env sp.r.T := ⟨teOf types, specOf specs, fun _ => none, fun r => if r = 8 then some ⟨⟨[(0, .c (.int .u32)), (1, .c (.int .u8)), (2, .c .str), (7, .c .bool), (8, .c .str), (9, .c .str), (10, .c (.int .u32)), (11, .c (.int .u32)), (12, .c .str), (13, .c (.int .i64))], []⟩, fun ms m x => l8 n m x.1 x.2.1 x.2.2.1 x.2.2.2.1 x.2.2.2.2.1 x.2.2.2.2.2.1 x.2.2.2.2.2.2.1 x.2.2.2.2.2.2.2.1 x.2.2.2.2.2.2.2.2.1 x.2.2.2.2.2.2.2.2.2.1⟩ else none, fun _ => none, n, 170⟩
theorem enter : Enterable P 3 := enter_of (by kernel_rfl)
theorem entry (n : Nat) : (fun x => evalCode (E n) [] (bodyOf P 3) (init sp (funcOf P 3).ntmps x) (endK (E n).te (resOf P 3) sp)) = fun x => f n x.1 x.2.1 x.2.2.1 := by kernel_rfl
theorem sites_eq (n : Nat) : (sites (E n) (bodyOf P 3) (fun _ => endK (E n).te (resOf P 3) sp)).map (Site.lhs (E n)) = (sites (E n) (bodyOf P 3) (fun _ => endK (E n).te (resOf P 3) sp)).map (Site.rhs (E n)) := by kernel_rfl
theorem ntmps : (funcOf P 3).ntmps = 170 := by kernel_rfl
theorem labs_none : (labs (bodyOf P 3)).isEmpty = true := by kernel_rfl
theorem sat : Sat P LW 3 sp := sat_by (E := E) mixed enter (fun _ => teOf_ok types_ok) (fun _ => specOf_ok (specs_cons rivetlaw14_shown.sat rivetlaw14_shown.enter (specs_cons scan_Line.sat scan_Line.enter (specs_cons rivetlaw14_few.sat rivetlaw14_few.enter (specs_cons rivetref13_Fit.sat rivetref13_Fit.enter specs_nil))))) (fun _ => ntmps.symm) (by rw [ntmps]; decide) labs_none (g := fun n x => f n x.1 x.2.1 x.2.2.1) (fun x => 1000 + x.1.toNat + x.2.1.toNat + x.2.2.1.length) sites_eq entry (fun _ => rfl)
end rivetlaw14_ScanNumbers

end
end Rv
