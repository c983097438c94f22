/- The functions do what their plain texts say, printed by gen.py (a program of this work's own). -/
import Derived.Test.YtlbfhddhojejfaaDoorDef
import Derived.Test.YtlbfhddhojejfaaDoorLibR
set_option linter.all false
namespace Rv
open Go Go.Proofs
noncomputable section
set_option maxRecDepth 100000
set_option linter.unusedVariables false
variable {ad : LQ}

noncomputable def types : List (TypeId × TI) := [
  (2, ⟨1, false, 8, [.int .i64 0], [], none, some (.int .i64), some .i64, false, false, true, none, none⟩),
  (3, ⟨1, false, 8, [.int .i64 0], [], none, some (.int .i64), some .i64, false, false, true, none, none⟩),
  (4, ⟨1, false, 1, [.bool false], [], none, some .bool, none, false, false, false, none, none⟩),
  (5, ⟨1, false, 1, [.int .u8 0], [], none, some (.int .u8), some .u8, false, false, true, none, none⟩),
  (9, ⟨1, false, 16, [.str []], [], none, some .str, none, true, false, false, none, none⟩),
  (32, ⟨1, false, 24, [.nilS], [], some 5, some (.sl (.int .u8)), none, false, false, false, none, none⟩),
  (52, ⟨2, true, 2, [.int .u8 0, .int .u8 0], [], none, some (.pair (.int .u8) (.pair (.int .u8) .nil)), none, false, false, false, none, some 2⟩),
  (53, ⟨2, true, 2, [.bool false, .bool false], [], none, some (.pair .bool (.pair .bool .nil)), none, false, false, false, none, some 2⟩),
  (64, ⟨1, false, 16, [.raw .nilIface], [], none, none, none, false, true, false, none, none⟩),
  (76, ⟨1, false, 8, [.int .u64 0], [], none, some (.int .u64), some .u64, false, false, true, none, none⟩),
  (102, ⟨1, false, 8, [.int .i64 0], [], none, some (.int .i64), some .i64, false, false, true, none, none⟩),
  (109, ⟨1, false, 8, [.int .u64 0], [], none, some (.int .u64), some .u64, false, false, true, none, none⟩)]
theorem types_ok : (types.all fun p => checkTI P p.1 p.2) = true := by kernel_rfl

-- rivet/rivetlaw13.shown
namespace rivetlaw13_shown
noncomputable def sp : Spec := ⟨⟨[], []⟩, ⟨[(0, .c .bool)], []⟩, fun x => g ⟩
noncomputable def E (n : Nat) : Env sp.r.T := ⟨teOf types, specOf [((27, []), name_Of.sp)], fun _ => none, fun _ => none, fun _ => none, n, 48, 0, fun _ _ => none⟩
theorem enter : Enterable P 22 := enter_of (by kernel_rfl)
theorem entry (n : Nat) : (fun x => evalCode (E n) [] (bodyOf P 22) (init sp (funcOf P 22).ntmps x) (endK (E n).te (resOf P 22) sp)) = fun x => f n  := by kernel_rfl
theorem sites_eq (n : Nat) : (sites (E n) (bodyOf P 22) (fun _ => endK (E n).te (resOf P 22) sp)).map (Site.lhs (E n)) = (sites (E n) (bodyOf P 22) (fun _ => endK (E n).te (resOf P 22) sp)).map (Site.rhs (E n)) := by kernel_rfl
theorem ntmps : (funcOf P 22).ntmps = 48 := by kernel_rfl
theorem labs_none : (labs (bodyOf P 22)).isEmpty = true := by kernel_rfl
theorem sat : Sat P (LW ad) 22 sp := sat_by (E := E) mixed enter (fun _ => teOf_ok types_ok) (fun _ => specOf_ok (specs_cons name_Of.sat name_Of.enter specs_nil)) (fun _ => rfl) (fun _ => maps_none) (fun _ => ntmps.symm) (by rw [ntmps]; exact Nat.le_of_ble_eq_true rfl) labs_none (g := fun n x => f n ) (fun x => 1000) sites_eq entry (fun _ => rfl)
end rivetlaw13_shown

-- rivet/name.RegName
namespace name_RegName
noncomputable def sp : Spec := ⟨⟨[(0, .c (.int .i64))], []⟩, ⟨[(0, .c .str)], []⟩, fun x => g x.1⟩
noncomputable def E (n : Nat) : Env sp.r.T := ⟨teOf types, specOf [((50, []), strconv_Itoa.sp)], fun _ => none, fun _ => none, fun _ => none, n, 12, 0, fun _ _ => none⟩
theorem enter : Enterable P 28 := enter_of (by kernel_rfl)
theorem entry (n : Nat) : (fun x => evalCode (E n) [] (bodyOf P 28) (init sp (funcOf P 28).ntmps x) (endK (E n).te (resOf P 28) sp)) = fun x => f n x.1 := by kernel_rfl
theorem sites_eq (n : Nat) : (sites (E n) (bodyOf P 28) (fun _ => endK (E n).te (resOf P 28) sp)).map (Site.lhs (E n)) = (sites (E n) (bodyOf P 28) (fun _ => endK (E n).te (resOf P 28) sp)).map (Site.rhs (E n)) := by kernel_rfl
theorem ntmps : (funcOf P 28).ntmps = 12 := by kernel_rfl
theorem labs_none : (labs (bodyOf P 28)).isEmpty = true := by kernel_rfl
theorem sat : Sat P (LW ad) 28 sp := sat_by (E := E) mixed enter (fun _ => teOf_ok types_ok) (fun _ => specOf_ok (specs_cons strconv_Itoa.sat strconv_Itoa.enter specs_nil)) (fun _ => rfl) (fun _ => maps_none) (fun _ => ntmps.symm) (by rw [ntmps]; exact Nat.le_of_ble_eq_true rfl) labs_none (g := fun n x => f n x.1) (fun x => 1000 + x.1.toNat) sites_eq entry (fun _ => rfl)
end name_RegName

-- internal/strconv.lower
namespace internal_strconv_lower
noncomputable def sp : Spec := ⟨⟨[(0, .c (.int .u8))], []⟩, ⟨[(0, .c (.int .u8))], []⟩, fun x => g x.1⟩
noncomputable def E (n : Nat) : Env sp.r.T := ⟨teOf types, specOf [], fun _ => none, fun _ => none, fun _ => none, n, 5, 0, fun _ _ => none⟩
theorem enter : Enterable P 97 := enter_of (by kernel_rfl)
theorem entry (n : Nat) : (fun x => evalCode (E n) [] (bodyOf P 97) (init sp (funcOf P 97).ntmps x) (endK (E n).te (resOf P 97) sp)) = fun x => f n x.1 := by kernel_rfl
theorem sites_eq (n : Nat) : (sites (E n) (bodyOf P 97) (fun _ => endK (E n).te (resOf P 97) sp)).map (Site.lhs (E n)) = (sites (E n) (bodyOf P 97) (fun _ => endK (E n).te (resOf P 97) sp)).map (Site.rhs (E n)) := by kernel_rfl
theorem ntmps : (funcOf P 97).ntmps = 5 := by kernel_rfl
theorem labs_none : (labs (bodyOf P 97)).isEmpty = true := by kernel_rfl
theorem sat : Sat P (LW ad) 97 sp := sat_by (E := E) mixed enter (fun _ => teOf_ok types_ok) (fun _ => specOf_ok specs_nil) (fun _ => rfl) (fun _ => maps_none) (fun _ => ntmps.symm) (by rw [ntmps]; exact Nat.le_of_ble_eq_true rfl) labs_none (g := fun n x => f n x.1) (fun x => 1000 + x.1.toNat) sites_eq entry (fun _ => rfl)
end internal_strconv_lower

-- internal/strconv.ParseUint
namespace internal_strconv_ParseUint
noncomputable def sp : Spec := ⟨⟨[(0, .c .str), (1, .c (.int .i64)), (2, .c (.int .i64))], []⟩, ⟨[(0, .c (.int .u64)), (1, .c (.ifo 102 .i64))], []⟩, fun x => g x.1 x.2.1 x.2.2.1⟩
noncomputable def E (n : Nat) : Env sp.r.T := ⟨teOf types, specOf [((97, []), internal_strconv_lower.sp), ((98, []), internal_strconv_underscoreOK.sp)], fun r => if r = 55 then some ⟨⟨[(1, .c (.int .i64)), (8, .c .bool), (9, .c .str), (10, .c (.int .u64)), (11, .c (.int .u64)), (12, .c .bool), (13, .c (.int .u64)), (99, .c (.sl (.int .u8))), (100, .c (.int .i64)), (101, .c (.int .i64))], []⟩, fun ms x => j55 n (l36 n ms.head!) x.1 x.2.1 x.2.2.1 x.2.2.2.1 x.2.2.2.2.1 x.2.2.2.2.2.1 x.2.2.2.2.2.2.1 x.2.2.2.2.2.2.2.1 x.2.2.2.2.2.2.2.2.1 x.2.2.2.2.2.2.2.2.2.1⟩ else if r = 46 then some ⟨⟨[(1, .c (.int .i64)), (8, .c .bool), (9, .c .str), (10, .c (.int .u64)), (11, .c (.int .u64)), (12, .c .bool), (13, .c (.int .u64)), (16, .c (.int .u8)), (99, .c (.sl (.int .u8))), (100, .c (.int .i64)), (101, .c (.int .i64))], []⟩, fun ms x => j46 n (l36 n ms.head!) x.1 x.2.1 x.2.2.1 x.2.2.2.1 x.2.2.2.2.1 x.2.2.2.2.2.1 x.2.2.2.2.2.2.1 x.2.2.2.2.2.2.2.1 x.2.2.2.2.2.2.2.2.1 x.2.2.2.2.2.2.2.2.2.1 x.2.2.2.2.2.2.2.2.2.2.1⟩ else if r = 32 then some ⟨⟨[(0, .c .str), (1, .c (.int .i64)), (2, .c (.int .i64)), (8, .c .bool), (9, .c .str), (10, .c (.int .u64))], []⟩, fun ms x => j32 n x.1 x.2.1 x.2.2.1 x.2.2.2.1 x.2.2.2.2.1 x.2.2.2.2.2.1⟩ else if r = 25 then some ⟨⟨[(0, .c .str), (1, .c (.int .i64)), (2, .c (.int .i64)), (8, .c .bool), (9, .c .str)], []⟩, fun ms x => j25 n x.1 x.2.1 x.2.2.1 x.2.2.2.1 x.2.2.2.2.1⟩ else if r = 21 then some ⟨⟨[(0, .c .str), (1, .c (.int .i64)), (2, .c (.int .i64)), (8, .c .bool), (9, .c .str)], []⟩, fun ms x => j21 n x.1 x.2.1 x.2.2.1 x.2.2.2.1 x.2.2.2.2.1⟩ else if r = 17 then some ⟨⟨[(0, .c .str), (1, .c (.int .i64)), (2, .c (.int .i64)), (8, .c .bool), (9, .c .str)], []⟩, fun ms x => j17 n x.1 x.2.1 x.2.2.1 x.2.2.2.1 x.2.2.2.2.1⟩ else if r = 20 then some ⟨⟨[(0, .c .str), (1, .c (.int .i64)), (2, .c (.int .i64)), (8, .c .bool), (9, .c .str)], []⟩, fun ms x => j20 n x.1 x.2.1 x.2.2.1 x.2.2.2.1 x.2.2.2.2.1⟩ else if r = 11 then some ⟨⟨[(0, .c .str), (1, .c (.int .i64)), (2, .c (.int .i64)), (8, .c .bool), (9, .c .str)], []⟩, fun ms x => j11 n x.1 x.2.1 x.2.2.1 x.2.2.2.1 x.2.2.2.2.1⟩ else if r = 9 then some ⟨⟨[(0, .c .str), (1, .c (.int .i64)), (2, .c (.int .i64)), (8, .c .bool), (9, .c .str)], []⟩, fun ms x => j9 n x.1 x.2.1 x.2.2.1 x.2.2.2.1 x.2.2.2.2.1⟩ else none, fun r => if r = 36 then some ⟨⟨[(1, .c (.int .i64)), (8, .c .bool), (9, .c .str), (10, .c (.int .u64)), (11, .c (.int .u64)), (12, .c .bool), (13, .c (.int .u64)), (99, .c (.sl (.int .u8))), (100, .c (.int .i64)), (101, .c (.int .i64))], []⟩, fun ms m x => l36 n m x.1 x.2.1 x.2.2.1 x.2.2.2.1 x.2.2.2.2.1 x.2.2.2.2.2.1 x.2.2.2.2.2.2.1 x.2.2.2.2.2.2.2.1 x.2.2.2.2.2.2.2.2.1 x.2.2.2.2.2.2.2.2.2.1⟩ else none, fun _ => none, n, 172, 0, fun _ _ => none⟩
theorem enter : Enterable P 78 := enter_of (by kernel_rfl)
theorem entry (n : Nat) : (fun x => evalCode (E n) [] (bodyOf P 78) (init sp (funcOf P 78).ntmps x) (endK (E n).te (resOf P 78) sp)) = fun x => f n x.1 x.2.1 x.2.2.1 := by kernel_rfl
theorem sites_eq (n : Nat) : (sites (E n) (bodyOf P 78) (fun _ => endK (E n).te (resOf P 78) sp)).map (Site.lhs (E n)) = (sites (E n) (bodyOf P 78) (fun _ => endK (E n).te (resOf P 78) sp)).map (Site.rhs (E n)) := by kernel_rfl
theorem ntmps : (funcOf P 78).ntmps = 172 := by kernel_rfl
theorem labs_none : (labs (bodyOf P 78)).isEmpty = true := by kernel_rfl
theorem sat : Sat P (LW ad) 78 sp := sat_by (E := E) mixed enter (fun _ => teOf_ok types_ok) (fun _ => specOf_ok (specs_cons internal_strconv_lower.sat internal_strconv_lower.enter (specs_cons internal_strconv_underscoreOK.sat internal_strconv_underscoreOK.enter specs_nil))) (fun _ => rfl) (fun _ => maps_none) (fun _ => ntmps.symm) (by rw [ntmps]; exact Nat.le_of_ble_eq_true rfl) labs_none (g := fun n x => f n x.1 x.2.1 x.2.2.1) (fun x => 1000 + x.1.length + x.2.1.toNat + x.2.2.1.toNat) sites_eq entry (fun _ => rfl)
end internal_strconv_ParseUint

-- internal/strconv.ParseInt
namespace internal_strconv_ParseInt
noncomputable def sp : Spec := ⟨⟨[(0, .c .str), (1, .c (.int .i64)), (2, .c (.int .i64))], []⟩, ⟨[(0, .c (.int .i64)), (1, .c (.ifo 102 .i64))], []⟩, fun x => g x.1 x.2.1 x.2.2.1⟩
noncomputable def E (n : Nat) : Env sp.r.T := ⟨teOf types, specOf [((78, []), internal_strconv_ParseUint.sp)], fun r => if r = 21 then some ⟨⟨[(8, .c .bool), (9, .c (.int .u64))], []⟩, fun ms x => j21 n x.1 x.2.1⟩ else if r = 19 then some ⟨⟨[(8, .c .bool), (9, .c (.int .u64)), (10, .c (.int .u64))], []⟩, fun ms x => j19 n x.1 x.2.1 x.2.2.1⟩ else if r = 16 then some ⟨⟨[(2, .c (.int .i64)), (8, .c .bool), (9, .c (.int .u64))], []⟩, fun ms x => j16 n x.1 x.2.1 x.2.2.1⟩ else if r = 14 then some ⟨⟨[(2, .c (.int .i64)), (8, .c .bool), (9, .c (.int .u64))], []⟩, fun ms x => j14 n x.1 x.2.1 x.2.2.1⟩ else if r = 10 then some ⟨⟨[(0, .c .str), (1, .c (.int .i64)), (2, .c (.int .i64)), (8, .c .bool)], []⟩, fun ms x => j10 n x.1 x.2.1 x.2.2.1 x.2.2.2.1⟩ else none, fun _ => none, fun _ => none, n, 73, 0, fun _ _ => none⟩
theorem enter : Enterable P 91 := enter_of (by kernel_rfl)
theorem entry (n : Nat) : (fun x => evalCode (E n) [] (bodyOf P 91) (init sp (funcOf P 91).ntmps x) (endK (E n).te (resOf P 91) sp)) = fun x => f n x.1 x.2.1 x.2.2.1 := by kernel_rfl
theorem sites_eq (n : Nat) : (sites (E n) (bodyOf P 91) (fun _ => endK (E n).te (resOf P 91) sp)).map (Site.lhs (E n)) = (sites (E n) (bodyOf P 91) (fun _ => endK (E n).te (resOf P 91) sp)).map (Site.rhs (E n)) := by kernel_rfl
theorem ntmps : (funcOf P 91).ntmps = 73 := by kernel_rfl
theorem labs_none : (labs (bodyOf P 91)).isEmpty = true := by kernel_rfl
theorem sat : Sat P (LW ad) 91 sp := sat_by (E := E) mixed enter (fun _ => teOf_ok types_ok) (fun _ => specOf_ok (specs_cons internal_strconv_ParseUint.sat internal_strconv_ParseUint.enter specs_nil)) (fun _ => rfl) (fun _ => maps_none) (fun _ => ntmps.symm) (by rw [ntmps]; exact Nat.le_of_ble_eq_true rfl) labs_none (g := fun n x => f n x.1 x.2.1 x.2.2.1) (fun x => 1000 + x.1.length + x.2.1.toNat + x.2.2.1.toNat) sites_eq entry (fun _ => rfl)
end internal_strconv_ParseInt

-- internal/strconv.Atoi
namespace internal_strconv_Atoi
noncomputable def sp : Spec := ⟨⟨[(0, .c .str)], []⟩, ⟨[(0, .c (.int .i64)), (1, .c (.ifo 102 .i64))], []⟩, fun x => g x.1⟩
noncomputable def E (n : Nat) : Env sp.r.T := ⟨teOf types, specOf [((91, []), internal_strconv_ParseInt.sp)], fun r => if r = 8 then some ⟨⟨[(0, .c .str), (5, .c .str)], []⟩, fun ms x => j8 n x.1 x.2.1⟩ else if r = 6 then some ⟨⟨[(0, .c .str), (5, .c .str)], []⟩, fun ms x => j6 n x.1 x.2.1⟩ else if r = 20 then some ⟨⟨[(0, .c .str)], []⟩, fun ms x => j20 n x.1⟩ else none, fun r => if r = 10 then some ⟨⟨[(5, .c .str), (6, .c (.int .i64)), (47, .c (.sl (.int .u8))), (48, .c (.int .i64)), (49, .c (.int .i64))], []⟩, fun ms m x => l10 n m x.1 x.2.1 x.2.2.1 x.2.2.2.1 x.2.2.2.2.1⟩ else none, fun _ => none, n, 77, 0, fun _ _ => none⟩
theorem enter : Enterable P 72 := enter_of (by kernel_rfl)
theorem entry (n : Nat) : (fun x => evalCode (E n) [] (bodyOf P 72) (init sp (funcOf P 72).ntmps x) (endK (E n).te (resOf P 72) sp)) = fun x => f n x.1 := by kernel_rfl
theorem sites_eq (n : Nat) : (sites (E n) (bodyOf P 72) (fun _ => endK (E n).te (resOf P 72) sp)).map (Site.lhs (E n)) = (sites (E n) (bodyOf P 72) (fun _ => endK (E n).te (resOf P 72) sp)).map (Site.rhs (E n)) := by kernel_rfl
theorem ntmps : (funcOf P 72).ntmps = 77 := by kernel_rfl
theorem labs_none : (labs (bodyOf P 72)).isEmpty = true := by kernel_rfl
theorem sat : Sat P (LW ad) 72 sp := sat_by (E := E) mixed enter (fun _ => teOf_ok types_ok) (fun _ => specOf_ok (specs_cons internal_strconv_ParseInt.sat internal_strconv_ParseInt.enter specs_nil)) (fun _ => rfl) (fun _ => maps_none) (fun _ => ntmps.symm) (by rw [ntmps]; exact Nat.le_of_ble_eq_true rfl) labs_none (g := fun n x => f n x.1) (fun x => 1000 + x.1.length) sites_eq entry (fun _ => rfl)
end internal_strconv_Atoi

-- strconv.Atoi
namespace strconv_Atoi
noncomputable def sp : Spec := ⟨⟨[(0, .c .str)], []⟩, ⟨[(0, .c (.int .i64)), (1, .c .err)], []⟩, fun x => g x.1⟩
noncomputable def E (n : Nat) : Env sp.r.T := ⟨teOf types, specOf [((72, []), internal_strconv_Atoi.sp), ((73, []), strconv_toError.sp)], fun _ => none, fun _ => none, fun _ => none, n, 18, 0, fun _ _ => none⟩
theorem enter : Enterable P 52 := enter_of (by kernel_rfl)
theorem entry (n : Nat) : (fun x => evalCode (E n) [] (bodyOf P 52) (init sp (funcOf P 52).ntmps x) (endK (E n).te (resOf P 52) sp)) = fun x => f n x.1 := by kernel_rfl
theorem sites_eq (n : Nat) : (sites (E n) (bodyOf P 52) (fun _ => endK (E n).te (resOf P 52) sp)).map (Site.lhs (E n)) = (sites (E n) (bodyOf P 52) (fun _ => endK (E n).te (resOf P 52) sp)).map (Site.rhs (E n)) := by kernel_rfl
theorem ntmps : (funcOf P 52).ntmps = 18 := by kernel_rfl
theorem labs_none : (labs (bodyOf P 52)).isEmpty = true := by kernel_rfl
theorem sat : Sat P (LW ad) 52 sp := sat_by (E := E) mixed enter (fun _ => teOf_ok types_ok) (fun _ => specOf_ok (specs_cons internal_strconv_Atoi.sat internal_strconv_Atoi.enter (specs_cons strconv_toError.sat strconv_toError.enter specs_nil))) (fun _ => rfl) (fun _ => maps_none) (fun _ => ntmps.symm) (by rw [ntmps]; exact Nat.le_of_ble_eq_true rfl) labs_none (g := fun n x => f n x.1) (fun x => 1000 + x.1.length) sites_eq entry (fun _ => rfl)
end strconv_Atoi

-- rivet/name.Reg
namespace name_Reg
noncomputable def sp : Spec := ⟨⟨[(0, .c .str)], []⟩, ⟨[(0, .c (.int .i64)), (1, .c .bool)], []⟩, fun x => g x.1⟩
noncomputable def E (n : Nat) : Env sp.r.T := ⟨teOf types, specOf [((51, []), strings_CutPrefix.sp), ((52, []), strconv_Atoi.sp), ((28, []), name_RegName.sp)], fun _ => none, fun _ => none, fun _ => none, n, 31, 0, fun _ _ => none⟩
theorem enter : Enterable P 29 := enter_of (by kernel_rfl)
theorem entry (n : Nat) : (fun x => evalCode (E n) [] (bodyOf P 29) (init sp (funcOf P 29).ntmps x) (endK (E n).te (resOf P 29) sp)) = fun x => f n x.1 := by kernel_rfl
theorem sites_eq (n : Nat) : (sites (E n) (bodyOf P 29) (fun _ => endK (E n).te (resOf P 29) sp)).map (Site.lhs (E n)) = (sites (E n) (bodyOf P 29) (fun _ => endK (E n).te (resOf P 29) sp)).map (Site.rhs (E n)) := by kernel_rfl
theorem ntmps : (funcOf P 29).ntmps = 31 := by kernel_rfl
theorem labs_none : (labs (bodyOf P 29)).isEmpty = true := by kernel_rfl
theorem sat : Sat P (LW ad) 29 sp := sat_by (E := E) mixed enter (fun _ => teOf_ok types_ok) (fun _ => specOf_ok (specs_cons strings_CutPrefix.sat strings_CutPrefix.enter (specs_cons strconv_Atoi.sat strconv_Atoi.enter (specs_cons name_RegName.sat name_RegName.enter specs_nil)))) (fun _ => rfl) (fun _ => maps_none) (fun _ => ntmps.symm) (by rw [ntmps]; exact Nat.le_of_ble_eq_true rfl) labs_none (g := fun n x => f n x.1) (fun x => 1000 + x.1.length) sites_eq entry (fun _ => rfl)
end name_Reg

-- rivet/name.Label
namespace name_Label
noncomputable def sp : Spec := ⟨⟨[(0, .c .str)], []⟩, ⟨[(0, .c .bool)], []⟩, fun x => g x.1⟩
noncomputable def E (n : Nat) : Env sp.r.T := ⟨teOf types, specOf [((48, []), strings_Trim.sp)], fun r => if r = 9 then some ⟨⟨[(0, .c .str), (24, .c (.int .i64)), (25, .c (.int .i64))], []⟩, fun ms x => j9 n (l4 n ms.head!) x.1 x.2.1 x.2.2.1⟩ else if r = 3 then some ⟨⟨[(0, .c .str)], []⟩, fun ms x => j3 n x.1⟩ else none, fun r => if r = 4 then some ⟨⟨[(0, .c .str), (24, .c (.int .i64)), (25, .c (.int .i64))], []⟩, fun ms m x => l4 n m x.1 x.2.1 x.2.2.1⟩ else none, fun _ => none, n, 84, 0, fun _ _ => none⟩
theorem enter : Enterable P 24 := enter_of (by kernel_rfl)
theorem entry (n : Nat) : (fun x => evalCode (E n) [] (bodyOf P 24) (init sp (funcOf P 24).ntmps x) (endK (E n).te (resOf P 24) sp)) = fun x => f n x.1 := by kernel_rfl
theorem sites_eq (n : Nat) : (sites (E n) (bodyOf P 24) (fun _ => endK (E n).te (resOf P 24) sp)).map (Site.lhs (E n)) = (sites (E n) (bodyOf P 24) (fun _ => endK (E n).te (resOf P 24) sp)).map (Site.rhs (E n)) := by kernel_rfl
theorem ntmps : (funcOf P 24).ntmps = 84 := by kernel_rfl
theorem labs_none : (labs (bodyOf P 24)).isEmpty = true := by kernel_rfl
theorem sat : Sat P (LW ad) 24 sp := sat_by (E := E) mixed enter (fun _ => teOf_ok types_ok) (fun _ => specOf_ok (specs_cons strings_Trim.sat strings_Trim.enter specs_nil)) (fun _ => rfl) (fun _ => maps_none) (fun _ => ntmps.symm) (by rw [ntmps]; exact Nat.le_of_ble_eq_true rfl) labs_none (g := fun n x => f n x.1) (fun x => 1000 + x.1.length) sites_eq entry (fun _ => rfl)
end name_Label

-- rivet/rivetlaw13.NameRegs
namespace rivetlaw13_NameRegs
noncomputable def sp : Spec := ⟨⟨[(0, .c (.int .u8)), (1, .c (.int .u8))], []⟩, ⟨[(0, .c .bool)], []⟩, fun x => g x.1 x.2.1⟩
noncomputable def E (n : Nat) : Env sp.r.T := ⟨teOf types, specOf [((22, []), rivetlaw13_shown.sp), ((28, []), name_RegName.sp), ((29, []), name_Reg.sp), ((24, []), name_Label.sp)], fun r => if r = 10 then some ⟨⟨[(5, .c .bool), (6, .c (.int .i64)), (7, .c .str), (8, .c (.int .i64)), (9, .c .bool), (10, .c .str), (12, .c .bool), (14, .c .bool), (16, .c .bool), (17, .c .bool)], []⟩, fun ms x => j10 n x.1 x.2.1 x.2.2.1 x.2.2.2.1 x.2.2.2.2.1 x.2.2.2.2.2.1 x.2.2.2.2.2.2.1 x.2.2.2.2.2.2.2.1 x.2.2.2.2.2.2.2.2.1 x.2.2.2.2.2.2.2.2.2.1⟩ else none, fun _ => none, fun _ => none, n, 121, 0, fun _ _ => none⟩
theorem enter : Enterable P 10 := enter_of (by kernel_rfl)
theorem entry (n : Nat) : (fun x => evalCode (E n) [] (bodyOf P 10) (init sp (funcOf P 10).ntmps x) (endK (E n).te (resOf P 10) sp)) = fun x => f n x.1 x.2.1 := by kernel_rfl
theorem sites_eq (n : Nat) : (sites (E n) (bodyOf P 10) (fun _ => endK (E n).te (resOf P 10) sp)).map (Site.lhs (E n)) = (sites (E n) (bodyOf P 10) (fun _ => endK (E n).te (resOf P 10) sp)).map (Site.rhs (E n)) := by kernel_rfl
theorem ntmps : (funcOf P 10).ntmps = 121 := by kernel_rfl
theorem labs_none : (labs (bodyOf P 10)).isEmpty = true := by kernel_rfl
theorem sat : Sat P (LW ad) 10 sp := sat_by (E := E) mixed enter (fun _ => teOf_ok types_ok) (fun _ => specOf_ok (specs_cons rivetlaw13_shown.sat rivetlaw13_shown.enter (specs_cons name_RegName.sat name_RegName.enter (specs_cons name_Reg.sat name_Reg.enter (specs_cons name_Label.sat name_Label.enter specs_nil))))) (fun _ => rfl) (fun _ => maps_none) (fun _ => ntmps.symm) (by rw [ntmps]; exact Nat.le_of_ble_eq_true rfl) labs_none (g := fun n x => f n x.1 x.2.1) (fun x => 1000 + x.1.toNat + x.2.1.toNat) sites_eq entry (fun _ => rfl)
end rivetlaw13_NameRegs

-- rivet/rivetlaw13.NameBack
namespace rivetlaw13_NameBack
noncomputable def sp : Spec := ⟨⟨[(0, .agg [.int .u8, .int .u8]), (1, .agg [.int .u8, .int .u8]), (2, .agg [.bool, .bool])], []⟩, ⟨[(0, .c .bool)], []⟩, fun x => g x.1 x.2.1 x.2.2.1 x.2.2.2.1 x.2.2.2.2.1 x.2.2.2.2.2.1⟩
noncomputable def E (n : Nat) : Env sp.r.T := ⟨teOf types, specOf [((22, []), rivetlaw13_shown.sp), ((26, []), name_Mnemonic.sp), ((27, []), name_Of.sp), ((28, []), name_RegName.sp), ((29, []), name_Reg.sp), ((24, []), name_Label.sp)], fun r => if r = 10 then some ⟨⟨[(5, .c (.ptr 0 0)), (7, .c .bool), (8, .c (.int .i64)), (9, .c (.int .i64)), (10, .c .str), (11, .c .str), (12, .c (.int .i64)), (13, .c (.int .i64)), (14, .c .bool), (15, .c .bool), (16, .c .bool)], [(some 0, [.bool, .bool])]⟩, fun ms x => j10 n x.2.1 x.2.2.1 x.2.2.2.1 x.2.2.2.2.1 x.2.2.2.2.2.1 x.2.2.2.2.2.2.1 x.2.2.2.2.2.2.2.1 x.2.2.2.2.2.2.2.2.1 x.2.2.2.2.2.2.2.2.2.1 x.2.2.2.2.2.2.2.2.2.2.1 x.2.2.2.2.2.2.2.2.2.2.2.1 x.2.2.2.2.2.2.2.2.2.2.2.2.1⟩ else none, fun _ => none, fun _ => none, n, 146, 0, fun _ _ => none⟩
theorem enter : Enterable P 12 := enter_of (by kernel_rfl)
theorem entry (n : Nat) : (fun x => evalCode (E n) [] (bodyOf P 12) (init sp (funcOf P 12).ntmps x) (endK (E n).te (resOf P 12) sp)) = fun x => f n x.1 x.2.1 x.2.2.1 x.2.2.2.1 x.2.2.2.2.1 x.2.2.2.2.2.1 := by kernel_rfl
theorem sites_eq (n : Nat) : (sites (E n) (bodyOf P 12) (fun _ => endK (E n).te (resOf P 12) sp)).map (Site.lhs (E n)) = (sites (E n) (bodyOf P 12) (fun _ => endK (E n).te (resOf P 12) sp)).map (Site.rhs (E n)) := by kernel_rfl
theorem ntmps : (funcOf P 12).ntmps = 146 := by kernel_rfl
theorem labs_none : (labs (bodyOf P 12)).isEmpty = true := by kernel_rfl
theorem sat : Sat P (LW ad) 12 sp := sat_by (E := E) mixed enter (fun _ => teOf_ok types_ok) (fun _ => specOf_ok (specs_cons rivetlaw13_shown.sat rivetlaw13_shown.enter (specs_cons name_Mnemonic.sat name_Mnemonic.enter (specs_cons name_Of.sat name_Of.enter (specs_cons name_RegName.sat name_RegName.enter (specs_cons name_Reg.sat name_Reg.enter (specs_cons name_Label.sat name_Label.enter specs_nil))))))) (fun _ => rfl) (fun _ => maps_none) (fun _ => ntmps.symm) (by rw [ntmps]; exact Nat.le_of_ble_eq_true rfl) labs_none (g := fun n x => f n x.1 x.2.1 x.2.2.1 x.2.2.2.1 x.2.2.2.2.1 x.2.2.2.2.2.1) (fun x => 1000 + x.1.toNat + x.2.1.toNat + x.2.2.1.toNat + x.2.2.2.1.toNat) sites_eq entry (fun _ => rfl)
end rivetlaw13_NameBack

-- rivet/rivetlaw13.few
namespace rivetlaw13_few
noncomputable def sp : Spec := ⟨⟨[(0, .c .str)], []⟩, ⟨[(0, .c .str)], []⟩, fun x => g x.1⟩
noncomputable def E (n : Nat) : Env sp.r.T := ⟨teOf types, specOf [], fun _ => none, fun _ => none, fun _ => none, n, 8, 0, fun _ _ => none⟩
theorem enter : Enterable P 23 := enter_of (by kernel_rfl)
theorem entry (n : Nat) : (fun x => evalCode (E n) [] (bodyOf P 23) (init sp (funcOf P 23).ntmps x) (endK (E n).te (resOf P 23) sp)) = fun x => f n x.1 := by kernel_rfl
theorem sites_eq (n : Nat) : (sites (E n) (bodyOf P 23) (fun _ => endK (E n).te (resOf P 23) sp)).map (Site.lhs (E n)) = (sites (E n) (bodyOf P 23) (fun _ => endK (E n).te (resOf P 23) sp)).map (Site.rhs (E n)) := by kernel_rfl
theorem ntmps : (funcOf P 23).ntmps = 8 := by kernel_rfl
theorem labs_none : (labs (bodyOf P 23)).isEmpty = true := by kernel_rfl
theorem sat : Sat P (LW ad) 23 sp := sat_by (E := E) mixed enter (fun _ => teOf_ok types_ok) (fun _ => specOf_ok specs_nil) (fun _ => rfl) (fun _ => maps_none) (fun _ => ntmps.symm) (by rw [ntmps]; exact Nat.le_of_ble_eq_true rfl) labs_none (g := fun n x => f n x.1) (fun x => 1000 + x.1.length) sites_eq entry (fun _ => rfl)
end rivetlaw13_few

-- rivet/rivetref13.RegName
namespace rivetref13_RegName
noncomputable def sp : Spec := ⟨⟨[(0, .c (.int .i64))], []⟩, ⟨[(0, .c .str)], []⟩, fun x => g x.1⟩
noncomputable def E (n : Nat) : Env sp.r.T := ⟨teOf types, specOf [], fun _ => none, fun _ => none, fun _ => none, n, 24, 0, fun _ _ => none⟩
theorem enter : Enterable P 34 := enter_of (by kernel_rfl)
theorem entry (n : Nat) : (fun x => evalCode (E n) [] (bodyOf P 34) (init sp (funcOf P 34).ntmps x) (endK (E n).te (resOf P 34) sp)) = fun x => f n x.1 := by kernel_rfl
theorem sites_eq (n : Nat) : (sites (E n) (bodyOf P 34) (fun _ => endK (E n).te (resOf P 34) sp)).map (Site.lhs (E n)) = (sites (E n) (bodyOf P 34) (fun _ => endK (E n).te (resOf P 34) sp)).map (Site.rhs (E n)) := by kernel_rfl
theorem ntmps : (funcOf P 34).ntmps = 24 := by kernel_rfl
theorem labs_none : (labs (bodyOf P 34)).isEmpty = true := by kernel_rfl
theorem sat : Sat P (LW ad) 34 sp := sat_by (E := E) mixed enter (fun _ => teOf_ok types_ok) (fun _ => specOf_ok specs_nil) (fun _ => rfl) (fun _ => maps_none) (fun _ => ntmps.symm) (by rw [ntmps]; exact Nat.le_of_ble_eq_true rfl) labs_none (g := fun n x => f n x.1) (fun x => 1000 + x.1.toNat) sites_eq entry (fun _ => rfl)
end rivetref13_RegName

-- rivet/rivetref13.Reg
namespace rivetref13_Reg
noncomputable def sp : Spec := ⟨⟨[(0, .c .str)], []⟩, ⟨[(0, .c (.int .i64)), (1, .c .bool)], []⟩, fun x => g x.1⟩
noncomputable def E (n : Nat) : Env sp.r.T := ⟨teOf types, specOf [((34, []), rivetref13_RegName.sp)], fun _ => none, fun r => if r = 2 then some ⟨⟨[(0, .c .str), (4, .c (.int .i64))], []⟩, fun ms m x => l2 n m x.1 x.2.1⟩ else none, fun _ => none, n, 14, 0, fun _ _ => none⟩
theorem enter : Enterable P 30 := enter_of (by kernel_rfl)
theorem entry (n : Nat) : (fun x => evalCode (E n) [] (bodyOf P 30) (init sp (funcOf P 30).ntmps x) (endK (E n).te (resOf P 30) sp)) = fun x => f n x.1 := by kernel_rfl
theorem sites_eq (n : Nat) : (sites (E n) (bodyOf P 30) (fun _ => endK (E n).te (resOf P 30) sp)).map (Site.lhs (E n)) = (sites (E n) (bodyOf P 30) (fun _ => endK (E n).te (resOf P 30) sp)).map (Site.rhs (E n)) := by kernel_rfl
theorem ntmps : (funcOf P 30).ntmps = 14 := by kernel_rfl
theorem labs_none : (labs (bodyOf P 30)).isEmpty = true := by kernel_rfl
theorem sat : Sat P (LW ad) 30 sp := sat_by (E := E) mixed enter (fun _ => teOf_ok types_ok) (fun _ => specOf_ok (specs_cons rivetref13_RegName.sat rivetref13_RegName.enter specs_nil)) (fun _ => rfl) (fun _ => maps_none) (fun _ => ntmps.symm) (by rw [ntmps]; exact Nat.le_of_ble_eq_true rfl) labs_none (g := fun n x => f n x.1) (fun x => 1000 + x.1.length) sites_eq entry (fun _ => rfl)
end rivetref13_Reg

-- rivet/rivetref13.three
namespace rivetref13_three
noncomputable def sp : Spec := ⟨⟨[(0, .c .str), (1, .c (.int .i64))], []⟩, ⟨[(0, .c .str)], []⟩, fun x => g x.1 x.2.1⟩
noncomputable def E (n : Nat) : Env sp.r.T := ⟨teOf types, specOf [], fun _ => none, fun _ => none, fun _ => none, n, 12, 0, fun _ _ => none⟩
theorem enter : Enterable P 54 := enter_of (by kernel_rfl)
theorem entry (n : Nat) : (fun x => evalCode (E n) [] (bodyOf P 54) (init sp (funcOf P 54).ntmps x) (endK (E n).te (resOf P 54) sp)) = fun x => f n x.1 x.2.1 := by kernel_rfl
theorem sites_eq (n : Nat) : (sites (E n) (bodyOf P 54) (fun _ => endK (E n).te (resOf P 54) sp)).map (Site.lhs (E n)) = (sites (E n) (bodyOf P 54) (fun _ => endK (E n).te (resOf P 54) sp)).map (Site.rhs (E n)) := by kernel_rfl
theorem ntmps : (funcOf P 54).ntmps = 12 := by kernel_rfl
theorem labs_none : (labs (bodyOf P 54)).isEmpty = true := by kernel_rfl
theorem sat : Sat P (LW ad) 54 sp := sat_by (E := E) mixed enter (fun _ => teOf_ok types_ok) (fun _ => specOf_ok specs_nil) (fun _ => rfl) (fun _ => maps_none) (fun _ => ntmps.symm) (by rw [ntmps]; exact Nat.le_of_ble_eq_true rfl) labs_none (g := fun n x => f n x.1 x.2.1) (fun x => 1000 + x.1.length + x.2.1.toNat) sites_eq entry (fun _ => rfl)
end rivetref13_three

-- rivet/rivetref13.Mnemonic
namespace rivetref13_Mnemonic
noncomputable def sp : Spec := ⟨⟨[(0, .c (.int .i64)), (1, .c (.int .i64)), (2, .c .bool)], []⟩, ⟨[(0, .c .str)], []⟩, fun x => g x.1 x.2.1 x.2.2.1⟩
noncomputable def E (n : Nat) : Env sp.r.T := ⟨teOf types, specOf [((54, []), rivetref13_three.sp)], fun r => if r = 6 then some ⟨⟨[(1, .c (.int .i64)), (7, .c .str), (8, .c .str)], []⟩, fun ms x => j6 n x.1 x.2.1 x.2.2.1⟩ else if r = 23 then some ⟨⟨[(0, .c (.int .i64)), (1, .c (.int .i64))], []⟩, fun ms x => j23 n x.1 x.2.1⟩ else if r = 21 then some ⟨⟨[(0, .c (.int .i64)), (1, .c (.int .i64))], []⟩, fun ms x => j21 n x.1 x.2.1⟩ else if r = 17 then some ⟨⟨[(0, .c (.int .i64)), (1, .c (.int .i64)), (2, .c .bool)], []⟩, fun ms x => j17 n x.1 x.2.1 x.2.2.1⟩ else if r = 15 then some ⟨⟨[(0, .c (.int .i64)), (1, .c (.int .i64)), (2, .c .bool)], []⟩, fun ms x => j15 n x.1 x.2.1 x.2.2.1⟩ else if r = 13 then some ⟨⟨[(0, .c (.int .i64)), (1, .c (.int .i64)), (2, .c .bool)], []⟩, fun ms x => j13 n x.1 x.2.1 x.2.2.1⟩ else if r = 11 then some ⟨⟨[(0, .c (.int .i64)), (1, .c (.int .i64)), (2, .c .bool)], []⟩, fun ms x => j11 n x.1 x.2.1 x.2.2.1⟩ else if r = 9 then some ⟨⟨[(0, .c (.int .i64)), (1, .c (.int .i64)), (2, .c .bool)], []⟩, fun ms x => j9 n x.1 x.2.1 x.2.2.1⟩ else none, fun _ => none, fun _ => none, n, 119, 0, fun _ _ => none⟩
theorem enter : Enterable P 33 := enter_of (by kernel_rfl)
theorem entry (n : Nat) : (fun x => evalCode (E n) [] (bodyOf P 33) (init sp (funcOf P 33).ntmps x) (endK (E n).te (resOf P 33) sp)) = fun x => f n x.1 x.2.1 x.2.2.1 := by kernel_rfl
theorem sites_eq (n : Nat) : (sites (E n) (bodyOf P 33) (fun _ => endK (E n).te (resOf P 33) sp)).map (Site.lhs (E n)) = (sites (E n) (bodyOf P 33) (fun _ => endK (E n).te (resOf P 33) sp)).map (Site.rhs (E n)) := by kernel_rfl
theorem ntmps : (funcOf P 33).ntmps = 119 := by kernel_rfl
theorem labs_none : (labs (bodyOf P 33)).isEmpty = true := by kernel_rfl
theorem sat : Sat P (LW ad) 33 sp := sat_by (E := E) mixed enter (fun _ => teOf_ok types_ok) (fun _ => specOf_ok (specs_cons rivetref13_three.sat rivetref13_three.enter specs_nil)) (fun _ => rfl) (fun _ => maps_none) (fun _ => ntmps.symm) (by rw [ntmps]; exact Nat.le_of_ble_eq_true rfl) labs_none (g := fun n x => f n x.1 x.2.1 x.2.2.1) (fun x => 1000 + x.1.toNat + x.2.1.toNat) sites_eq entry (fun _ => rfl)
end rivetref13_Mnemonic

-- rivet/rivetref13.Of
namespace rivetref13_Of
noncomputable def sp : Spec := ⟨⟨[(0, .c .str)], []⟩, ⟨[(0, .c (.int .i64)), (1, .c (.int .i64)), (2, .c .bool), (3, .c .bool)], []⟩, fun x => g x.1⟩
noncomputable def E (n : Nat) : Env sp.r.T := ⟨teOf types, specOf [((33, []), rivetref13_Mnemonic.sp)], fun _ => none, fun r => if r = 7 then some ⟨⟨[(0, .c .str), (6, .c (.int .i64)), (7, .c (.int .i64))], []⟩, fun ms m x => l7 n (l4 n ms.head!) m x.1 x.2.1 x.2.2.1⟩ else if r = 4 then some ⟨⟨[(0, .c .str), (6, .c (.int .i64))], []⟩, fun ms m x => l4 n m x.1 x.2.1⟩ else none, fun _ => none, n, 32, 0, fun _ _ => none⟩
theorem enter : Enterable P 31 := enter_of (by kernel_rfl)
theorem entry (n : Nat) : (fun x => evalCode (E n) [] (bodyOf P 31) (init sp (funcOf P 31).ntmps x) (endK (E n).te (resOf P 31) sp)) = fun x => f n x.1 := by kernel_rfl
theorem sites_eq (n : Nat) : (sites (E n) (bodyOf P 31) (fun _ => endK (E n).te (resOf P 31) sp)).map (Site.lhs (E n)) = (sites (E n) (bodyOf P 31) (fun _ => endK (E n).te (resOf P 31) sp)).map (Site.rhs (E n)) := by kernel_rfl
theorem ntmps : (funcOf P 31).ntmps = 32 := by kernel_rfl
theorem labs_none : (labs (bodyOf P 31)).isEmpty = true := by kernel_rfl
theorem sat : Sat P (LW ad) 31 sp := sat_by (E := E) mixed enter (fun _ => teOf_ok types_ok) (fun _ => specOf_ok (specs_cons rivetref13_Mnemonic.sat rivetref13_Mnemonic.enter specs_nil)) (fun _ => rfl) (fun _ => maps_none) (fun _ => ntmps.symm) (by rw [ntmps]; exact Nat.le_of_ble_eq_true rfl) labs_none (g := fun n x => f n x.1) (fun x => 1000 + x.1.length) sites_eq entry (fun _ => rfl)
end rivetref13_Of

-- rivet/rivetref07.letter
namespace rivetref07_letter
noncomputable def sp : Spec := ⟨⟨[(0, .c (.int .u8))], []⟩, ⟨[(0, .c .bool)], []⟩, fun x => g x.1⟩
noncomputable def E (n : Nat) : Env sp.r.T := ⟨teOf types, specOf [], fun _ => none, fun _ => none, fun _ => none, n, 17, 0, fun _ _ => none⟩
theorem enter : Enterable P 74 := enter_of (by kernel_rfl)
theorem entry (n : Nat) : (fun x => evalCode (E n) [] (bodyOf P 74) (init sp (funcOf P 74).ntmps x) (endK (E n).te (resOf P 74) sp)) = fun x => f n x.1 := by kernel_rfl
theorem sites_eq (n : Nat) : (sites (E n) (bodyOf P 74) (fun _ => endK (E n).te (resOf P 74) sp)).map (Site.lhs (E n)) = (sites (E n) (bodyOf P 74) (fun _ => endK (E n).te (resOf P 74) sp)).map (Site.rhs (E n)) := by kernel_rfl
theorem ntmps : (funcOf P 74).ntmps = 17 := by kernel_rfl
theorem labs_none : (labs (bodyOf P 74)).isEmpty = true := by kernel_rfl
theorem sat : Sat P (LW ad) 74 sp := sat_by (E := E) mixed enter (fun _ => teOf_ok types_ok) (fun _ => specOf_ok specs_nil) (fun _ => rfl) (fun _ => maps_none) (fun _ => ntmps.symm) (by rw [ntmps]; exact Nat.le_of_ble_eq_true rfl) labs_none (g := fun n x => f n x.1) (fun x => 1000 + x.1.toNat) sites_eq entry (fun _ => rfl)
end rivetref07_letter

-- rivet/rivetref07.digit
namespace rivetref07_digit
noncomputable def sp : Spec := ⟨⟨[(0, .c (.int .u8))], []⟩, ⟨[(0, .c .bool)], []⟩, fun x => g x.1⟩
noncomputable def E (n : Nat) : Env sp.r.T := ⟨teOf types, specOf [], fun _ => none, fun _ => none, fun _ => none, n, 9, 0, fun _ _ => none⟩
theorem enter : Enterable P 76 := enter_of (by kernel_rfl)
theorem entry (n : Nat) : (fun x => evalCode (E n) [] (bodyOf P 76) (init sp (funcOf P 76).ntmps x) (endK (E n).te (resOf P 76) sp)) = fun x => f n x.1 := by kernel_rfl
theorem sites_eq (n : Nat) : (sites (E n) (bodyOf P 76) (fun _ => endK (E n).te (resOf P 76) sp)).map (Site.lhs (E n)) = (sites (E n) (bodyOf P 76) (fun _ => endK (E n).te (resOf P 76) sp)).map (Site.rhs (E n)) := by kernel_rfl
theorem ntmps : (funcOf P 76).ntmps = 9 := by kernel_rfl
theorem labs_none : (labs (bodyOf P 76)).isEmpty = true := by kernel_rfl
theorem sat : Sat P (LW ad) 76 sp := sat_by (E := E) mixed enter (fun _ => teOf_ok types_ok) (fun _ => specOf_ok specs_nil) (fun _ => rfl) (fun _ => maps_none) (fun _ => ntmps.symm) (by rw [ntmps]; exact Nat.le_of_ble_eq_true rfl) labs_none (g := fun n x => f n x.1) (fun x => 1000 + x.1.toNat) sites_eq entry (fun _ => rfl)
end rivetref07_digit

-- rivet/rivetref07.Register
namespace rivetref07_Register
noncomputable def sp : Spec := ⟨⟨[(0, .c .str)], []⟩, ⟨[(0, .c .bool)], []⟩, fun x => g x.1⟩
noncomputable def E (n : Nat) : Env sp.r.T := ⟨teOf types, specOf [((76, []), rivetref07_digit.sp)], fun _ => none, fun _ => none, fun _ => none, n, 29, 0, fun _ _ => none⟩
theorem enter : Enterable P 75 := enter_of (by kernel_rfl)
theorem entry (n : Nat) : (fun x => evalCode (E n) [] (bodyOf P 75) (init sp (funcOf P 75).ntmps x) (endK (E n).te (resOf P 75) sp)) = fun x => f n x.1 := by kernel_rfl
theorem sites_eq (n : Nat) : (sites (E n) (bodyOf P 75) (fun _ => endK (E n).te (resOf P 75) sp)).map (Site.lhs (E n)) = (sites (E n) (bodyOf P 75) (fun _ => endK (E n).te (resOf P 75) sp)).map (Site.rhs (E n)) := by kernel_rfl
theorem ntmps : (funcOf P 75).ntmps = 29 := by kernel_rfl
theorem labs_none : (labs (bodyOf P 75)).isEmpty = true := by kernel_rfl
theorem sat : Sat P (LW ad) 75 sp := sat_by (E := E) mixed enter (fun _ => teOf_ok types_ok) (fun _ => specOf_ok (specs_cons rivetref07_digit.sat rivetref07_digit.enter specs_nil)) (fun _ => rfl) (fun _ => maps_none) (fun _ => ntmps.symm) (by rw [ntmps]; exact Nat.le_of_ble_eq_true rfl) labs_none (g := fun n x => f n x.1) (fun x => 1000 + x.1.length) sites_eq entry (fun _ => rfl)
end rivetref07_Register

-- rivet/rivetref07.Name
namespace rivetref07_Name
noncomputable def sp : Spec := ⟨⟨[(0, .c .str)], []⟩, ⟨[(0, .c .bool)], []⟩, fun x => g x.1⟩
noncomputable def E (n : Nat) : Env sp.r.T := ⟨teOf types, specOf [((74, []), rivetref07_letter.sp), ((75, []), rivetref07_Register.sp), ((76, []), rivetref07_digit.sp)], fun r => if r = 5 then some ⟨⟨[(0, .c .str), (3, .c (.int .i64))], []⟩, fun ms x => j5 n (l4 n ms.head!) x.1 x.2.1⟩ else none, fun r => if r = 4 then some ⟨⟨[(0, .c .str), (3, .c (.int .i64))], []⟩, fun ms m x => l4 n m x.1 x.2.1⟩ else none, fun _ => none, n, 46, 0, fun _ _ => none⟩
theorem enter : Enterable P 53 := enter_of (by kernel_rfl)
theorem entry (n : Nat) : (fun x => evalCode (E n) [] (bodyOf P 53) (init sp (funcOf P 53).ntmps x) (endK (E n).te (resOf P 53) sp)) = fun x => f n x.1 := by kernel_rfl
theorem sites_eq (n : Nat) : (sites (E n) (bodyOf P 53) (fun _ => endK (E n).te (resOf P 53) sp)).map (Site.lhs (E n)) = (sites (E n) (bodyOf P 53) (fun _ => endK (E n).te (resOf P 53) sp)).map (Site.rhs (E n)) := by kernel_rfl
theorem ntmps : (funcOf P 53).ntmps = 46 := by kernel_rfl
theorem labs_none : (labs (bodyOf P 53)).isEmpty = true := by kernel_rfl
theorem sat : Sat P (LW ad) 53 sp := sat_by (E := E) mixed enter (fun _ => teOf_ok types_ok) (fun _ => specOf_ok (specs_cons rivetref07_letter.sat rivetref07_letter.enter (specs_cons rivetref07_Register.sat rivetref07_Register.enter (specs_cons rivetref07_digit.sat rivetref07_digit.enter specs_nil)))) (fun _ => rfl) (fun _ => maps_none) (fun _ => ntmps.symm) (by rw [ntmps]; exact Nat.le_of_ble_eq_true rfl) labs_none (g := fun n x => f n x.1) (fun x => 1000 + x.1.length) sites_eq entry (fun _ => rfl)
end rivetref07_Name

-- rivet/rivetref13.Label
namespace rivetref13_Label
noncomputable def sp : Spec := ⟨⟨[(0, .c .str)], []⟩, ⟨[(0, .c .bool)], []⟩, fun x => g x.1⟩
noncomputable def E (n : Nat) : Env sp.r.T := ⟨teOf types, specOf [((53, []), rivetref07_Name.sp)], fun r => if r = 3 then some ⟨⟨[(0, .c .str)], []⟩, fun ms x => j3 n x.1⟩ else none, fun _ => none, fun _ => none, n, 17, 0, fun _ _ => none⟩
theorem enter : Enterable P 32 := enter_of (by kernel_rfl)
theorem entry (n : Nat) : (fun x => evalCode (E n) [] (bodyOf P 32) (init sp (funcOf P 32).ntmps x) (endK (E n).te (resOf P 32) sp)) = fun x => f n x.1 := by kernel_rfl
theorem sites_eq (n : Nat) : (sites (E n) (bodyOf P 32) (fun _ => endK (E n).te (resOf P 32) sp)).map (Site.lhs (E n)) = (sites (E n) (bodyOf P 32) (fun _ => endK (E n).te (resOf P 32) sp)).map (Site.rhs (E n)) := by kernel_rfl
theorem ntmps : (funcOf P 32).ntmps = 17 := by kernel_rfl
theorem labs_none : (labs (bodyOf P 32)).isEmpty = true := by kernel_rfl
theorem sat : Sat P (LW ad) 32 sp := sat_by (E := E) mixed enter (fun _ => teOf_ok types_ok) (fun _ => specOf_ok (specs_cons rivetref07_Name.sat rivetref07_Name.enter specs_nil)) (fun _ => rfl) (fun _ => maps_none) (fun _ => ntmps.symm) (by rw [ntmps]; exact Nat.le_of_ble_eq_true rfl) labs_none (g := fun n x => f n x.1) (fun x => 1000 + x.1.length) sites_eq entry (fun _ => rfl)
end rivetref13_Label

-- rivet/rivetlaw13.NameAll
namespace rivetlaw13_NameAll
noncomputable def sp : Spec := ⟨⟨[(0, .c .str), (1, .c (.int .i64)), (2, .c (.int .i64))], []⟩, ⟨[(0, .c .bool)], []⟩, fun x => g x.1 x.2.1 x.2.2.1⟩
noncomputable def E (n : Nat) : Env sp.r.T := ⟨teOf types, specOf [((22, []), rivetlaw13_shown.sp), ((23, []), rivetlaw13_few.sp), ((29, []), name_Reg.sp), ((30, []), rivetref13_Reg.sp), ((27, []), name_Of.sp), ((31, []), rivetref13_Of.sp), ((24, []), name_Label.sp), ((32, []), rivetref13_Label.sp), ((26, []), name_Mnemonic.sp), ((33, []), rivetref13_Mnemonic.sp), ((28, []), name_RegName.sp), ((34, []), rivetref13_RegName.sp)], fun _ => none, fun _ => none, fun _ => none, n, 111, 0, fun _ _ => none⟩
theorem enter : Enterable P 11 := enter_of (by kernel_rfl)
theorem entry (n : Nat) : (fun x => evalCode (E n) [] (bodyOf P 11) (init sp (funcOf P 11).ntmps x) (endK (E n).te (resOf P 11) sp)) = fun x => f n x.1 x.2.1 x.2.2.1 := by kernel_rfl
theorem sites_eq (n : Nat) : (sites (E n) (bodyOf P 11) (fun _ => endK (E n).te (resOf P 11) sp)).map (Site.lhs (E n)) = (sites (E n) (bodyOf P 11) (fun _ => endK (E n).te (resOf P 11) sp)).map (Site.rhs (E n)) := by kernel_rfl
theorem ntmps : (funcOf P 11).ntmps = 111 := by kernel_rfl
theorem labs_none : (labs (bodyOf P 11)).isEmpty = true := by kernel_rfl
theorem sat : Sat P (LW ad) 11 sp := sat_by (E := E) mixed enter (fun _ => teOf_ok types_ok) (fun _ => specOf_ok (specs_cons rivetlaw13_shown.sat rivetlaw13_shown.enter (specs_cons rivetlaw13_few.sat rivetlaw13_few.enter (specs_cons name_Reg.sat name_Reg.enter (specs_cons rivetref13_Reg.sat rivetref13_Reg.enter (specs_cons name_Of.sat name_Of.enter (specs_cons rivetref13_Of.sat rivetref13_Of.enter (specs_cons name_Label.sat name_Label.enter (specs_cons rivetref13_Label.sat rivetref13_Label.enter (specs_cons name_Mnemonic.sat name_Mnemonic.enter (specs_cons rivetref13_Mnemonic.sat rivetref13_Mnemonic.enter (specs_cons name_RegName.sat name_RegName.enter (specs_cons rivetref13_RegName.sat rivetref13_RegName.enter specs_nil))))))))))))) (fun _ => rfl) (fun _ => maps_none) (fun _ => ntmps.symm) (by rw [ntmps]; exact Nat.le_of_ble_eq_true rfl) labs_none (g := fun n x => f n x.1 x.2.1 x.2.2.1) (fun x => 1000 + x.1.length + x.2.1.toNat + x.2.2.1.toNat) sites_eq entry (fun _ => rfl)
end rivetlaw13_NameAll

end
end Rv
