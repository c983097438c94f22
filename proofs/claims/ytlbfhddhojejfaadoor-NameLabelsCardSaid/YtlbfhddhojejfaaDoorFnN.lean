/- The functions do what their plain texts say, printed by gen.py (a program of this work's own). -/
import Derived.Test.YtlbfhddhojejfaaDoorDef
import Derived.Test.YtlbfhddhojejfaaDoorLibN
set_option linter.all false
namespace Rv
open Go Go.Proofs
noncomputable section
set_option maxRecDepth 100000
set_option linter.unusedVariables false
variable {ad : LQ}

noncomputable def types : List (TypeId × TI) := [
  (3, ⟨1, false, 8, [.int .i64 0], [], none, some (.int .i64), some .i64, false, false, true, none, none⟩),
  (4, ⟨1, false, 1, [.bool false], [], none, some .bool, none, false, false, false, none, none⟩),
  (5, ⟨1, false, 1, [.int .u8 0], [], none, some (.int .u8), some .u8, false, false, true, none, none⟩),
  (9, ⟨1, false, 16, [.str []], [], none, some .str, none, true, false, false, none, none⟩),
  (32, ⟨1, false, 24, [.nilS], [], some 5, some (.sl (.int .u8)), none, false, false, false, none, none⟩),
  (41, ⟨7, true, 56, [.int .i64 0, .int .i64 0, .int .i64 0, .int .i64 0, .int .i64 0, .int .i64 0, .bool false], [(0, 1, false), (1, 1, false), (2, 1, false), (3, 1, false), (4, 1, false), (5, 1, false), (6, 1, false)], none, some (.pair (.int .i64) (.pair (.int .i64) (.pair (.int .i64) (.pair (.int .i64) (.pair (.int .i64) (.pair (.int .i64) (.pair .bool .nil))))))), none, false, false, false, none, none⟩)]
theorem types_ok : (types.all fun p => checkTI P p.1 p.2) = true := by kernel_rfl

-- rivet/rivetlaw13.shown
namespace rivetlaw13_shown
noncomputable def sp : Spec := ⟨⟨[], []⟩, ⟨[(0, .c .bool)], []⟩, fun x => g ⟩
noncomputable def E (n : Nat) : Env sp.r.T := ⟨teOf types, specOf [((27, []), name_Of.sp)], fun _ => none, fun _ => none, fun _ => none, n, 48, 0, fun _ _ => none⟩
theorem enter : Enterable P 22 := enter_of (by kernel_rfl)
theorem entry (n : Nat) : (fun x => evalCode (E n) [] (bodyOf P 22) (init sp (funcOf P 22).ntmps x) (endK (E n).te (resOf P 22) sp)) = fun x => f n  := by kernel_rfl
theorem sites_eq (n : Nat) : (sites (E n) (bodyOf P 22) (fun _ => endK (E n).te (resOf P 22) sp)).map (Site.lhs (E n)) = (sites (E n) (bodyOf P 22) (fun _ => endK (E n).te (resOf P 22) sp)).map (Site.rhs (E n)) := by kernel_rfl
theorem ntmps : (funcOf P 22).ntmps = 48 := by kernel_rfl
theorem labs_none : (labs (bodyOf P 22)).isEmpty = true := by kernel_rfl
theorem sat : Sat P (LW ad) 22 sp := sat_by (E := E) mixed enter (fun _ => teOf_ok types_ok) (fun _ => specOf_ok (specs_cons name_Of.sat name_Of.enter specs_nil)) (fun _ => rfl) (fun _ => maps_none) (fun _ => ntmps.symm) (by rw [ntmps]; exact Nat.le_of_ble_eq_true rfl) labs_none (g := fun n x => f n ) (fun x => 1000) sites_eq entry (fun _ => rfl)
end rivetlaw13_shown

-- rivet/rivetlaw13.few
namespace rivetlaw13_few
noncomputable def sp : Spec := ⟨⟨[(0, .c .str)], []⟩, ⟨[(0, .c .str)], []⟩, fun x => g x.1⟩
noncomputable def E (n : Nat) : Env sp.r.T := ⟨teOf types, specOf [], fun _ => none, fun _ => none, fun _ => none, n, 8, 0, fun _ _ => none⟩
theorem enter : Enterable P 23 := enter_of (by kernel_rfl)
theorem entry (n : Nat) : (fun x => evalCode (E n) [] (bodyOf P 23) (init sp (funcOf P 23).ntmps x) (endK (E n).te (resOf P 23) sp)) = fun x => f n x.1 := by kernel_rfl
theorem sites_eq (n : Nat) : (sites (E n) (bodyOf P 23) (fun _ => endK (E n).te (resOf P 23) sp)).map (Site.lhs (E n)) = (sites (E n) (bodyOf P 23) (fun _ => endK (E n).te (resOf P 23) sp)).map (Site.rhs (E n)) := by kernel_rfl
theorem ntmps : (funcOf P 23).ntmps = 8 := by kernel_rfl
theorem labs_none : (labs (bodyOf P 23)).isEmpty = true := by kernel_rfl
theorem sat : Sat P (LW ad) 23 sp := sat_by (E := E) mixed enter (fun _ => teOf_ok types_ok) (fun _ => specOf_ok specs_nil) (fun _ => rfl) (fun _ => maps_none) (fun _ => ntmps.symm) (by rw [ntmps]; exact Nat.le_of_ble_eq_true rfl) labs_none (g := fun n x => f n x.1) (fun x => 1000 + x.1.length) sites_eq entry (fun _ => rfl)
end rivetlaw13_few

-- rivet/rivetref07.Fit
namespace rivetref07_Fit
noncomputable def sp : Spec := ⟨⟨[(0, .c .str)], []⟩, ⟨[(0, .c .str)], []⟩, fun x => g x.1⟩
noncomputable def E (n : Nat) : Env sp.r.T := ⟨teOf types, specOf [], fun _ => none, fun r => if r = 4 then some ⟨⟨[(0, .c .str), (3, .c .str), (4, .c .str), (5, .c (.int .i64))], []⟩, fun ms m x => l4 n m x.1 x.2.1 x.2.2.1 x.2.2.2.1⟩ else none, fun _ => none, n, 39, 0, fun _ _ => none⟩
theorem enter : Enterable P 40 := enter_of (by kernel_rfl)
theorem entry (n : Nat) : (fun x => evalCode (E n) [] (bodyOf P 40) (init sp (funcOf P 40).ntmps x) (endK (E n).te (resOf P 40) sp)) = fun x => f n x.1 := by kernel_rfl
theorem sites_eq (n : Nat) : (sites (E n) (bodyOf P 40) (fun _ => endK (E n).te (resOf P 40) sp)).map (Site.lhs (E n)) = (sites (E n) (bodyOf P 40) (fun _ => endK (E n).te (resOf P 40) sp)).map (Site.rhs (E n)) := by kernel_rfl
theorem ntmps : (funcOf P 40).ntmps = 39 := by kernel_rfl
theorem labs_none : (labs (bodyOf P 40)).isEmpty = true := by kernel_rfl
theorem sat : Sat P (LW ad) 40 sp := sat_by (E := E) mixed enter (fun _ => teOf_ok types_ok) (fun _ => specOf_ok specs_nil) (fun _ => rfl) (fun _ => maps_none) (fun _ => ntmps.symm) (by rw [ntmps]; exact Nat.le_of_ble_eq_true rfl) labs_none (g := fun n x => f n x.1) (fun x => 1000 + x.1.length) sites_eq entry (fun _ => rfl)
end rivetref07_Fit

-- rivet/rivetref13.Fit
namespace rivetref13_Fit
noncomputable def sp : Spec := ⟨⟨[(0, .c .str)], []⟩, ⟨[(0, .c .str)], []⟩, fun x => g x.1⟩
noncomputable def E (n : Nat) : Env sp.r.T := ⟨teOf types, specOf [((40, []), rivetref07_Fit.sp)], fun _ => none, fun _ => none, fun _ => none, n, 17, 0, fun _ _ => none⟩
theorem enter : Enterable P 15 := enter_of (by kernel_rfl)
theorem entry (n : Nat) : (fun x => evalCode (E n) [] (bodyOf P 15) (init sp (funcOf P 15).ntmps x) (endK (E n).te (resOf P 15) sp)) = fun x => f n x.1 := by kernel_rfl
theorem sites_eq (n : Nat) : (sites (E n) (bodyOf P 15) (fun _ => endK (E n).te (resOf P 15) sp)).map (Site.lhs (E n)) = (sites (E n) (bodyOf P 15) (fun _ => endK (E n).te (resOf P 15) sp)).map (Site.rhs (E n)) := by kernel_rfl
theorem ntmps : (funcOf P 15).ntmps = 17 := by kernel_rfl
theorem labs_none : (labs (bodyOf P 15)).isEmpty = true := by kernel_rfl
theorem sat : Sat P (LW ad) 15 sp := sat_by (E := E) mixed enter (fun _ => teOf_ok types_ok) (fun _ => specOf_ok (specs_cons rivetref07_Fit.sat rivetref07_Fit.enter specs_nil)) (fun _ => rfl) (fun _ => maps_none) (fun _ => ntmps.symm) (by rw [ntmps]; exact Nat.le_of_ble_eq_true rfl) labs_none (g := fun n x => f n x.1) (fun x => 1000 + x.1.length) sites_eq entry (fun _ => rfl)
end rivetref13_Fit

-- rivet/name.Label
namespace name_Label
noncomputable def sp : Spec := ⟨⟨[(0, .c .str)], []⟩, ⟨[(0, .c .bool)], []⟩, fun x => g x.1⟩
noncomputable def E (n : Nat) : Env sp.r.T := ⟨teOf types, specOf [((48, []), strings_Trim.sp)], fun r => if r = 9 then some ⟨⟨[(0, .c .str), (24, .c (.int .i64)), (25, .c (.int .i64))], []⟩, fun ms x => j9 n (l4 n ms.head!) x.1 x.2.1 x.2.2.1⟩ else if r = 3 then some ⟨⟨[(0, .c .str)], []⟩, fun ms x => j3 n x.1⟩ else none, fun r => if r = 4 then some ⟨⟨[(0, .c .str), (24, .c (.int .i64)), (25, .c (.int .i64))], []⟩, fun ms m x => l4 n m x.1 x.2.1 x.2.2.1⟩ else none, fun _ => none, n, 84, 0, fun _ _ => none⟩
theorem enter : Enterable P 24 := enter_of (by kernel_rfl)
theorem entry (n : Nat) : (fun x => evalCode (E n) [] (bodyOf P 24) (init sp (funcOf P 24).ntmps x) (endK (E n).te (resOf P 24) sp)) = fun x => f n x.1 := by kernel_rfl
theorem sites_eq (n : Nat) : (sites (E n) (bodyOf P 24) (fun _ => endK (E n).te (resOf P 24) sp)).map (Site.lhs (E n)) = (sites (E n) (bodyOf P 24) (fun _ => endK (E n).te (resOf P 24) sp)).map (Site.rhs (E n)) := by kernel_rfl
theorem ntmps : (funcOf P 24).ntmps = 84 := by kernel_rfl
theorem labs_none : (labs (bodyOf P 24)).isEmpty = true := by kernel_rfl
theorem sat : Sat P (LW ad) 24 sp := sat_by (E := E) mixed enter (fun _ => teOf_ok types_ok) (fun _ => specOf_ok (specs_cons strings_Trim.sat strings_Trim.enter specs_nil)) (fun _ => rfl) (fun _ => maps_none) (fun _ => ntmps.symm) (by rw [ntmps]; exact Nat.le_of_ble_eq_true rfl) labs_none (g := fun n x => f n x.1) (fun x => 1000 + x.1.length) sites_eq entry (fun _ => rfl)
end name_Label

-- rivet/rivetlaw13.NameLabels
namespace rivetlaw13_NameLabels
noncomputable def sp : Spec := ⟨⟨[(0, .c .str), (1, .c (.int .u8)), (2, .c (.int .u8))], []⟩, ⟨[(0, .c .bool)], []⟩, fun x => g x.1 x.2.1 x.2.2.1⟩
noncomputable def E (n : Nat) : Env sp.r.T := ⟨teOf types, specOf [((22, []), rivetlaw13_shown.sp), ((23, []), rivetlaw13_few.sp), ((15, []), rivetref13_Fit.sp), ((24, []), name_Label.sp)], fun r => if r = 9 then some ⟨⟨[(7, .c .bool), (8, .c .str), (9, .c .bool), (10, .c .str), (12, .c .str), (14, .c .bool)], []⟩, fun ms x => j9 n x.1 x.2.1 x.2.2.1 x.2.2.2.1 x.2.2.2.2.1 x.2.2.2.2.2.1⟩ else if r = 8 then some ⟨⟨[(7, .c .bool), (8, .c .str), (9, .c .bool), (10, .c .str), (12, .c .str), (13, .c .bool)], []⟩, fun ms x => j8 n x.1 x.2.1 x.2.2.1 x.2.2.2.1 x.2.2.2.2.1 x.2.2.2.2.2.1⟩ else if r = 4 then some ⟨⟨[(1, .c (.int .u8)), (2, .c (.int .u8)), (7, .c .bool), (8, .c .str), (9, .c .bool)], []⟩, fun ms x => j4 n x.1 x.2.1 x.2.2.1 x.2.2.2.1 x.2.2.2.2.1⟩ else none, fun _ => none, fun _ => none, n, 136, 0, fun _ _ => none⟩
theorem enter : Enterable P 8 := enter_of (by kernel_rfl)
theorem entry (n : Nat) : (fun x => evalCode (E n) [] (bodyOf P 8) (init sp (funcOf P 8).ntmps x) (endK (E n).te (resOf P 8) sp)) = fun x => f n x.1 x.2.1 x.2.2.1 := by kernel_rfl
theorem sites_eq (n : Nat) : (sites (E n) (bodyOf P 8) (fun _ => endK (E n).te (resOf P 8) sp)).map (Site.lhs (E n)) = (sites (E n) (bodyOf P 8) (fun _ => endK (E n).te (resOf P 8) sp)).map (Site.rhs (E n)) := by kernel_rfl
theorem ntmps : (funcOf P 8).ntmps = 136 := by kernel_rfl
theorem labs_none : (labs (bodyOf P 8)).isEmpty = true := by kernel_rfl
theorem sat : Sat P (LW ad) 8 sp := sat_by (E := E) mixed enter (fun _ => teOf_ok types_ok) (fun _ => specOf_ok (specs_cons rivetlaw13_shown.sat rivetlaw13_shown.enter (specs_cons rivetlaw13_few.sat rivetlaw13_few.enter (specs_cons rivetref13_Fit.sat rivetref13_Fit.enter (specs_cons name_Label.sat name_Label.enter specs_nil))))) (fun _ => rfl) (fun _ => maps_none) (fun _ => ntmps.symm) (by rw [ntmps]; exact Nat.le_of_ble_eq_true rfl) labs_none (g := fun n x => f n x.1 x.2.1 x.2.2.1) (fun x => 1000 + x.1.length + x.2.1.toNat + x.2.2.1.toNat) sites_eq entry (fun _ => rfl)
end rivetlaw13_NameLabels

-- rivet/rivetref03.Fit
namespace rivetref03_Fit
noncomputable def sp : Spec := ⟨⟨[(0, .agg [.int .i64, .int .i64, .int .i64, .int .i64, .int .i64, .int .i64, .bool])], []⟩, ⟨[(0, .agg [.int .i64, .int .i64, .int .i64, .int .i64, .int .i64, .int .i64, .bool])], []⟩, fun x => g x.1 x.2.1 x.2.2.1 x.2.2.2.1 x.2.2.2.2.1 x.2.2.2.2.2.1 x.2.2.2.2.2.2.1⟩
noncomputable def E (n : Nat) : Env sp.r.T := ⟨teOf types, specOf [], fun r => if r = 25 then some ⟨⟨[(2, .c (.ptr 0 0)), (3, .c (.ptr 1 0))], [(some 0, [.int .i64, .int .i64, .int .i64, .int .i64, .int .i64, .int .i64, .bool]), (some 1, [.int .i64, .int .i64, .int .i64, .int .i64, .int .i64, .int .i64, .bool])]⟩, fun ms x => j25 n x.2.2.1 x.2.2.2.1 x.2.2.2.2.1 x.2.2.2.2.2.1 x.2.2.2.2.2.2.1 x.2.2.2.2.2.2.2.1 x.2.2.2.2.2.2.2.2.1 x.2.2.2.2.2.2.2.2.2.1 x.2.2.2.2.2.2.2.2.2.2.1 x.2.2.2.2.2.2.2.2.2.2.2.1 x.2.2.2.2.2.2.2.2.2.2.2.2.1 x.2.2.2.2.2.2.2.2.2.2.2.2.2.1 x.2.2.2.2.2.2.2.2.2.2.2.2.2.2.1 x.2.2.2.2.2.2.2.2.2.2.2.2.2.2.2.1⟩ else if r = 10 then some ⟨⟨[(1, .c (.ptr 0 0)), (2, .c (.ptr 1 0)), (3, .c (.ptr 2 0)), (4, .c (.int .i64))], [(some 0, [.int .i64, .int .i64, .int .i64, .int .i64, .int .i64, .int .i64, .bool]), (some 1, [.int .i64, .int .i64, .int .i64, .int .i64, .int .i64, .int .i64, .bool]), (some 2, [.int .i64, .int .i64, .int .i64, .int .i64, .int .i64, .int .i64, .bool])]⟩, fun ms x => j10 n x.2.2.2.1 x.2.2.2.2.1 x.2.2.2.2.2.1 x.2.2.2.2.2.2.1 x.2.2.2.2.2.2.2.1 x.2.2.2.2.2.2.2.2.1 x.2.2.2.2.2.2.2.2.2.1 x.2.2.2.2.2.2.2.2.2.2.1 x.2.2.2.2.2.2.2.2.2.2.2.1 x.2.2.2.2.2.2.2.2.2.2.2.2.1 x.2.2.2.2.2.2.2.2.2.2.2.2.2.1 x.2.2.2.2.2.2.2.2.2.2.2.2.2.2.1 x.2.2.2.2.2.2.2.2.2.2.2.2.2.2.2.1 x.2.2.2.2.2.2.2.2.2.2.2.2.2.2.2.2.1 x.2.2.2.2.2.2.2.2.2.2.2.2.2.2.2.2.2.1 x.2.2.2.2.2.2.2.2.2.2.2.2.2.2.2.2.2.2.1 x.2.2.2.2.2.2.2.2.2.2.2.2.2.2.2.2.2.2.2.1 x.2.2.2.2.2.2.2.2.2.2.2.2.2.2.2.2.2.2.2.2.1 x.2.2.2.2.2.2.2.2.2.2.2.2.2.2.2.2.2.2.2.2.2.1 x.2.2.2.2.2.2.2.2.2.2.2.2.2.2.2.2.2.2.2.2.2.2.1 x.2.2.2.2.2.2.2.2.2.2.2.2.2.2.2.2.2.2.2.2.2.2.2.1 x.2.2.2.2.2.2.2.2.2.2.2.2.2.2.2.2.2.2.2.2.2.2.2.2.1⟩ else if r = 9 then some ⟨⟨[(1, .c (.ptr 0 0)), (2, .c (.ptr 1 0)), (3, .c (.ptr 2 0)), (4, .c (.int .i64))], [(some 0, [.int .i64, .int .i64, .int .i64, .int .i64, .int .i64, .int .i64, .bool]), (some 1, [.int .i64, .int .i64, .int .i64, .int .i64, .int .i64, .int .i64, .bool]), (some 2, [.int .i64, .int .i64, .int .i64, .int .i64, .int .i64, .int .i64, .bool])]⟩, fun ms x => j9 n x.2.2.2.1 x.2.2.2.2.1 x.2.2.2.2.2.1 x.2.2.2.2.2.2.1 x.2.2.2.2.2.2.2.1 x.2.2.2.2.2.2.2.2.1 x.2.2.2.2.2.2.2.2.2.1 x.2.2.2.2.2.2.2.2.2.2.1 x.2.2.2.2.2.2.2.2.2.2.2.1 x.2.2.2.2.2.2.2.2.2.2.2.2.1 x.2.2.2.2.2.2.2.2.2.2.2.2.2.1 x.2.2.2.2.2.2.2.2.2.2.2.2.2.2.1 x.2.2.2.2.2.2.2.2.2.2.2.2.2.2.2.1 x.2.2.2.2.2.2.2.2.2.2.2.2.2.2.2.2.1 x.2.2.2.2.2.2.2.2.2.2.2.2.2.2.2.2.2.1 x.2.2.2.2.2.2.2.2.2.2.2.2.2.2.2.2.2.2.1 x.2.2.2.2.2.2.2.2.2.2.2.2.2.2.2.2.2.2.2.1 x.2.2.2.2.2.2.2.2.2.2.2.2.2.2.2.2.2.2.2.2.1 x.2.2.2.2.2.2.2.2.2.2.2.2.2.2.2.2.2.2.2.2.2.1 x.2.2.2.2.2.2.2.2.2.2.2.2.2.2.2.2.2.2.2.2.2.2.1 x.2.2.2.2.2.2.2.2.2.2.2.2.2.2.2.2.2.2.2.2.2.2.2.1 x.2.2.2.2.2.2.2.2.2.2.2.2.2.2.2.2.2.2.2.2.2.2.2.2.1⟩ else if r = 7 then some ⟨⟨[(1, .c (.ptr 0 0)), (2, .c (.ptr 1 0)), (3, .c (.ptr 2 0)), (4, .c (.int .i64))], [(some 0, [.int .i64, .int .i64, .int .i64, .int .i64, .int .i64, .int .i64, .bool]), (some 1, [.int .i64, .int .i64, .int .i64, .int .i64, .int .i64, .int .i64, .bool]), (some 2, [.int .i64, .int .i64, .int .i64, .int .i64, .int .i64, .int .i64, .bool])]⟩, fun ms x => j7 n x.2.2.2.1 x.2.2.2.2.1 x.2.2.2.2.2.1 x.2.2.2.2.2.2.1 x.2.2.2.2.2.2.2.1 x.2.2.2.2.2.2.2.2.1 x.2.2.2.2.2.2.2.2.2.1 x.2.2.2.2.2.2.2.2.2.2.1 x.2.2.2.2.2.2.2.2.2.2.2.1 x.2.2.2.2.2.2.2.2.2.2.2.2.1 x.2.2.2.2.2.2.2.2.2.2.2.2.2.1 x.2.2.2.2.2.2.2.2.2.2.2.2.2.2.1 x.2.2.2.2.2.2.2.2.2.2.2.2.2.2.2.1 x.2.2.2.2.2.2.2.2.2.2.2.2.2.2.2.2.1 x.2.2.2.2.2.2.2.2.2.2.2.2.2.2.2.2.2.1 x.2.2.2.2.2.2.2.2.2.2.2.2.2.2.2.2.2.2.1 x.2.2.2.2.2.2.2.2.2.2.2.2.2.2.2.2.2.2.2.1 x.2.2.2.2.2.2.2.2.2.2.2.2.2.2.2.2.2.2.2.2.1 x.2.2.2.2.2.2.2.2.2.2.2.2.2.2.2.2.2.2.2.2.2.1 x.2.2.2.2.2.2.2.2.2.2.2.2.2.2.2.2.2.2.2.2.2.2.1 x.2.2.2.2.2.2.2.2.2.2.2.2.2.2.2.2.2.2.2.2.2.2.2.1 x.2.2.2.2.2.2.2.2.2.2.2.2.2.2.2.2.2.2.2.2.2.2.2.2.1⟩ else if r = 19 then some ⟨⟨[(1, .c (.ptr 0 0)), (2, .c (.ptr 1 0)), (3, .c (.ptr 2 0))], [(some 0, [.int .i64, .int .i64, .int .i64, .int .i64, .int .i64, .int .i64, .bool]), (some 1, [.int .i64, .int .i64, .int .i64, .int .i64, .int .i64, .int .i64, .bool]), (some 2, [.int .i64, .int .i64, .int .i64, .int .i64, .int .i64, .int .i64, .bool])]⟩, fun ms x => j19 n x.2.2.2.1 x.2.2.2.2.1 x.2.2.2.2.2.1 x.2.2.2.2.2.2.1 x.2.2.2.2.2.2.2.1 x.2.2.2.2.2.2.2.2.1 x.2.2.2.2.2.2.2.2.2.1 x.2.2.2.2.2.2.2.2.2.2.1 x.2.2.2.2.2.2.2.2.2.2.2.1 x.2.2.2.2.2.2.2.2.2.2.2.2.1 x.2.2.2.2.2.2.2.2.2.2.2.2.2.1 x.2.2.2.2.2.2.2.2.2.2.2.2.2.2.1 x.2.2.2.2.2.2.2.2.2.2.2.2.2.2.2.1 x.2.2.2.2.2.2.2.2.2.2.2.2.2.2.2.2.1 x.2.2.2.2.2.2.2.2.2.2.2.2.2.2.2.2.2.1 x.2.2.2.2.2.2.2.2.2.2.2.2.2.2.2.2.2.2.1 x.2.2.2.2.2.2.2.2.2.2.2.2.2.2.2.2.2.2.2.1 x.2.2.2.2.2.2.2.2.2.2.2.2.2.2.2.2.2.2.2.2.1 x.2.2.2.2.2.2.2.2.2.2.2.2.2.2.2.2.2.2.2.2.2.1 x.2.2.2.2.2.2.2.2.2.2.2.2.2.2.2.2.2.2.2.2.2.2.1 x.2.2.2.2.2.2.2.2.2.2.2.2.2.2.2.2.2.2.2.2.2.2.2.1⟩ else none, fun _ => none, fun _ => none, n, 111, 0, fun _ _ => none⟩
theorem enter : Enterable P 25 := enter_of (by kernel_rfl)
theorem entry (n : Nat) : (fun x => evalCode (E n) [] (bodyOf P 25) (init sp (funcOf P 25).ntmps x) (endK (E n).te (resOf P 25) sp)) = fun x => f n x.1 x.2.1 x.2.2.1 x.2.2.2.1 x.2.2.2.2.1 x.2.2.2.2.2.1 x.2.2.2.2.2.2.1 := by kernel_rfl
theorem sites_eq (n : Nat) : (sites (E n) (bodyOf P 25) (fun _ => endK (E n).te (resOf P 25) sp)).map (Site.lhs (E n)) = (sites (E n) (bodyOf P 25) (fun _ => endK (E n).te (resOf P 25) sp)).map (Site.rhs (E n)) := by kernel_rfl
theorem ntmps : (funcOf P 25).ntmps = 111 := by kernel_rfl
theorem labs_none : (labs (bodyOf P 25)).isEmpty = true := by kernel_rfl
theorem sat : Sat P (LW ad) 25 sp := sat_by (E := E) mixed enter (fun _ => teOf_ok types_ok) (fun _ => specOf_ok specs_nil) (fun _ => rfl) (fun _ => maps_none) (fun _ => ntmps.symm) (by rw [ntmps]; exact Nat.le_of_ble_eq_true rfl) labs_none (g := fun n x => f n x.1 x.2.1 x.2.2.1 x.2.2.2.1 x.2.2.2.2.1 x.2.2.2.2.2.1 x.2.2.2.2.2.2.1) (fun x => 1000 + x.1.toNat + x.2.1.toNat + x.2.2.1.toNat + x.2.2.2.1.toNat + x.2.2.2.2.1.toNat + x.2.2.2.2.2.1.toNat) sites_eq entry (fun _ => rfl)
end rivetref03_Fit

-- rivet/rivetlaw13.NameInstr
namespace rivetlaw13_NameInstr
noncomputable def sp : Spec := ⟨⟨[(0, .agg [.int .i64, .int .i64, .int .i64, .int .i64, .int .i64, .int .i64, .bool])], []⟩, ⟨[(0, .c .bool)], []⟩, fun x => g x.1 x.2.1 x.2.2.1 x.2.2.2.1 x.2.2.2.2.1 x.2.2.2.2.2.1 x.2.2.2.2.2.2.1⟩
noncomputable def E (n : Nat) : Env sp.r.T := ⟨teOf types, specOf [((22, []), rivetlaw13_shown.sp), ((25, []), rivetref03_Fit.sp), ((26, []), name_Mnemonic.sp), ((27, []), name_Of.sp), ((24, []), name_Label.sp)], fun r => if r = 8 then some ⟨⟨[(3, .c .bool), (4, .c (.ptr 0 0)), (5, .c (.int .i64))], [(some 1, [.int .i64, .int .i64, .int .i64, .int .i64, .int .i64, .int .i64, .bool])]⟩, fun ms x => j8 n x.1 x.2.2.1 x.2.2.2.1 x.2.2.2.2.1 x.2.2.2.2.2.1 x.2.2.2.2.2.2.1 x.2.2.2.2.2.2.2.1 x.2.2.2.2.2.2.2.2.1 x.2.2.2.2.2.2.2.2.2.1⟩ else if r = 6 then some ⟨⟨[(3, .c .bool), (4, .c (.ptr 0 0)), (5, .c (.int .i64))], [(some 1, [.int .i64, .int .i64, .int .i64, .int .i64, .int .i64, .int .i64, .bool])]⟩, fun ms x => j6 n x.1 x.2.2.1 x.2.2.2.1 x.2.2.2.2.1 x.2.2.2.2.2.1 x.2.2.2.2.2.2.1 x.2.2.2.2.2.2.2.1 x.2.2.2.2.2.2.2.2.1 x.2.2.2.2.2.2.2.2.2.1⟩ else none, fun _ => none, fun _ => none, n, 67, 0, fun _ _ => none⟩
theorem enter : Enterable P 9 := enter_of (by kernel_rfl)
theorem entry (n : Nat) : (fun x => evalCode (E n) [] (bodyOf P 9) (init sp (funcOf P 9).ntmps x) (endK (E n).te (resOf P 9) sp)) = fun x => f n x.1 x.2.1 x.2.2.1 x.2.2.2.1 x.2.2.2.2.1 x.2.2.2.2.2.1 x.2.2.2.2.2.2.1 := by kernel_rfl
theorem sites_eq (n : Nat) : (sites (E n) (bodyOf P 9) (fun _ => endK (E n).te (resOf P 9) sp)).map (Site.lhs (E n)) = (sites (E n) (bodyOf P 9) (fun _ => endK (E n).te (resOf P 9) sp)).map (Site.rhs (E n)) := by kernel_rfl
theorem ntmps : (funcOf P 9).ntmps = 67 := by kernel_rfl
theorem labs_none : (labs (bodyOf P 9)).isEmpty = true := by kernel_rfl
theorem sat : Sat P (LW ad) 9 sp := sat_by (E := E) mixed enter (fun _ => teOf_ok types_ok) (fun _ => specOf_ok (specs_cons rivetlaw13_shown.sat rivetlaw13_shown.enter (specs_cons rivetref03_Fit.sat rivetref03_Fit.enter (specs_cons name_Mnemonic.sat name_Mnemonic.enter (specs_cons name_Of.sat name_Of.enter (specs_cons name_Label.sat name_Label.enter specs_nil)))))) (fun _ => rfl) (fun _ => maps_none) (fun _ => ntmps.symm) (by rw [ntmps]; exact Nat.le_of_ble_eq_true rfl) labs_none (g := fun n x => f n x.1 x.2.1 x.2.2.1 x.2.2.2.1 x.2.2.2.2.1 x.2.2.2.2.2.1 x.2.2.2.2.2.2.1) (fun x => 1000 + x.1.toNat + x.2.1.toNat + x.2.2.1.toNat + x.2.2.2.1.toNat + x.2.2.2.2.1.toNat + x.2.2.2.2.2.1.toNat) sites_eq entry (fun _ => rfl)
end rivetlaw13_NameInstr

end
end Rv
