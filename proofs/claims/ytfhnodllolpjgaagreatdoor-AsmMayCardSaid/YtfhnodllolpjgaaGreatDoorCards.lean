/-
  DERIVED. GIVEN WITH THE SEED: THE CARDS: each row of YtfhnodllolpjgaaGreatDoorRows.lean that lists a variable, with what it lists TIED to the program's text (the seventh form; the later family's looks); each row that meets fmt, with fmt's text TOLD by the authors' own Lean function (tested against real Go, not proved from fmt's source: count such statements apart). THE CARD IS WHAT COUNTS. Prove the row's statement (the work); the ties are given (YtfhnodllolpjgaaGreatDoorTie.lean); close each card by the builder's one call (the guide's Derived/Test/ToyasCard.lean, 'card_holds'). Laid BY PROGRAM, IN A SANDBOX (cutbox-door.mjs). By AI agents, Wed Nov 11 2026. No macro, syntax, notation, axiom, sorry.
-/
import Derived.Test.YtfhnodllolpjgaaGreatDoorRows
import GoSem.ClaimSeven
namespace Go.Proofs.YtfhnodllolpjgaaGreatDoor
namespace Rows

/-- THE TIED CARD OF 'rivetlaw21.AsmAll'. -/
def asmAllCard : Claim7 := { stood := { row := asmAllRow, standIns := [], harness := (true, "a382c50635222c4296c433459698ef7b8b8b3945e160d9f1d0ac39838ab0ed67"), looks := true }, kinds := [], alts := [], laidByText := true, laidKinds := [.data, .data, .data, .data, .sentinel, .sentinel, .listed, .data, .mapped, .pinned], laidTests := true, laidLooks := .later }
def AsmAllCardSaid : Prop := Claim7.holds Tryz.pinned (.plain (OpenSpec.ofChange asmAllSpec)) asmAllCard

/-- THE TIED CARD OF 'rivetlaw21.AsmRefuses'. -/
def asmRefusesCard : Claim7 := { stood := { row := asmRefusesRow, standIns := [], harness := (true, "a382c50635222c4296c433459698ef7b8b8b3945e160d9f1d0ac39838ab0ed67"), looks := true }, kinds := [], alts := [], laidByText := true, laidKinds := [.data, .data, .data, .data, .sentinel, .sentinel, .listed, .data, .mapped, .pinned], laidTests := true, laidLooks := .later }
def AsmRefusesCardSaid : Prop := Claim7.holds Tryz.pinned (.plain (OpenSpec.ofChange asmRefusesSpec)) asmRefusesCard

/-- THE TIED CARD OF 'rivetlaw21.AsmSame'. -/
def asmSameCard : Claim7 := { stood := { row := asmSameRow, standIns := [], harness := (true, "a382c50635222c4296c433459698ef7b8b8b3945e160d9f1d0ac39838ab0ed67"), looks := true }, kinds := [], alts := [], laidByText := true, laidKinds := [.data, .data, .data, .data, .sentinel, .sentinel, .listed, .data, .mapped, .pinned], laidTests := true, laidLooks := .later }
def AsmSameCardSaid : Prop := Claim7.holds Tryz.pinned (.plain (OpenSpec.ofChange asmSameSpec)) asmSameCard

/-- THE TIED CARD OF 'rivetlaw21.AsmMay'. -/
def asmMayCard : Claim7 := { stood := { row := asmMayRow, standIns := [], harness := (true, "a382c50635222c4296c433459698ef7b8b8b3945e160d9f1d0ac39838ab0ed67"), looks := true }, kinds := [], alts := [], laidByText := true, laidKinds := [.data, .data, .data, .data, .sentinel, .sentinel, .listed, .data, .mapped, .pinned], laidTests := true, laidLooks := .later }
def AsmMayCardSaid : Prop := Claim7.holds Tryz.pinned (.plain (OpenSpec.ofChange asmMaySpec)) asmMayCard

/-- THE SECOND FORM's CARD OF 'rivetlaw21.AsmAll'. -/
def asmAllUptoCard : Claim7 := { stood := { row := asmAllUptoRow, standIns := [], harness := (true, "a382c50635222c4296c433459698ef7b8b8b3945e160d9f1d0ac39838ab0ed67"), looks := true }, kinds := [], alts := [], laidByText := true, laidKinds := [.data, .data, .data, .data, .sentinel, .sentinel, .listed, .data, .mapped, .pinned], laidTests := true, laidLooks := .later }
def AsmAllUptoCardSaid : Prop := Claim7.holds Tryz.pinned (.plain (OpenSpec.upto asmAllSpec)) asmAllUptoCard

/-- THE SECOND FORM's CARD OF 'rivetlaw21.AsmRefuses'. -/
def asmRefusesUptoCard : Claim7 := { stood := { row := asmRefusesUptoRow, standIns := [], harness := (true, "a382c50635222c4296c433459698ef7b8b8b3945e160d9f1d0ac39838ab0ed67"), looks := true }, kinds := [], alts := [], laidByText := true, laidKinds := [.data, .data, .data, .data, .sentinel, .sentinel, .listed, .data, .mapped, .pinned], laidTests := true, laidLooks := .later }
def AsmRefusesUptoCardSaid : Prop := Claim7.holds Tryz.pinned (.plain (OpenSpec.upto asmRefusesSpec)) asmRefusesUptoCard

/-- THE SECOND FORM's CARD OF 'rivetlaw21.AsmSame'. -/
def asmSameUptoCard : Claim7 := { stood := { row := asmSameUptoRow, standIns := [], harness := (true, "a382c50635222c4296c433459698ef7b8b8b3945e160d9f1d0ac39838ab0ed67"), looks := true }, kinds := [], alts := [], laidByText := true, laidKinds := [.data, .data, .data, .data, .sentinel, .sentinel, .listed, .data, .mapped, .pinned], laidTests := true, laidLooks := .later }
def AsmSameUptoCardSaid : Prop := Claim7.holds Tryz.pinned (.plain (OpenSpec.upto asmSameSpec)) asmSameUptoCard

/-- THE SECOND FORM's CARD OF 'rivetlaw21.AsmMay'. -/
def asmMayUptoCard : Claim7 := { stood := { row := asmMayUptoRow, standIns := [], harness := (true, "a382c50635222c4296c433459698ef7b8b8b3945e160d9f1d0ac39838ab0ed67"), looks := true }, kinds := [], alts := [], laidByText := true, laidKinds := [.data, .data, .data, .data, .sentinel, .sentinel, .listed, .data, .mapped, .pinned], laidTests := true, laidLooks := .later }
def AsmMayUptoCardSaid : Prop := Claim7.holds Tryz.pinned (.plain (OpenSpec.upto asmMaySpec)) asmMayUptoCard
end Rows
end Go.Proofs.YtfhnodllolpjgaaGreatDoor
