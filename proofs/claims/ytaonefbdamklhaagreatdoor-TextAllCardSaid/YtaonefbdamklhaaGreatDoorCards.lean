/-
  DERIVED. GIVEN WITH THE SEED: THE CARDS: each row of YtaonefbdamklhaaGreatDoorRows.lean that lists a variable, with what it lists TIED to the program's text (the seventh form; the later family's looks); each row that meets fmt, with fmt's text TOLD by the authors' own Lean function (tested against real Go, not proved from fmt's source: count such statements apart). THE CARD IS WHAT COUNTS. Prove the row's statement (the work); the ties are given (YtaonefbdamklhaaGreatDoorTie.lean); close each card by the builder's one call (the guide's Derived/Test/ToyasCard.lean, 'card_holds'). Laid BY PROGRAM, IN A SANDBOX (cutbox-door.mjs). By AI agents, Wed Nov 11 2026. No macro, syntax, notation, axiom, sorry.
-/
import Derived.Test.YtaonefbdamklhaaGreatDoorRows
import GoSem.ClaimSeven
namespace Go.Proofs.YtaonefbdamklhaaGreatDoor
namespace Rows

/-- THE TIED CARD OF 'rivetlaw18.TextJoin'. -/
def textJoinCard : Claim7 := { stood := { row := textJoinRow, standIns := [], harness := (true, "e7370b22ff3b8c7ec29a198e4d3b0e52f2eb7276a16c3b14e01ad6b89c3f9af2"), looks := true }, kinds := [], alts := [], laidByText := true, laidKinds := [.data, .data, .data, .data, .sentinel, .sentinel, .listed, .data, .mapped, .pinned], laidTests := true, laidLooks := .later }
def TextJoinCardSaid : Prop := Claim7.holds Tryz.pinned (.plain (OpenSpec.ofChange textJoinSpec)) textJoinCard

/-- THE TIED CARD OF 'rivetlaw18.TextLines'. -/
def textLinesCard : Claim7 := { stood := { row := textLinesRow, standIns := [], harness := (true, "e7370b22ff3b8c7ec29a198e4d3b0e52f2eb7276a16c3b14e01ad6b89c3f9af2"), looks := true }, kinds := [], alts := [], laidByText := true, laidKinds := [.data, .data, .data, .data, .sentinel, .sentinel, .listed, .data, .mapped, .pinned], laidTests := true, laidLooks := .later }
def TextLinesCardSaid : Prop := Claim7.holds Tryz.pinned (.plain (OpenSpec.ofChange textLinesSpec)) textLinesCard

/-- THE TIED CARD OF 'rivetlaw18.TextEmpty'. -/
def textEmptyCard : Claim7 := { stood := { row := textEmptyRow, standIns := [], harness := (true, "e7370b22ff3b8c7ec29a198e4d3b0e52f2eb7276a16c3b14e01ad6b89c3f9af2"), looks := true }, kinds := [], alts := [], laidByText := true, laidKinds := [.data, .data, .data, .data, .sentinel, .sentinel, .listed, .data, .mapped, .pinned], laidTests := true, laidLooks := .later }
def TextEmptyCardSaid : Prop := Claim7.holds Tryz.pinned (.plain (OpenSpec.ofChange textEmptySpec)) textEmptyCard

/-- THE TIED CARD OF 'rivetlaw17.StmtBack'. -/
def stmtBackCard : Claim7 := { stood := { row := stmtBackRow, standIns := [], harness := (true, "e7370b22ff3b8c7ec29a198e4d3b0e52f2eb7276a16c3b14e01ad6b89c3f9af2"), looks := true }, kinds := [], alts := [], laidByText := true, laidKinds := [.data, .data, .data, .data, .sentinel, .sentinel, .listed, .data, .mapped, .pinned], laidTests := true, laidLooks := .later }
def StmtBackCardSaid : Prop := Claim7.holds Tryz.pinned (.plain (OpenSpec.ofChange stmtBackSpec)) stmtBackCard

/-- THE TIED CARD OF 'rivetlaw17.StmtTaken'. -/
def stmtTakenCard : Claim7 := { stood := { row := stmtTakenRow, standIns := [], harness := (true, "e7370b22ff3b8c7ec29a198e4d3b0e52f2eb7276a16c3b14e01ad6b89c3f9af2"), looks := true }, kinds := [], alts := [], laidByText := true, laidKinds := [.data, .data, .data, .data, .sentinel, .sentinel, .listed, .data, .mapped, .pinned], laidTests := true, laidLooks := .later }
def StmtTakenCardSaid : Prop := Claim7.holds Tryz.pinned (.plain (OpenSpec.ofChange stmtTakenSpec)) stmtTakenCard

/-- THE TIED CARD OF 'rivetlaw17.StmtSpoilt'. -/
def stmtSpoiltCard : Claim7 := { stood := { row := stmtSpoiltRow, standIns := [], harness := (true, "e7370b22ff3b8c7ec29a198e4d3b0e52f2eb7276a16c3b14e01ad6b89c3f9af2"), looks := true }, kinds := [], alts := [], laidByText := true, laidKinds := [.data, .data, .data, .data, .sentinel, .sentinel, .listed, .data, .mapped, .pinned], laidTests := true, laidLooks := .later }
def StmtSpoiltCardSaid : Prop := Claim7.holds Tryz.pinned (.plain (OpenSpec.ofChange stmtSpoiltSpec)) stmtSpoiltCard

/-- THE TIED CARD OF 'rivetlaw17.StmtInstr'. -/
def stmtInstrCard : Claim7 := { stood := { row := stmtInstrRow, standIns := [], harness := (true, "e7370b22ff3b8c7ec29a198e4d3b0e52f2eb7276a16c3b14e01ad6b89c3f9af2"), looks := true }, kinds := [], alts := [], laidByText := true, laidKinds := [.data, .data, .data, .data, .sentinel, .sentinel, .listed, .data, .mapped, .pinned], laidTests := true, laidLooks := .later }
def StmtInstrCardSaid : Prop := Claim7.holds Tryz.pinned (.plain (OpenSpec.ofChange stmtInstrSpec)) stmtInstrCard

/-- THE TIED CARD OF 'rivetlaw17.StmtCuts'. -/
def stmtCutsCard : Claim7 := { stood := { row := stmtCutsRow, standIns := [], harness := (true, "e7370b22ff3b8c7ec29a198e4d3b0e52f2eb7276a16c3b14e01ad6b89c3f9af2"), looks := true }, kinds := [], alts := [], laidByText := true, laidKinds := [.data, .data, .data, .data, .sentinel, .sentinel, .listed, .data, .mapped, .pinned], laidTests := true, laidLooks := .later }
def StmtCutsCardSaid : Prop := Claim7.holds Tryz.pinned (.plain (OpenSpec.ofChange stmtCutsSpec)) stmtCutsCard

/-- THE TIED CARD OF 'rivetlaw17.StmtLabels'. -/
def stmtLabelsCard : Claim7 := { stood := { row := stmtLabelsRow, standIns := [], harness := (true, "e7370b22ff3b8c7ec29a198e4d3b0e52f2eb7276a16c3b14e01ad6b89c3f9af2"), looks := true }, kinds := [], alts := [], laidByText := true, laidKinds := [.data, .data, .data, .data, .sentinel, .sentinel, .listed, .data, .mapped, .pinned], laidTests := true, laidLooks := .later }
def StmtLabelsCardSaid : Prop := Claim7.holds Tryz.pinned (.plain (OpenSpec.ofChange stmtLabelsSpec)) stmtLabelsCard

/-- THE TIED CARD OF 'rivetlaw18.TextAll'. -/
def textAllCard : Claim7 := { stood := { row := textAllRow, standIns := [], harness := (true, "e7370b22ff3b8c7ec29a198e4d3b0e52f2eb7276a16c3b14e01ad6b89c3f9af2"), looks := true }, kinds := [], alts := [], laidByText := true, laidKinds := [.data, .data, .data, .data, .sentinel, .sentinel, .listed, .data, .mapped, .pinned], laidTests := true, laidLooks := .later }
def TextAllCardSaid : Prop := Claim7.holds Tryz.pinned (.plain (OpenSpec.ofChange textAllSpec)) textAllCard

/-- THE TIED CARD OF 'rivetlaw18.TextBack'. -/
def textBackCard : Claim7 := { stood := { row := textBackRow, standIns := [], harness := (true, "e7370b22ff3b8c7ec29a198e4d3b0e52f2eb7276a16c3b14e01ad6b89c3f9af2"), looks := true }, kinds := [], alts := [], laidByText := true, laidKinds := [.data, .data, .data, .data, .sentinel, .sentinel, .listed, .data, .mapped, .pinned], laidTests := true, laidLooks := .later }
def TextBackCardSaid : Prop := Claim7.holds Tryz.pinned (.plain (OpenSpec.ofChange textBackSpec)) textBackCard

/-- THE SECOND FORM's CARD OF 'rivetlaw18.TextJoin'. -/
def textJoinUptoCard : Claim7 := { stood := { row := textJoinUptoRow, standIns := [], harness := (true, "e7370b22ff3b8c7ec29a198e4d3b0e52f2eb7276a16c3b14e01ad6b89c3f9af2"), looks := true }, kinds := [], alts := [], laidByText := true, laidKinds := [.data, .data, .data, .data, .sentinel, .sentinel, .listed, .data, .mapped, .pinned], laidTests := true, laidLooks := .later }
def TextJoinUptoCardSaid : Prop := Claim7.holds Tryz.pinned (.plain (OpenSpec.upto textJoinSpec)) textJoinUptoCard

/-- THE SECOND FORM's CARD OF 'rivetlaw18.TextLines'. -/
def textLinesUptoCard : Claim7 := { stood := { row := textLinesUptoRow, standIns := [], harness := (true, "e7370b22ff3b8c7ec29a198e4d3b0e52f2eb7276a16c3b14e01ad6b89c3f9af2"), looks := true }, kinds := [], alts := [], laidByText := true, laidKinds := [.data, .data, .data, .data, .sentinel, .sentinel, .listed, .data, .mapped, .pinned], laidTests := true, laidLooks := .later }
def TextLinesUptoCardSaid : Prop := Claim7.holds Tryz.pinned (.plain (OpenSpec.upto textLinesSpec)) textLinesUptoCard

/-- THE SECOND FORM's CARD OF 'rivetlaw18.TextEmpty'. -/
def textEmptyUptoCard : Claim7 := { stood := { row := textEmptyUptoRow, standIns := [], harness := (true, "e7370b22ff3b8c7ec29a198e4d3b0e52f2eb7276a16c3b14e01ad6b89c3f9af2"), looks := true }, kinds := [], alts := [], laidByText := true, laidKinds := [.data, .data, .data, .data, .sentinel, .sentinel, .listed, .data, .mapped, .pinned], laidTests := true, laidLooks := .later }
def TextEmptyUptoCardSaid : Prop := Claim7.holds Tryz.pinned (.plain (OpenSpec.upto textEmptySpec)) textEmptyUptoCard

/-- THE SECOND FORM's CARD OF 'rivetlaw17.StmtBack'. -/
def stmtBackUptoCard : Claim7 := { stood := { row := stmtBackUptoRow, standIns := [], harness := (true, "e7370b22ff3b8c7ec29a198e4d3b0e52f2eb7276a16c3b14e01ad6b89c3f9af2"), looks := true }, kinds := [], alts := [], laidByText := true, laidKinds := [.data, .data, .data, .data, .sentinel, .sentinel, .listed, .data, .mapped, .pinned], laidTests := true, laidLooks := .later }
def StmtBackUptoCardSaid : Prop := Claim7.holds Tryz.pinned (.plain (OpenSpec.upto stmtBackSpec)) stmtBackUptoCard

/-- THE SECOND FORM's CARD OF 'rivetlaw17.StmtTaken'. -/
def stmtTakenUptoCard : Claim7 := { stood := { row := stmtTakenUptoRow, standIns := [], harness := (true, "e7370b22ff3b8c7ec29a198e4d3b0e52f2eb7276a16c3b14e01ad6b89c3f9af2"), looks := true }, kinds := [], alts := [], laidByText := true, laidKinds := [.data, .data, .data, .data, .sentinel, .sentinel, .listed, .data, .mapped, .pinned], laidTests := true, laidLooks := .later }
def StmtTakenUptoCardSaid : Prop := Claim7.holds Tryz.pinned (.plain (OpenSpec.upto stmtTakenSpec)) stmtTakenUptoCard

/-- THE SECOND FORM's CARD OF 'rivetlaw17.StmtSpoilt'. -/
def stmtSpoiltUptoCard : Claim7 := { stood := { row := stmtSpoiltUptoRow, standIns := [], harness := (true, "e7370b22ff3b8c7ec29a198e4d3b0e52f2eb7276a16c3b14e01ad6b89c3f9af2"), looks := true }, kinds := [], alts := [], laidByText := true, laidKinds := [.data, .data, .data, .data, .sentinel, .sentinel, .listed, .data, .mapped, .pinned], laidTests := true, laidLooks := .later }
def StmtSpoiltUptoCardSaid : Prop := Claim7.holds Tryz.pinned (.plain (OpenSpec.upto stmtSpoiltSpec)) stmtSpoiltUptoCard

/-- THE SECOND FORM's CARD OF 'rivetlaw17.StmtInstr'. -/
def stmtInstrUptoCard : Claim7 := { stood := { row := stmtInstrUptoRow, standIns := [], harness := (true, "e7370b22ff3b8c7ec29a198e4d3b0e52f2eb7276a16c3b14e01ad6b89c3f9af2"), looks := true }, kinds := [], alts := [], laidByText := true, laidKinds := [.data, .data, .data, .data, .sentinel, .sentinel, .listed, .data, .mapped, .pinned], laidTests := true, laidLooks := .later }
def StmtInstrUptoCardSaid : Prop := Claim7.holds Tryz.pinned (.plain (OpenSpec.upto stmtInstrSpec)) stmtInstrUptoCard

/-- THE SECOND FORM's CARD OF 'rivetlaw17.StmtCuts'. -/
def stmtCutsUptoCard : Claim7 := { stood := { row := stmtCutsUptoRow, standIns := [], harness := (true, "e7370b22ff3b8c7ec29a198e4d3b0e52f2eb7276a16c3b14e01ad6b89c3f9af2"), looks := true }, kinds := [], alts := [], laidByText := true, laidKinds := [.data, .data, .data, .data, .sentinel, .sentinel, .listed, .data, .mapped, .pinned], laidTests := true, laidLooks := .later }
def StmtCutsUptoCardSaid : Prop := Claim7.holds Tryz.pinned (.plain (OpenSpec.upto stmtCutsSpec)) stmtCutsUptoCard

/-- THE SECOND FORM's CARD OF 'rivetlaw17.StmtLabels'. -/
def stmtLabelsUptoCard : Claim7 := { stood := { row := stmtLabelsUptoRow, standIns := [], harness := (true, "e7370b22ff3b8c7ec29a198e4d3b0e52f2eb7276a16c3b14e01ad6b89c3f9af2"), looks := true }, kinds := [], alts := [], laidByText := true, laidKinds := [.data, .data, .data, .data, .sentinel, .sentinel, .listed, .data, .mapped, .pinned], laidTests := true, laidLooks := .later }
def StmtLabelsUptoCardSaid : Prop := Claim7.holds Tryz.pinned (.plain (OpenSpec.upto stmtLabelsSpec)) stmtLabelsUptoCard

/-- THE SECOND FORM's CARD OF 'rivetlaw18.TextAll'. -/
def textAllUptoCard : Claim7 := { stood := { row := textAllUptoRow, standIns := [], harness := (true, "e7370b22ff3b8c7ec29a198e4d3b0e52f2eb7276a16c3b14e01ad6b89c3f9af2"), looks := true }, kinds := [], alts := [], laidByText := true, laidKinds := [.data, .data, .data, .data, .sentinel, .sentinel, .listed, .data, .mapped, .pinned], laidTests := true, laidLooks := .later }
def TextAllUptoCardSaid : Prop := Claim7.holds Tryz.pinned (.plain (OpenSpec.upto textAllSpec)) textAllUptoCard

/-- THE SECOND FORM's CARD OF 'rivetlaw18.TextBack'. -/
def textBackUptoCard : Claim7 := { stood := { row := textBackUptoRow, standIns := [], harness := (true, "e7370b22ff3b8c7ec29a198e4d3b0e52f2eb7276a16c3b14e01ad6b89c3f9af2"), looks := true }, kinds := [], alts := [], laidByText := true, laidKinds := [.data, .data, .data, .data, .sentinel, .sentinel, .listed, .data, .mapped, .pinned], laidTests := true, laidLooks := .later }
def TextBackUptoCardSaid : Prop := Claim7.holds Tryz.pinned (.plain (OpenSpec.upto textBackSpec)) textBackUptoCard
end Rows
end Go.Proofs.YtaonefbdamklhaaGreatDoor
