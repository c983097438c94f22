/-
  DERIVED. GIVEN WITH THE SEED: THE CARDS: each row of YtlbfhddhojejfaaDoorRows.lean that lists a variable, with what it lists TIED to the program's text (the seventh form; the later family's looks); each row that meets fmt, with fmt's text TOLD by the authors' own Lean function (tested against real Go, not proved from fmt's source: count such statements apart). THE CARD IS WHAT COUNTS. Prove the row's statement (the work); the ties are given (YtlbfhddhojejfaaDoorTie.lean); close each card by the builder's one call (the guide's Derived/Test/ToyasCard.lean, 'card_holds'). Laid BY PROGRAM, IN A SANDBOX (cutbox-door.mjs). By AI agents, Wed Nov 11 2026. No macro, syntax, notation, axiom, sorry.
-/
import Derived.Test.YtlbfhddhojejfaaDoorRows
import GoSem.ClaimSeven
namespace Go.Proofs.YtlbfhddhojejfaaDoor
namespace Rows

/-- THE TIED CARD OF 'rivetlaw14.ScanNumbers'. -/
def scanNumbersCard : Claim7 := { stood := { row := scanNumbersRow, standIns := [], harness := (true, "5fee1ad4b86da78122a5749aa9b08a2e3f1fa1280ab82aed32982857ed0a643e"), looks := true }, kinds := [], alts := [], laidByText := true, laidKinds := [.data, .data, .data, .sentinel, .sentinel], laidTests := true, laidLooks := .later }
def ScanNumbersCardSaid : Prop := Claim7.holds Tryd.pinned (.plain (OpenSpec.ofChange scanNumbersSpec)) scanNumbersCard

/-- THE TIED CARD OF 'rivetlaw14.ScanBlanks'. -/
def scanBlanksCard : Claim7 := { stood := { row := scanBlanksRow, standIns := [], harness := (true, "5fee1ad4b86da78122a5749aa9b08a2e3f1fa1280ab82aed32982857ed0a643e"), looks := true }, kinds := [], alts := [], laidByText := true, laidKinds := [.data, .data, .data, .sentinel, .sentinel], laidTests := true, laidLooks := .later }
def ScanBlanksCardSaid : Prop := Claim7.holds Tryd.pinned (.plain (OpenSpec.ofChange scanBlanksSpec)) scanBlanksCard

/-- THE TIED CARD OF 'rivetlaw14.ScanParts'. -/
def scanPartsCard : Claim7 := { stood := { row := scanPartsRow, standIns := [], harness := (true, "5fee1ad4b86da78122a5749aa9b08a2e3f1fa1280ab82aed32982857ed0a643e"), looks := true }, kinds := [], alts := [], laidByText := true, laidKinds := [.data, .data, .data, .sentinel, .sentinel], laidTests := true, laidLooks := .later }
def ScanPartsCardSaid : Prop := Claim7.holds Tryd.pinned (.plain (OpenSpec.ofChange scanPartsSpec)) scanPartsCard

/-- THE TIED CARD OF 'rivetlaw14.ScanAll'. -/
def scanAllCard : Claim7 := { stood := { row := scanAllRow, standIns := [], harness := (true, "5fee1ad4b86da78122a5749aa9b08a2e3f1fa1280ab82aed32982857ed0a643e"), looks := true }, kinds := [], alts := [], laidByText := true, laidKinds := [.data, .data, .data, .sentinel, .sentinel], laidTests := true, laidLooks := .later }
def ScanAllCardSaid : Prop := Claim7.holds Tryd.pinned (.plain (OpenSpec.ofChange scanAllSpec)) scanAllCard

/-- THE TIED CARD OF 'rivetlaw14.ScanBack'. -/
def scanBackCard : Claim7 := { stood := { row := scanBackRow, standIns := [], harness := (true, "5fee1ad4b86da78122a5749aa9b08a2e3f1fa1280ab82aed32982857ed0a643e"), looks := true }, kinds := [], alts := [], laidByText := true, laidKinds := [.data, .data, .data, .sentinel, .sentinel], laidTests := true, laidLooks := .later }
def ScanBackCardSaid : Prop := Claim7.holds Tryd.pinned (.plain (OpenSpec.ofChange scanBackSpec)) scanBackCard

/-- THE TIED CARD OF 'rivetlaw13.NameLabels'. -/
def nameLabelsCard : Claim7 := { stood := { row := nameLabelsRow, standIns := [], harness := (true, "5fee1ad4b86da78122a5749aa9b08a2e3f1fa1280ab82aed32982857ed0a643e"), looks := true }, kinds := [], alts := [], laidByText := true, laidKinds := [.data, .listed, .data, .pinned], laidTests := true, laidLooks := .later }
def NameLabelsCardSaid : Prop := Claim7.holds Tryd.pinned (.plain (OpenSpec.ofChange nameLabelsSpec)) nameLabelsCard

/-- THE TIED CARD OF 'rivetlaw13.NameInstr'. -/
def nameInstrCard : Claim7 := { stood := { row := nameInstrRow, standIns := [], harness := (true, "5fee1ad4b86da78122a5749aa9b08a2e3f1fa1280ab82aed32982857ed0a643e"), looks := true }, kinds := [], alts := [], laidByText := true, laidKinds := [.data, .listed, .data, .pinned], laidTests := true, laidLooks := .later }
def NameInstrCardSaid : Prop := Claim7.holds Tryd.pinned (.plain (OpenSpec.ofChange nameInstrSpec)) nameInstrCard

/-- THE TIED CARD OF 'rivetlaw13.NameRegs'. -/
def nameRegsCard : Claim7 := { stood := { row := nameRegsRow, standIns := [], harness := (true, "5fee1ad4b86da78122a5749aa9b08a2e3f1fa1280ab82aed32982857ed0a643e"), looks := true }, kinds := [], alts := [], laidByText := true, laidKinds := [.data, .data, .data, .data, .sentinel, .sentinel, .listed, .data, .pinned], laidTests := true, laidLooks := .later }
def NameRegsCardSaid : Prop := Claim7.holds Tryd.pinned (.plain (OpenSpec.ofChange nameRegsSpec)) nameRegsCard

/-- THE TIED CARD OF 'rivetlaw13.NameAll'. -/
def nameAllCard : Claim7 := { stood := { row := nameAllRow, standIns := [], harness := (true, "5fee1ad4b86da78122a5749aa9b08a2e3f1fa1280ab82aed32982857ed0a643e"), looks := true }, kinds := [], alts := [], laidByText := true, laidKinds := [.data, .data, .data, .data, .sentinel, .sentinel, .listed, .data, .pinned], laidTests := true, laidLooks := .later }
def NameAllCardSaid : Prop := Claim7.holds Tryd.pinned (.plain (OpenSpec.ofChange nameAllSpec)) nameAllCard

/-- THE TIED CARD OF 'rivetlaw13.NameBack'. -/
def nameBackCard : Claim7 := { stood := { row := nameBackRow, standIns := [], harness := (true, "5fee1ad4b86da78122a5749aa9b08a2e3f1fa1280ab82aed32982857ed0a643e"), looks := true }, kinds := [], alts := [], laidByText := true, laidKinds := [.data, .data, .data, .data, .sentinel, .sentinel, .listed, .data, .pinned], laidTests := true, laidLooks := .later }
def NameBackCardSaid : Prop := Claim7.holds Tryd.pinned (.plain (OpenSpec.ofChange nameBackSpec)) nameBackCard

/-- THE SECOND FORM's CARD OF 'rivetlaw14.ScanNumbers'. -/
def scanNumbersUptoCard : Claim7 := { stood := { row := scanNumbersUptoRow, standIns := [], harness := (true, "5fee1ad4b86da78122a5749aa9b08a2e3f1fa1280ab82aed32982857ed0a643e"), looks := true }, kinds := [], alts := [], laidByText := true, laidKinds := [.data, .data, .data, .sentinel, .sentinel], laidTests := true, laidLooks := .later }
def ScanNumbersUptoCardSaid : Prop := Claim7.holds Tryd.pinned (.plain (OpenSpec.upto scanNumbersSpec)) scanNumbersUptoCard

/-- THE SECOND FORM's CARD OF 'rivetlaw14.ScanBlanks'. -/
def scanBlanksUptoCard : Claim7 := { stood := { row := scanBlanksUptoRow, standIns := [], harness := (true, "5fee1ad4b86da78122a5749aa9b08a2e3f1fa1280ab82aed32982857ed0a643e"), looks := true }, kinds := [], alts := [], laidByText := true, laidKinds := [.data, .data, .data, .sentinel, .sentinel], laidTests := true, laidLooks := .later }
def ScanBlanksUptoCardSaid : Prop := Claim7.holds Tryd.pinned (.plain (OpenSpec.upto scanBlanksSpec)) scanBlanksUptoCard

/-- THE SECOND FORM's CARD OF 'rivetlaw14.ScanParts'. -/
def scanPartsUptoCard : Claim7 := { stood := { row := scanPartsUptoRow, standIns := [], harness := (true, "5fee1ad4b86da78122a5749aa9b08a2e3f1fa1280ab82aed32982857ed0a643e"), looks := true }, kinds := [], alts := [], laidByText := true, laidKinds := [.data, .data, .data, .sentinel, .sentinel], laidTests := true, laidLooks := .later }
def ScanPartsUptoCardSaid : Prop := Claim7.holds Tryd.pinned (.plain (OpenSpec.upto scanPartsSpec)) scanPartsUptoCard

/-- THE SECOND FORM's CARD OF 'rivetlaw14.ScanAll'. -/
def scanAllUptoCard : Claim7 := { stood := { row := scanAllUptoRow, standIns := [], harness := (true, "5fee1ad4b86da78122a5749aa9b08a2e3f1fa1280ab82aed32982857ed0a643e"), looks := true }, kinds := [], alts := [], laidByText := true, laidKinds := [.data, .data, .data, .sentinel, .sentinel], laidTests := true, laidLooks := .later }
def ScanAllUptoCardSaid : Prop := Claim7.holds Tryd.pinned (.plain (OpenSpec.upto scanAllSpec)) scanAllUptoCard

/-- THE SECOND FORM's CARD OF 'rivetlaw14.ScanBack'. -/
def scanBackUptoCard : Claim7 := { stood := { row := scanBackUptoRow, standIns := [], harness := (true, "5fee1ad4b86da78122a5749aa9b08a2e3f1fa1280ab82aed32982857ed0a643e"), looks := true }, kinds := [], alts := [], laidByText := true, laidKinds := [.data, .data, .data, .sentinel, .sentinel], laidTests := true, laidLooks := .later }
def ScanBackUptoCardSaid : Prop := Claim7.holds Tryd.pinned (.plain (OpenSpec.upto scanBackSpec)) scanBackUptoCard

/-- THE SECOND FORM's CARD OF 'rivetlaw13.NameLabels'. -/
def nameLabelsUptoCard : Claim7 := { stood := { row := nameLabelsUptoRow, standIns := [], harness := (true, "5fee1ad4b86da78122a5749aa9b08a2e3f1fa1280ab82aed32982857ed0a643e"), looks := true }, kinds := [], alts := [], laidByText := true, laidKinds := [.data, .listed, .data, .pinned], laidTests := true, laidLooks := .later }
def NameLabelsUptoCardSaid : Prop := Claim7.holds Tryd.pinned (.plain (OpenSpec.upto nameLabelsSpec)) nameLabelsUptoCard

/-- THE SECOND FORM's CARD OF 'rivetlaw13.NameInstr'. -/
def nameInstrUptoCard : Claim7 := { stood := { row := nameInstrUptoRow, standIns := [], harness := (true, "5fee1ad4b86da78122a5749aa9b08a2e3f1fa1280ab82aed32982857ed0a643e"), looks := true }, kinds := [], alts := [], laidByText := true, laidKinds := [.data, .listed, .data, .pinned], laidTests := true, laidLooks := .later }
def NameInstrUptoCardSaid : Prop := Claim7.holds Tryd.pinned (.plain (OpenSpec.upto nameInstrSpec)) nameInstrUptoCard

/-- THE SECOND FORM's CARD OF 'rivetlaw13.NameRegs'. -/
def nameRegsUptoCard : Claim7 := { stood := { row := nameRegsUptoRow, standIns := [], harness := (true, "5fee1ad4b86da78122a5749aa9b08a2e3f1fa1280ab82aed32982857ed0a643e"), looks := true }, kinds := [], alts := [], laidByText := true, laidKinds := [.data, .data, .data, .data, .sentinel, .sentinel, .listed, .data, .pinned], laidTests := true, laidLooks := .later }
def NameRegsUptoCardSaid : Prop := Claim7.holds Tryd.pinned (.plain (OpenSpec.upto nameRegsSpec)) nameRegsUptoCard

/-- THE SECOND FORM's CARD OF 'rivetlaw13.NameAll'. -/
def nameAllUptoCard : Claim7 := { stood := { row := nameAllUptoRow, standIns := [], harness := (true, "5fee1ad4b86da78122a5749aa9b08a2e3f1fa1280ab82aed32982857ed0a643e"), looks := true }, kinds := [], alts := [], laidByText := true, laidKinds := [.data, .data, .data, .data, .sentinel, .sentinel, .listed, .data, .pinned], laidTests := true, laidLooks := .later }
def NameAllUptoCardSaid : Prop := Claim7.holds Tryd.pinned (.plain (OpenSpec.upto nameAllSpec)) nameAllUptoCard

/-- THE SECOND FORM's CARD OF 'rivetlaw13.NameBack'. -/
def nameBackUptoCard : Claim7 := { stood := { row := nameBackUptoRow, standIns := [], harness := (true, "5fee1ad4b86da78122a5749aa9b08a2e3f1fa1280ab82aed32982857ed0a643e"), looks := true }, kinds := [], alts := [], laidByText := true, laidKinds := [.data, .data, .data, .data, .sentinel, .sentinel, .listed, .data, .pinned], laidTests := true, laidLooks := .later }
def NameBackUptoCardSaid : Prop := Claim7.holds Tryd.pinned (.plain (OpenSpec.upto nameBackSpec)) nameBackUptoCard
end Rows
end Go.Proofs.YtlbfhddhojejfaaDoor
