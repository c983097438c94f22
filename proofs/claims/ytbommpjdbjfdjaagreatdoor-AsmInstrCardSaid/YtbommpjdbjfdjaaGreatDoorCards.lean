/-
  DERIVED. GIVEN WITH THE SEED: THE CARDS: each row of YtbommpjdbjfdjaaGreatDoorRows.lean that lists a variable, with what it lists TIED to the program's text (the seventh form; the later family's looks); each row that meets fmt, with fmt's text TOLD by the authors' own Lean function (tested against real Go, not proved from fmt's source: count such statements apart). THE CARD IS WHAT COUNTS. Prove the row's statement (the work); the ties are given (YtbommpjdbjfdjaaGreatDoorTie.lean); close each card by the builder's one call (the guide's Derived/Test/ToyasCard.lean, 'card_holds'). Laid BY PROGRAM, IN A SANDBOX (cutbox-door.mjs). By AI agents, Wed Nov 11 2026. No macro, syntax, notation, axiom, sorry.
-/
import Derived.Test.YtbommpjdbjfdjaaGreatDoorRows
import GoSem.ClaimSeven
namespace Go.Proofs.YtbommpjdbjfdjaaGreatDoor
namespace Rows

/-- THE TIED CARD OF 'rivetlaw20.LayoutAll'. -/
def layoutAllCard : Claim7 := { stood := { row := layoutAllRow, standIns := [], harness := (true, "0a8f62c8b9b1fa6bf4fea3129c7d14114735e60111d308f35feeef333663f4d0"), looks := true }, kinds := [], alts := [], laidByText := true, laidKinds := [.data, .data, .data, .data, .sentinel, .sentinel, .listed, .data, .mapped, .pinned], laidTests := true, laidLooks := .later }
def LayoutAllCardSaid : Prop := Claim7.holds Tryz.pinned (.plain (OpenSpec.ofChange layoutAllSpec)) layoutAllCard

/-- THE TIED CARD OF 'rivetlaw20.LayoutPlaces'. -/
def layoutPlacesCard : Claim7 := { stood := { row := layoutPlacesRow, standIns := [], harness := (true, "0a8f62c8b9b1fa6bf4fea3129c7d14114735e60111d308f35feeef333663f4d0"), looks := true }, kinds := [], alts := [], laidByText := true, laidKinds := [.data, .data, .data, .data, .sentinel, .sentinel, .listed, .data, .mapped, .pinned], laidTests := true, laidLooks := .later }
def LayoutPlacesCardSaid : Prop := Claim7.holds Tryz.pinned (.plain (OpenSpec.ofChange layoutPlacesSpec)) layoutPlacesCard

/-- THE TIED CARD OF 'rivetlaw20.LayoutTwice'. -/
def layoutTwiceCard : Claim7 := { stood := { row := layoutTwiceRow, standIns := [], harness := (true, "0a8f62c8b9b1fa6bf4fea3129c7d14114735e60111d308f35feeef333663f4d0"), looks := true }, kinds := [], alts := [], laidByText := true, laidKinds := [.data, .data, .data, .data, .sentinel, .sentinel, .listed, .data, .mapped, .pinned], laidTests := true, laidLooks := .later }
def LayoutTwiceCardSaid : Prop := Claim7.holds Tryz.pinned (.plain (OpenSpec.ofChange layoutTwiceSpec)) layoutTwiceCard

/-- THE TIED CARD OF 'rivetlaw20.LayoutMoves'. -/
def layoutMovesCard : Claim7 := { stood := { row := layoutMovesRow, standIns := [], harness := (true, "0a8f62c8b9b1fa6bf4fea3129c7d14114735e60111d308f35feeef333663f4d0"), looks := true }, kinds := [], alts := [], laidByText := true, laidKinds := [.data, .data, .data, .data, .sentinel, .sentinel, .listed, .data, .mapped, .pinned], laidTests := true, laidLooks := .later }
def LayoutMovesCardSaid : Prop := Claim7.holds Tryz.pinned (.plain (OpenSpec.ofChange layoutMovesSpec)) layoutMovesCard

/-- THE TIED CARD OF 'rivetlaw20.LayoutPools'. -/
def layoutPoolsCard : Claim7 := { stood := { row := layoutPoolsRow, standIns := [], harness := (true, "0a8f62c8b9b1fa6bf4fea3129c7d14114735e60111d308f35feeef333663f4d0"), looks := true }, kinds := [], alts := [], laidByText := true, laidKinds := [.data, .data, .data, .data, .sentinel, .sentinel, .listed, .data, .mapped, .pinned], laidTests := true, laidLooks := .later }
def LayoutPoolsCardSaid : Prop := Claim7.holds Tryz.pinned (.plain (OpenSpec.ofChange layoutPoolsSpec)) layoutPoolsCard

/-- THE TIED CARD OF 'rivetlaw21.AsmAll'. -/
def asmAllCard : Claim7 := { stood := { row := asmAllRow, standIns := [], harness := (true, "0a8f62c8b9b1fa6bf4fea3129c7d14114735e60111d308f35feeef333663f4d0"), looks := true }, kinds := [], alts := [], laidByText := true, laidKinds := [.data, .data, .data, .data, .sentinel, .sentinel, .listed, .data, .mapped, .pinned], laidTests := true, laidLooks := .later }
def AsmAllCardSaid : Prop := Claim7.holds Tryz.pinned (.plain (OpenSpec.ofChange asmAllSpec)) asmAllCard

/-- THE TIED CARD OF 'rivetlaw21.AsmSites'. -/
def asmSitesCard : Claim7 := { stood := { row := asmSitesRow, standIns := [], harness := (true, "0a8f62c8b9b1fa6bf4fea3129c7d14114735e60111d308f35feeef333663f4d0"), looks := true }, kinds := [], alts := [], laidByText := true, laidKinds := [.data, .data, .data, .data, .sentinel, .sentinel, .listed, .data, .mapped, .pinned], laidTests := true, laidLooks := .later }
def AsmSitesCardSaid : Prop := Claim7.holds Tryz.pinned (.plain (OpenSpec.ofChange asmSitesSpec)) asmSitesCard

/-- THE TIED CARD OF 'rivetlaw21.AsmInstr'. -/
def asmInstrCard : Claim7 := { stood := { row := asmInstrRow, standIns := [], harness := (true, "0a8f62c8b9b1fa6bf4fea3129c7d14114735e60111d308f35feeef333663f4d0"), looks := true }, kinds := [], alts := [], laidByText := true, laidKinds := [.data, .data, .data, .data, .sentinel, .sentinel, .listed, .data, .mapped, .pinned], laidTests := true, laidLooks := .later }
def AsmInstrCardSaid : Prop := Claim7.holds Tryz.pinned (.plain (OpenSpec.ofChange asmInstrSpec)) asmInstrCard

/-- THE TIED CARD OF 'rivetlaw21.AsmRefuses'. -/
def asmRefusesCard : Claim7 := { stood := { row := asmRefusesRow, standIns := [], harness := (true, "0a8f62c8b9b1fa6bf4fea3129c7d14114735e60111d308f35feeef333663f4d0"), looks := true }, kinds := [], alts := [], laidByText := true, laidKinds := [.data, .data, .data, .data, .sentinel, .sentinel, .listed, .data, .mapped, .pinned], laidTests := true, laidLooks := .later }
def AsmRefusesCardSaid : Prop := Claim7.holds Tryz.pinned (.plain (OpenSpec.ofChange asmRefusesSpec)) asmRefusesCard

/-- THE TIED CARD OF 'rivetlaw21.AsmWords'. -/
def asmWordsCard : Claim7 := { stood := { row := asmWordsRow, standIns := [], harness := (true, "0a8f62c8b9b1fa6bf4fea3129c7d14114735e60111d308f35feeef333663f4d0"), looks := true }, kinds := [], alts := [], laidByText := true, laidKinds := [.data, .data, .data, .data, .sentinel, .sentinel, .listed, .data, .mapped, .pinned], laidTests := true, laidLooks := .later }
def AsmWordsCardSaid : Prop := Claim7.holds Tryz.pinned (.plain (OpenSpec.ofChange asmWordsSpec)) asmWordsCard

/-- THE TIED CARD OF 'rivetlaw21.AsmSame'. -/
def asmSameCard : Claim7 := { stood := { row := asmSameRow, standIns := [], harness := (true, "0a8f62c8b9b1fa6bf4fea3129c7d14114735e60111d308f35feeef333663f4d0"), looks := true }, kinds := [], alts := [], laidByText := true, laidKinds := [.data, .data, .data, .data, .sentinel, .sentinel, .listed, .data, .mapped, .pinned], laidTests := true, laidLooks := .later }
def AsmSameCardSaid : Prop := Claim7.holds Tryz.pinned (.plain (OpenSpec.ofChange asmSameSpec)) asmSameCard

/-- THE TIED CARD OF 'rivetlaw21.AsmMay'. -/
def asmMayCard : Claim7 := { stood := { row := asmMayRow, standIns := [], harness := (true, "0a8f62c8b9b1fa6bf4fea3129c7d14114735e60111d308f35feeef333663f4d0"), looks := true }, kinds := [], alts := [], laidByText := true, laidKinds := [.data, .data, .data, .data, .sentinel, .sentinel, .listed, .data, .mapped, .pinned], laidTests := true, laidLooks := .later }
def AsmMayCardSaid : Prop := Claim7.holds Tryz.pinned (.plain (OpenSpec.ofChange asmMaySpec)) asmMayCard

/-- THE SECOND FORM's CARD OF 'rivetlaw20.LayoutAll'. -/
def layoutAllUptoCard : Claim7 := { stood := { row := layoutAllUptoRow, standIns := [], harness := (true, "0a8f62c8b9b1fa6bf4fea3129c7d14114735e60111d308f35feeef333663f4d0"), looks := true }, kinds := [], alts := [], laidByText := true, laidKinds := [.data, .data, .data, .data, .sentinel, .sentinel, .listed, .data, .mapped, .pinned], laidTests := true, laidLooks := .later }
def LayoutAllUptoCardSaid : Prop := Claim7.holds Tryz.pinned (.plain (OpenSpec.upto layoutAllSpec)) layoutAllUptoCard

/-- THE SECOND FORM's CARD OF 'rivetlaw20.LayoutPlaces'. -/
def layoutPlacesUptoCard : Claim7 := { stood := { row := layoutPlacesUptoRow, standIns := [], harness := (true, "0a8f62c8b9b1fa6bf4fea3129c7d14114735e60111d308f35feeef333663f4d0"), looks := true }, kinds := [], alts := [], laidByText := true, laidKinds := [.data, .data, .data, .data, .sentinel, .sentinel, .listed, .data, .mapped, .pinned], laidTests := true, laidLooks := .later }
def LayoutPlacesUptoCardSaid : Prop := Claim7.holds Tryz.pinned (.plain (OpenSpec.upto layoutPlacesSpec)) layoutPlacesUptoCard

/-- THE SECOND FORM's CARD OF 'rivetlaw20.LayoutTwice'. -/
def layoutTwiceUptoCard : Claim7 := { stood := { row := layoutTwiceUptoRow, standIns := [], harness := (true, "0a8f62c8b9b1fa6bf4fea3129c7d14114735e60111d308f35feeef333663f4d0"), looks := true }, kinds := [], alts := [], laidByText := true, laidKinds := [.data, .data, .data, .data, .sentinel, .sentinel, .listed, .data, .mapped, .pinned], laidTests := true, laidLooks := .later }
def LayoutTwiceUptoCardSaid : Prop := Claim7.holds Tryz.pinned (.plain (OpenSpec.upto layoutTwiceSpec)) layoutTwiceUptoCard

/-- THE SECOND FORM's CARD OF 'rivetlaw20.LayoutMoves'. -/
def layoutMovesUptoCard : Claim7 := { stood := { row := layoutMovesUptoRow, standIns := [], harness := (true, "0a8f62c8b9b1fa6bf4fea3129c7d14114735e60111d308f35feeef333663f4d0"), looks := true }, kinds := [], alts := [], laidByText := true, laidKinds := [.data, .data, .data, .data, .sentinel, .sentinel, .listed, .data, .mapped, .pinned], laidTests := true, laidLooks := .later }
def LayoutMovesUptoCardSaid : Prop := Claim7.holds Tryz.pinned (.plain (OpenSpec.upto layoutMovesSpec)) layoutMovesUptoCard

/-- THE SECOND FORM's CARD OF 'rivetlaw20.LayoutPools'. -/
def layoutPoolsUptoCard : Claim7 := { stood := { row := layoutPoolsUptoRow, standIns := [], harness := (true, "0a8f62c8b9b1fa6bf4fea3129c7d14114735e60111d308f35feeef333663f4d0"), looks := true }, kinds := [], alts := [], laidByText := true, laidKinds := [.data, .data, .data, .data, .sentinel, .sentinel, .listed, .data, .mapped, .pinned], laidTests := true, laidLooks := .later }
def LayoutPoolsUptoCardSaid : Prop := Claim7.holds Tryz.pinned (.plain (OpenSpec.upto layoutPoolsSpec)) layoutPoolsUptoCard

/-- THE SECOND FORM's CARD OF 'rivetlaw21.AsmAll'. -/
def asmAllUptoCard : Claim7 := { stood := { row := asmAllUptoRow, standIns := [], harness := (true, "0a8f62c8b9b1fa6bf4fea3129c7d14114735e60111d308f35feeef333663f4d0"), looks := true }, kinds := [], alts := [], laidByText := true, laidKinds := [.data, .data, .data, .data, .sentinel, .sentinel, .listed, .data, .mapped, .pinned], laidTests := true, laidLooks := .later }
def AsmAllUptoCardSaid : Prop := Claim7.holds Tryz.pinned (.plain (OpenSpec.upto asmAllSpec)) asmAllUptoCard

/-- THE SECOND FORM's CARD OF 'rivetlaw21.AsmSites'. -/
def asmSitesUptoCard : Claim7 := { stood := { row := asmSitesUptoRow, standIns := [], harness := (true, "0a8f62c8b9b1fa6bf4fea3129c7d14114735e60111d308f35feeef333663f4d0"), looks := true }, kinds := [], alts := [], laidByText := true, laidKinds := [.data, .data, .data, .data, .sentinel, .sentinel, .listed, .data, .mapped, .pinned], laidTests := true, laidLooks := .later }
def AsmSitesUptoCardSaid : Prop := Claim7.holds Tryz.pinned (.plain (OpenSpec.upto asmSitesSpec)) asmSitesUptoCard

/-- THE SECOND FORM's CARD OF 'rivetlaw21.AsmInstr'. -/
def asmInstrUptoCard : Claim7 := { stood := { row := asmInstrUptoRow, standIns := [], harness := (true, "0a8f62c8b9b1fa6bf4fea3129c7d14114735e60111d308f35feeef333663f4d0"), looks := true }, kinds := [], alts := [], laidByText := true, laidKinds := [.data, .data, .data, .data, .sentinel, .sentinel, .listed, .data, .mapped, .pinned], laidTests := true, laidLooks := .later }
def AsmInstrUptoCardSaid : Prop := Claim7.holds Tryz.pinned (.plain (OpenSpec.upto asmInstrSpec)) asmInstrUptoCard

/-- THE SECOND FORM's CARD OF 'rivetlaw21.AsmRefuses'. -/
def asmRefusesUptoCard : Claim7 := { stood := { row := asmRefusesUptoRow, standIns := [], harness := (true, "0a8f62c8b9b1fa6bf4fea3129c7d14114735e60111d308f35feeef333663f4d0"), looks := true }, kinds := [], alts := [], laidByText := true, laidKinds := [.data, .data, .data, .data, .sentinel, .sentinel, .listed, .data, .mapped, .pinned], laidTests := true, laidLooks := .later }
def AsmRefusesUptoCardSaid : Prop := Claim7.holds Tryz.pinned (.plain (OpenSpec.upto asmRefusesSpec)) asmRefusesUptoCard

/-- THE SECOND FORM's CARD OF 'rivetlaw21.AsmWords'. -/
def asmWordsUptoCard : Claim7 := { stood := { row := asmWordsUptoRow, standIns := [], harness := (true, "0a8f62c8b9b1fa6bf4fea3129c7d14114735e60111d308f35feeef333663f4d0"), looks := true }, kinds := [], alts := [], laidByText := true, laidKinds := [.data, .data, .data, .data, .sentinel, .sentinel, .listed, .data, .mapped, .pinned], laidTests := true, laidLooks := .later }
def AsmWordsUptoCardSaid : Prop := Claim7.holds Tryz.pinned (.plain (OpenSpec.upto asmWordsSpec)) asmWordsUptoCard

/-- THE SECOND FORM's CARD OF 'rivetlaw21.AsmSame'. -/
def asmSameUptoCard : Claim7 := { stood := { row := asmSameUptoRow, standIns := [], harness := (true, "0a8f62c8b9b1fa6bf4fea3129c7d14114735e60111d308f35feeef333663f4d0"), looks := true }, kinds := [], alts := [], laidByText := true, laidKinds := [.data, .data, .data, .data, .sentinel, .sentinel, .listed, .data, .mapped, .pinned], laidTests := true, laidLooks := .later }
def AsmSameUptoCardSaid : Prop := Claim7.holds Tryz.pinned (.plain (OpenSpec.upto asmSameSpec)) asmSameUptoCard

/-- THE SECOND FORM's CARD OF 'rivetlaw21.AsmMay'. -/
def asmMayUptoCard : Claim7 := { stood := { row := asmMayUptoRow, standIns := [], harness := (true, "0a8f62c8b9b1fa6bf4fea3129c7d14114735e60111d308f35feeef333663f4d0"), looks := true }, kinds := [], alts := [], laidByText := true, laidKinds := [.data, .data, .data, .data, .sentinel, .sentinel, .listed, .data, .mapped, .pinned], laidTests := true, laidLooks := .later }
def AsmMayUptoCardSaid : Prop := Claim7.holds Tryz.pinned (.plain (OpenSpec.upto asmMaySpec)) asmMayUptoCard
end Rows
end Go.Proofs.YtbommpjdbjfdjaaGreatDoor
