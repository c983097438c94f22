/-
  DERIVED. GIVEN WITH THE SEED: THE CARDS: each row of YtchahhlcmabmaaaDoorRows.lean that lists a variable, with what it lists TIED to the program's text (the seventh form; the later family's looks); each row that meets fmt, with fmt's text TOLD by the authors' own Lean function (tested against real Go, not proved from fmt's source: count such statements apart). THE CARD IS WHAT COUNTS. Prove the row's statement (the work); the ties are given (YtchahhlcmabmaaaDoorTie.lean); close each card by the builder's one call (the guide's Derived/Test/ToyasCard.lean, 'card_holds'). Laid BY PROGRAM, IN A SANDBOX (cutbox-door.mjs). By AI agents, Wed Nov 11 2026. No macro, syntax, notation, axiom, sorry.
-/
import Derived.Test.YtchahhlcmabmaaaDoorRows
import GoSem.ClaimSeven
namespace Go.Proofs.YtchahhlcmabmaaaDoor
namespace Rows

/-- THE TIED CARD OF 'rivetlaw15.ExprBack'. -/
def exprBackCard : Claim7 := { stood := { row := exprBackRow, standIns := [], harness := (true, "ecd633720160d9ada37b9d89144fbc29c52820a61d26cb374a028ef6a8250cd7"), looks := true }, kinds := [], alts := [], laidByText := true, laidKinds := [.data, .data, .data, .data, .sentinel, .sentinel, .mapped, .pinned], laidTests := true, laidLooks := .later }
def ExprBackCardSaid : Prop := Claim7.holds Tryd.pinned (.plain (OpenSpec.ofChange exprBackSpec)) exprBackCard

/-- THE TIED CARD OF 'rivetlaw15.ExprDeep'. -/
def exprDeepCard : Claim7 := { stood := { row := exprDeepRow, standIns := [], harness := (true, "ecd633720160d9ada37b9d89144fbc29c52820a61d26cb374a028ef6a8250cd7"), looks := true }, kinds := [], alts := [], laidByText := true, laidKinds := [.data, .data, .data, .data, .sentinel, .sentinel, .mapped, .pinned], laidTests := true, laidLooks := .later }
def ExprDeepCardSaid : Prop := Claim7.holds Tryd.pinned (.plain (OpenSpec.ofChange exprDeepSpec)) exprDeepCard

/-- THE TIED CARD OF 'rivetlaw15.ExprJoins'. -/
def exprJoinsCard : Claim7 := { stood := { row := exprJoinsRow, standIns := [], harness := (true, "ecd633720160d9ada37b9d89144fbc29c52820a61d26cb374a028ef6a8250cd7"), looks := true }, kinds := [], alts := [], laidByText := true, laidKinds := [.data, .data, .data, .data, .sentinel, .sentinel, .mapped, .pinned], laidTests := true, laidLooks := .later }
def ExprJoinsCardSaid : Prop := Claim7.holds Tryd.pinned (.plain (OpenSpec.ofChange exprJoinsSpec)) exprJoinsCard

/-- THE TIED CARD OF 'rivetlaw15.ExprLeft'. -/
def exprLeftCard : Claim7 := { stood := { row := exprLeftRow, standIns := [], harness := (true, "ecd633720160d9ada37b9d89144fbc29c52820a61d26cb374a028ef6a8250cd7"), looks := true }, kinds := [], alts := [], laidByText := true, laidKinds := [.data, .data, .data, .data, .sentinel, .sentinel, .mapped, .pinned], laidTests := true, laidLooks := .later }
def ExprLeftCardSaid : Prop := Claim7.holds Tryd.pinned (.plain (OpenSpec.ofChange exprLeftSpec)) exprLeftCard

/-- THE TIED CARD OF 'rivetlaw16.ValueMoves'. -/
def valueMovesCard : Claim7 := { stood := { row := valueMovesRow, standIns := [], harness := (true, "ecd633720160d9ada37b9d89144fbc29c52820a61d26cb374a028ef6a8250cd7"), looks := true }, kinds := [], alts := [], laidByText := true, laidKinds := [.data, .data, .data, .data, .sentinel, .sentinel, .mapped, .pinned], laidTests := true, laidLooks := .later }
def ValueMovesCardSaid : Prop := Claim7.holds Tryd.pinned (.plain (OpenSpec.ofChange valueMovesSpec)) valueMovesCard

/-- THE TIED CARD OF 'rivetlaw16.ValueParts'. -/
def valuePartsCard : Claim7 := { stood := { row := valuePartsRow, standIns := [], harness := (true, "ecd633720160d9ada37b9d89144fbc29c52820a61d26cb374a028ef6a8250cd7"), looks := true }, kinds := [], alts := [], laidByText := true, laidKinds := [.data, .data, .data, .data, .sentinel, .sentinel, .mapped, .pinned], laidTests := true, laidLooks := .later }
def ValuePartsCardSaid : Prop := Claim7.holds Tryd.pinned (.plain (OpenSpec.ofChange valuePartsSpec)) valuePartsCard

/-- THE TIED CARD OF 'rivetlaw16.ValueFirst'. -/
def valueFirstCard : Claim7 := { stood := { row := valueFirstRow, standIns := [], harness := (true, "ecd633720160d9ada37b9d89144fbc29c52820a61d26cb374a028ef6a8250cd7"), looks := true }, kinds := [], alts := [], laidByText := true, laidKinds := [.data, .data, .data, .data, .sentinel, .sentinel, .mapped, .pinned], laidTests := true, laidLooks := .later }
def ValueFirstCardSaid : Prop := Claim7.holds Tryd.pinned (.plain (OpenSpec.ofChange valueFirstSpec)) valueFirstCard

/-- THE TIED CARD OF 'rivetlaw16.ValueBack'. -/
def valueBackCard : Claim7 := { stood := { row := valueBackRow, standIns := [], harness := (true, "ecd633720160d9ada37b9d89144fbc29c52820a61d26cb374a028ef6a8250cd7"), looks := true }, kinds := [], alts := [], laidByText := true, laidKinds := [.data, .data, .data, .data, .sentinel, .sentinel, .mapped, .pinned], laidTests := true, laidLooks := .later }
def ValueBackCardSaid : Prop := Claim7.holds Tryd.pinned (.plain (OpenSpec.ofChange valueBackSpec)) valueBackCard

/-- THE TIED CARD OF 'rivetlaw16.ValueNumbers'. -/
def valueNumbersCard : Claim7 := { stood := { row := valueNumbersRow, standIns := [], harness := (true, "ecd633720160d9ada37b9d89144fbc29c52820a61d26cb374a028ef6a8250cd7"), looks := true }, kinds := [], alts := [], laidByText := true, laidKinds := [.data, .data, .data, .data, .sentinel, .sentinel, .mapped, .pinned], laidTests := true, laidLooks := .later }
def ValueNumbersCardSaid : Prop := Claim7.holds Tryd.pinned (.plain (OpenSpec.ofChange valueNumbersSpec)) valueNumbersCard

/-- THE SECOND FORM's CARD OF 'rivetlaw15.ExprBack'. -/
def exprBackUptoCard : Claim7 := { stood := { row := exprBackUptoRow, standIns := [], harness := (true, "ecd633720160d9ada37b9d89144fbc29c52820a61d26cb374a028ef6a8250cd7"), looks := true }, kinds := [], alts := [], laidByText := true, laidKinds := [.data, .data, .data, .data, .sentinel, .sentinel, .mapped, .pinned], laidTests := true, laidLooks := .later }
def ExprBackUptoCardSaid : Prop := Claim7.holds Tryd.pinned (.plain (OpenSpec.upto exprBackSpec)) exprBackUptoCard

/-- THE SECOND FORM's CARD OF 'rivetlaw15.ExprDeep'. -/
def exprDeepUptoCard : Claim7 := { stood := { row := exprDeepUptoRow, standIns := [], harness := (true, "ecd633720160d9ada37b9d89144fbc29c52820a61d26cb374a028ef6a8250cd7"), looks := true }, kinds := [], alts := [], laidByText := true, laidKinds := [.data, .data, .data, .data, .sentinel, .sentinel, .mapped, .pinned], laidTests := true, laidLooks := .later }
def ExprDeepUptoCardSaid : Prop := Claim7.holds Tryd.pinned (.plain (OpenSpec.upto exprDeepSpec)) exprDeepUptoCard

/-- THE SECOND FORM's CARD OF 'rivetlaw15.ExprJoins'. -/
def exprJoinsUptoCard : Claim7 := { stood := { row := exprJoinsUptoRow, standIns := [], harness := (true, "ecd633720160d9ada37b9d89144fbc29c52820a61d26cb374a028ef6a8250cd7"), looks := true }, kinds := [], alts := [], laidByText := true, laidKinds := [.data, .data, .data, .data, .sentinel, .sentinel, .mapped, .pinned], laidTests := true, laidLooks := .later }
def ExprJoinsUptoCardSaid : Prop := Claim7.holds Tryd.pinned (.plain (OpenSpec.upto exprJoinsSpec)) exprJoinsUptoCard

/-- THE SECOND FORM's CARD OF 'rivetlaw15.ExprLeft'. -/
def exprLeftUptoCard : Claim7 := { stood := { row := exprLeftUptoRow, standIns := [], harness := (true, "ecd633720160d9ada37b9d89144fbc29c52820a61d26cb374a028ef6a8250cd7"), looks := true }, kinds := [], alts := [], laidByText := true, laidKinds := [.data, .data, .data, .data, .sentinel, .sentinel, .mapped, .pinned], laidTests := true, laidLooks := .later }
def ExprLeftUptoCardSaid : Prop := Claim7.holds Tryd.pinned (.plain (OpenSpec.upto exprLeftSpec)) exprLeftUptoCard

/-- THE SECOND FORM's CARD OF 'rivetlaw16.ValueMoves'. -/
def valueMovesUptoCard : Claim7 := { stood := { row := valueMovesUptoRow, standIns := [], harness := (true, "ecd633720160d9ada37b9d89144fbc29c52820a61d26cb374a028ef6a8250cd7"), looks := true }, kinds := [], alts := [], laidByText := true, laidKinds := [.data, .data, .data, .data, .sentinel, .sentinel, .mapped, .pinned], laidTests := true, laidLooks := .later }
def ValueMovesUptoCardSaid : Prop := Claim7.holds Tryd.pinned (.plain (OpenSpec.upto valueMovesSpec)) valueMovesUptoCard

/-- THE SECOND FORM's CARD OF 'rivetlaw16.ValueParts'. -/
def valuePartsUptoCard : Claim7 := { stood := { row := valuePartsUptoRow, standIns := [], harness := (true, "ecd633720160d9ada37b9d89144fbc29c52820a61d26cb374a028ef6a8250cd7"), looks := true }, kinds := [], alts := [], laidByText := true, laidKinds := [.data, .data, .data, .data, .sentinel, .sentinel, .mapped, .pinned], laidTests := true, laidLooks := .later }
def ValuePartsUptoCardSaid : Prop := Claim7.holds Tryd.pinned (.plain (OpenSpec.upto valuePartsSpec)) valuePartsUptoCard

/-- THE SECOND FORM's CARD OF 'rivetlaw16.ValueFirst'. -/
def valueFirstUptoCard : Claim7 := { stood := { row := valueFirstUptoRow, standIns := [], harness := (true, "ecd633720160d9ada37b9d89144fbc29c52820a61d26cb374a028ef6a8250cd7"), looks := true }, kinds := [], alts := [], laidByText := true, laidKinds := [.data, .data, .data, .data, .sentinel, .sentinel, .mapped, .pinned], laidTests := true, laidLooks := .later }
def ValueFirstUptoCardSaid : Prop := Claim7.holds Tryd.pinned (.plain (OpenSpec.upto valueFirstSpec)) valueFirstUptoCard

/-- THE SECOND FORM's CARD OF 'rivetlaw16.ValueBack'. -/
def valueBackUptoCard : Claim7 := { stood := { row := valueBackUptoRow, standIns := [], harness := (true, "ecd633720160d9ada37b9d89144fbc29c52820a61d26cb374a028ef6a8250cd7"), looks := true }, kinds := [], alts := [], laidByText := true, laidKinds := [.data, .data, .data, .data, .sentinel, .sentinel, .mapped, .pinned], laidTests := true, laidLooks := .later }
def ValueBackUptoCardSaid : Prop := Claim7.holds Tryd.pinned (.plain (OpenSpec.upto valueBackSpec)) valueBackUptoCard

/-- THE SECOND FORM's CARD OF 'rivetlaw16.ValueNumbers'. -/
def valueNumbersUptoCard : Claim7 := { stood := { row := valueNumbersUptoRow, standIns := [], harness := (true, "ecd633720160d9ada37b9d89144fbc29c52820a61d26cb374a028ef6a8250cd7"), looks := true }, kinds := [], alts := [], laidByText := true, laidKinds := [.data, .data, .data, .data, .sentinel, .sentinel, .mapped, .pinned], laidTests := true, laidLooks := .later }
def ValueNumbersUptoCardSaid : Prop := Claim7.holds Tryd.pinned (.plain (OpenSpec.upto valueNumbersSpec)) valueNumbersUptoCard
end Rows
end Go.Proofs.YtchahhlcmabmaaaDoor
