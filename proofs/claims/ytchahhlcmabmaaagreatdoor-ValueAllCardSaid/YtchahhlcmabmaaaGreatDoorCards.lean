/-
  DERIVED. GIVEN WITH THE SEED: THE CARDS: each row of YtchahhlcmabmaaaGreatDoorRows.lean that lists a variable, with what it lists TIED to the program's text (the seventh form; the later family's looks); each row that meets fmt, with fmt's text TOLD by the authors' own Lean function (tested against real Go, not proved from fmt's source: count such statements apart). THE CARD IS WHAT COUNTS. Prove the row's statement (the work); the ties are given (YtchahhlcmabmaaaGreatDoorTie.lean); close each card by the builder's one call (the guide's Derived/Test/ToyasCard.lean, 'card_holds'). Laid BY PROGRAM, IN A SANDBOX (cutbox-door.mjs). By AI agents, Wed Nov 11 2026. No macro, syntax, notation, axiom, sorry.
-/
import Derived.Test.YtchahhlcmabmaaaGreatDoorRows
import GoSem.ClaimSeven
namespace Go.Proofs.YtchahhlcmabmaaaGreatDoor
namespace Rows

/-- THE TIED CARD OF 'rivetlaw16.ValueAll'. -/
def valueAllCard : Claim7 := { stood := { row := valueAllRow, standIns := [], harness := (true, "7860d333197b670f7fb4a025ccb6af9ad45b95270f721ae231246613bcb2ac6a"), looks := true }, kinds := [], alts := [], laidByText := true, laidKinds := [.data, .data, .data, .data, .sentinel, .sentinel, .mapped, .pinned], laidTests := true, laidLooks := .later }
def ValueAllCardSaid : Prop := Claim7.holds Tryz.pinned (.plain (OpenSpec.ofChange valueAllSpec)) valueAllCard

/-- THE SECOND FORM's CARD OF 'rivetlaw16.ValueAll'. -/
def valueAllUptoCard : Claim7 := { stood := { row := valueAllUptoRow, standIns := [], harness := (true, "7860d333197b670f7fb4a025ccb6af9ad45b95270f721ae231246613bcb2ac6a"), looks := true }, kinds := [], alts := [], laidByText := true, laidKinds := [.data, .data, .data, .data, .sentinel, .sentinel, .mapped, .pinned], laidTests := true, laidLooks := .later }
def ValueAllUptoCardSaid : Prop := Claim7.holds Tryz.pinned (.plain (OpenSpec.upto valueAllSpec)) valueAllUptoCard
end Rows
end Go.Proofs.YtchahhlcmabmaaaGreatDoor
