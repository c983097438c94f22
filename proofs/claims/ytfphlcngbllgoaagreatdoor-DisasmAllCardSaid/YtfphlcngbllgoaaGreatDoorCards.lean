/-
  DERIVED. GIVEN WITH THE SEED: THE CARDS: each row of YtfphlcngbllgoaaGreatDoorRows.lean that lists a variable, with what it lists TIED to the program's text (the seventh form; the later family's looks); each row that meets fmt, with fmt's text TOLD by the authors' own Lean function (tested against real Go, not proved from fmt's source: count such statements apart). THE CARD IS WHAT COUNTS. Prove the row's statement (the work); the ties are given (YtfphlcngbllgoaaGreatDoorTie.lean); close each card by the builder's one call (the guide's Derived/Test/ToyasCard.lean, 'card_holds'). Laid BY PROGRAM, IN A SANDBOX (cutbox-door.mjs). By AI agents, Wed Nov 11 2026. No macro, syntax, notation, axiom, sorry.
-/
import Derived.Test.YtfphlcngbllgoaaGreatDoorRows
import GoSem.ClaimSeven
namespace Go.Proofs.YtfphlcngbllgoaaGreatDoor
namespace Rows

/-- THE TIED CARD OF 'rivetlaw23.DisasmAll'. -/
def disasmAllCard : Claim7 := { stood := { row := disasmAllRow, standIns := [], harness := (true, "645dd2ce96fa8bba86192b52b7716cedb88a3371d9a1331bb7252159c239bfb2"), looks := true }, kinds := [], alts := [], laidByText := true, laidKinds := [.data, .data, .data, .data, .sentinel, .sentinel, .listed, .data, .mapped, .pinned], laidTests := true, laidLooks := .later }
def DisasmAllCardSaid : Prop := Claim7.holds Tryz.pinned (.plain (OpenSpec.ofChange disasmAllSpec)) disasmAllCard

/-- THE TIED CARD OF 'rivetlaw23.DisasmWords'. -/
def disasmWordsCard : Claim7 := { stood := { row := disasmWordsRow, standIns := [], harness := (true, "645dd2ce96fa8bba86192b52b7716cedb88a3371d9a1331bb7252159c239bfb2"), looks := true }, kinds := [], alts := [], laidByText := true, laidKinds := [.data, .data, .data, .data, .sentinel, .sentinel, .listed, .data, .mapped, .pinned], laidTests := true, laidLooks := .later }
def DisasmWordsCardSaid : Prop := Claim7.holds Tryz.pinned (.plain (OpenSpec.ofChange disasmWordsSpec)) disasmWordsCard

/-- THE TIED CARD OF 'rivetlaw23.DisasmTwice'. -/
def disasmTwiceCard : Claim7 := { stood := { row := disasmTwiceRow, standIns := [], harness := (true, "645dd2ce96fa8bba86192b52b7716cedb88a3371d9a1331bb7252159c239bfb2"), looks := true }, kinds := [], alts := [], laidByText := true, laidKinds := [.data, .data, .data, .data, .sentinel, .sentinel, .listed, .data, .mapped, .pinned], laidTests := true, laidLooks := .later }
def DisasmTwiceCardSaid : Prop := Claim7.holds Tryz.pinned (.plain (OpenSpec.ofChange disasmTwiceSpec)) disasmTwiceCard

/-- THE TIED CARD OF 'rivetlaw23.DisasmInstr'. -/
def disasmInstrCard : Claim7 := { stood := { row := disasmInstrRow, standIns := [], harness := (true, "645dd2ce96fa8bba86192b52b7716cedb88a3371d9a1331bb7252159c239bfb2"), looks := true }, kinds := [], alts := [], laidByText := true, laidKinds := [.data, .data, .data, .data, .sentinel, .sentinel, .listed, .data, .mapped, .pinned], laidTests := true, laidLooks := .later }
def DisasmInstrCardSaid : Prop := Claim7.holds Tryz.pinned (.plain (OpenSpec.ofChange disasmInstrSpec)) disasmInstrCard

/-- THE TIED CARD OF 'rivetlaw23.DisasmSites'. -/
def disasmSitesCard : Claim7 := { stood := { row := disasmSitesRow, standIns := [], harness := (true, "645dd2ce96fa8bba86192b52b7716cedb88a3371d9a1331bb7252159c239bfb2"), looks := true }, kinds := [], alts := [], laidByText := true, laidKinds := [.data, .data, .data, .data, .sentinel, .sentinel, .listed, .data, .mapped, .pinned], laidTests := true, laidLooks := .later }
def DisasmSitesCardSaid : Prop := Claim7.holds Tryz.pinned (.plain (OpenSpec.ofChange disasmSitesSpec)) disasmSitesCard

/-- THE TIED CARD OF 'rivetlaw23.DisasmBack'. -/
def disasmBackCard : Claim7 := { stood := { row := disasmBackRow, standIns := [], harness := (true, "645dd2ce96fa8bba86192b52b7716cedb88a3371d9a1331bb7252159c239bfb2"), looks := true }, kinds := [], alts := [], laidByText := true, laidKinds := [.data, .data, .data, .data, .sentinel, .sentinel, .listed, .data, .mapped, .pinned], laidTests := true, laidLooks := .later }
def DisasmBackCardSaid : Prop := Claim7.holds Tryz.pinned (.plain (OpenSpec.ofChange disasmBackSpec)) disasmBackCard

/-- THE SECOND FORM's CARD OF 'rivetlaw23.DisasmAll'. -/
def disasmAllUptoCard : Claim7 := { stood := { row := disasmAllUptoRow, standIns := [], harness := (true, "645dd2ce96fa8bba86192b52b7716cedb88a3371d9a1331bb7252159c239bfb2"), looks := true }, kinds := [], alts := [], laidByText := true, laidKinds := [.data, .data, .data, .data, .sentinel, .sentinel, .listed, .data, .mapped, .pinned], laidTests := true, laidLooks := .later }
def DisasmAllUptoCardSaid : Prop := Claim7.holds Tryz.pinned (.plain (OpenSpec.upto disasmAllSpec)) disasmAllUptoCard

/-- THE SECOND FORM's CARD OF 'rivetlaw23.DisasmWords'. -/
def disasmWordsUptoCard : Claim7 := { stood := { row := disasmWordsUptoRow, standIns := [], harness := (true, "645dd2ce96fa8bba86192b52b7716cedb88a3371d9a1331bb7252159c239bfb2"), looks := true }, kinds := [], alts := [], laidByText := true, laidKinds := [.data, .data, .data, .data, .sentinel, .sentinel, .listed, .data, .mapped, .pinned], laidTests := true, laidLooks := .later }
def DisasmWordsUptoCardSaid : Prop := Claim7.holds Tryz.pinned (.plain (OpenSpec.upto disasmWordsSpec)) disasmWordsUptoCard

/-- THE SECOND FORM's CARD OF 'rivetlaw23.DisasmTwice'. -/
def disasmTwiceUptoCard : Claim7 := { stood := { row := disasmTwiceUptoRow, standIns := [], harness := (true, "645dd2ce96fa8bba86192b52b7716cedb88a3371d9a1331bb7252159c239bfb2"), looks := true }, kinds := [], alts := [], laidByText := true, laidKinds := [.data, .data, .data, .data, .sentinel, .sentinel, .listed, .data, .mapped, .pinned], laidTests := true, laidLooks := .later }
def DisasmTwiceUptoCardSaid : Prop := Claim7.holds Tryz.pinned (.plain (OpenSpec.upto disasmTwiceSpec)) disasmTwiceUptoCard

/-- THE SECOND FORM's CARD OF 'rivetlaw23.DisasmInstr'. -/
def disasmInstrUptoCard : Claim7 := { stood := { row := disasmInstrUptoRow, standIns := [], harness := (true, "645dd2ce96fa8bba86192b52b7716cedb88a3371d9a1331bb7252159c239bfb2"), looks := true }, kinds := [], alts := [], laidByText := true, laidKinds := [.data, .data, .data, .data, .sentinel, .sentinel, .listed, .data, .mapped, .pinned], laidTests := true, laidLooks := .later }
def DisasmInstrUptoCardSaid : Prop := Claim7.holds Tryz.pinned (.plain (OpenSpec.upto disasmInstrSpec)) disasmInstrUptoCard

/-- THE SECOND FORM's CARD OF 'rivetlaw23.DisasmSites'. -/
def disasmSitesUptoCard : Claim7 := { stood := { row := disasmSitesUptoRow, standIns := [], harness := (true, "645dd2ce96fa8bba86192b52b7716cedb88a3371d9a1331bb7252159c239bfb2"), looks := true }, kinds := [], alts := [], laidByText := true, laidKinds := [.data, .data, .data, .data, .sentinel, .sentinel, .listed, .data, .mapped, .pinned], laidTests := true, laidLooks := .later }
def DisasmSitesUptoCardSaid : Prop := Claim7.holds Tryz.pinned (.plain (OpenSpec.upto disasmSitesSpec)) disasmSitesUptoCard

/-- THE SECOND FORM's CARD OF 'rivetlaw23.DisasmBack'. -/
def disasmBackUptoCard : Claim7 := { stood := { row := disasmBackUptoRow, standIns := [], harness := (true, "645dd2ce96fa8bba86192b52b7716cedb88a3371d9a1331bb7252159c239bfb2"), looks := true }, kinds := [], alts := [], laidByText := true, laidKinds := [.data, .data, .data, .data, .sentinel, .sentinel, .listed, .data, .mapped, .pinned], laidTests := true, laidLooks := .later }
def DisasmBackUptoCardSaid : Prop := Claim7.holds Tryz.pinned (.plain (OpenSpec.upto disasmBackSpec)) disasmBackUptoCard
end Rows
end Go.Proofs.YtfphlcngbllgoaaGreatDoor
