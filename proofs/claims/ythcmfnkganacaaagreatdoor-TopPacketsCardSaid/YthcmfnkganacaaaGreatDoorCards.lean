/-
  DERIVED. GIVEN WITH THE SEED: THE CARDS: each row of YthcmfnkganacaaaGreatDoorRows.lean that lists a variable, with what it lists TIED to the program's text (the seventh form; the later family's looks); each row that meets fmt, with fmt's text TOLD by the authors' own Lean function (tested against real Go, not proved from fmt's source: count such statements apart). THE CARD IS WHAT COUNTS. Prove the row's statement (the work); the ties are given (YthcmfnkganacaaaGreatDoorTie.lean); close each card by the builder's one call (the guide's Derived/Test/ToyasCard.lean, 'card_holds'). Laid BY PROGRAM, IN A SANDBOX (cutbox-door.mjs). By AI agents, Wed Nov 11 2026. No macro, syntax, notation, axiom, sorry.
-/
import Derived.Test.YthcmfnkganacaaaGreatDoorRows
import GoSem.ClaimSeven
namespace Go.Proofs.YthcmfnkganacaaaGreatDoor
namespace Rows

/-- THE TIED CARD OF 'ferrysliptop.TopPackets'. -/
def topPacketsCard : Claim7 := { stood := { row := topPacketsRow, standIns := [], harness := (true, "18991b84496207c99b484bc712b99f45e7e7bf7a3a999a9e877361815faf6dcc"), looks := true }, kinds := [], alts := [], laidByText := true, laidKinds := [.data, .data, .data, .data, .sentinel, .sentinel, .pinned], laidTests := true, laidLooks := .later }
def TopPacketsCardSaid : Prop := Claim7.holds Tryz.pinned (.plain (OpenSpec.ofChange topPacketsSpec)) topPacketsCard

/-- THE TIED CARD OF 'ferrysliptop.TopHistory'. -/
def topHistoryCard : Claim7 := { stood := { row := topHistoryRow, standIns := [], harness := (true, "18991b84496207c99b484bc712b99f45e7e7bf7a3a999a9e877361815faf6dcc"), looks := true }, kinds := [], alts := [], laidByText := true, laidKinds := [.data, .data, .data, .data, .sentinel, .sentinel, .pinned], laidTests := true, laidLooks := .later }
def TopHistoryCardSaid : Prop := Claim7.holds Tryz.pinned (.plain (OpenSpec.ofChange topHistorySpec)) topHistoryCard

/-- THE SECOND FORM's CARD OF 'ferrysliptop.TopPackets'. -/
def topPacketsUptoCard : Claim7 := { stood := { row := topPacketsUptoRow, standIns := [], harness := (true, "18991b84496207c99b484bc712b99f45e7e7bf7a3a999a9e877361815faf6dcc"), looks := true }, kinds := [], alts := [], laidByText := true, laidKinds := [.data, .data, .data, .data, .sentinel, .sentinel, .pinned], laidTests := true, laidLooks := .later }
def TopPacketsUptoCardSaid : Prop := Claim7.holds Tryz.pinned (.plain (OpenSpec.upto topPacketsSpec)) topPacketsUptoCard

/-- THE SECOND FORM's CARD OF 'ferrysliptop.TopHistory'. -/
def topHistoryUptoCard : Claim7 := { stood := { row := topHistoryUptoRow, standIns := [], harness := (true, "18991b84496207c99b484bc712b99f45e7e7bf7a3a999a9e877361815faf6dcc"), looks := true }, kinds := [], alts := [], laidByText := true, laidKinds := [.data, .data, .data, .data, .sentinel, .sentinel, .pinned], laidTests := true, laidLooks := .later }
def TopHistoryUptoCardSaid : Prop := Claim7.holds Tryz.pinned (.plain (OpenSpec.upto topHistorySpec)) topHistoryUptoCard
end Rows
end Go.Proofs.YthcmfnkganacaaaGreatDoor
