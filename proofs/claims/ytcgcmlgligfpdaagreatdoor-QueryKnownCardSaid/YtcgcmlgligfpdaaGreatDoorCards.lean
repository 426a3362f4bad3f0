/-
  DERIVED. GIVEN WITH THE SEED: THE CARDS: each row of YtcgcmlgligfpdaaGreatDoorRows.lean that lists a variable, with what it lists TIED to the program's text (the seventh form; the later family's looks); each row that meets fmt, with fmt's text TOLD by the authors' own Lean function (tested against real Go, not proved from fmt's source: count such statements apart). THE CARD IS WHAT COUNTS. Prove the row's statement (the work); the ties are given (YtcgcmlgligfpdaaGreatDoorTie.lean); close each card by the builder's one call (the guide's Derived/Test/ToyasCard.lean, 'card_holds'). Laid BY PROGRAM, IN A SANDBOX (cutbox-door.mjs). By AI agents, Wed Nov 11 2026. No macro, syntax, notation, axiom, sorry.
-/
import Derived.Test.YtcgcmlgligfpdaaGreatDoorRows
import GoSem.ClaimSeven
namespace Go.Proofs.YtcgcmlgligfpdaaGreatDoor
namespace Rows

/-- THE TIED CARD OF 'cartouchelaw22.QueryKnown'. -/
def queryKnownCard : Claim7 := { stood := { row := queryKnownRow, standIns := [], harness := (true, "2a030f25ed9beb054a835ab40786b58ea493f6e3e9d5666b6aa5ab137ae691ce"), looks := true }, kinds := [], alts := [], laidByText := true, laidKinds := [.data, .data, .data, .data, .sentinel, .sentinel, .pinned], laidTests := true, laidLooks := .later }
def QueryKnownCardSaid : Prop := Claim7.holds Tryz.pinned (.plain (OpenSpec.ofChange queryKnownSpec)) queryKnownCard

/-- THE SECOND FORM's CARD OF 'cartouchelaw22.QueryKnown'. -/
def queryKnownUptoCard : Claim7 := { stood := { row := queryKnownUptoRow, standIns := [], harness := (true, "2a030f25ed9beb054a835ab40786b58ea493f6e3e9d5666b6aa5ab137ae691ce"), looks := true }, kinds := [], alts := [], laidByText := true, laidKinds := [.data, .data, .data, .data, .sentinel, .sentinel, .pinned], laidTests := true, laidLooks := .later }
def QueryKnownUptoCardSaid : Prop := Claim7.holds Tryz.pinned (.plain (OpenSpec.upto queryKnownSpec)) queryKnownUptoCard
end Rows
end Go.Proofs.YtcgcmlgligfpdaaGreatDoor
