/-
  DERIVED. GIVEN WITH THE SEED: THE CARDS: each row of YtmgfikfcnhhnhaaGreatDoorRows.lean that lists a variable, with what it lists TIED to the program's text (the seventh form; the later family's looks); each row that meets fmt, with fmt's text TOLD by the authors' own Lean function (tested against real Go, not proved from fmt's source: count such statements apart). THE CARD IS WHAT COUNTS. Prove the row's statement (the work); the ties are given (YtmgfikfcnhhnhaaGreatDoorTie.lean); close each card by the builder's one call (the guide's Derived/Test/ToyasCard.lean, 'card_holds'). Laid BY PROGRAM, IN A SANDBOX (cutbox-door.mjs). By AI agents, Wed Nov 11 2026. No macro, syntax, notation, axiom, sorry.
-/
import Derived.Test.YtmgfikfcnhhnhaaGreatDoorRows
import GoSem.ClaimSeven
namespace Go.Proofs.YtmgfikfcnhhnhaaGreatDoor
namespace Rows

/-- THE TIED CARD OF 'rosterlaw06.MatchByPieces'. -/
def matchByPiecesCard : Claim7 := { stood := { row := matchByPiecesRow, standIns := [], harness := (true, "a9c125b6bcadc9c7d681e93b60ce16ba7d27762369a3fcf0247b6d2d1bedb8c0"), looks := true }, kinds := [], alts := [], laidByText := true, laidKinds := [.data, .data, .data, .data, .sentinel, .sentinel, .sentinel, .sentinel, .sentinel, .sentinel, .sentinel, .sentinel, .sentinel, .sentinel, .sentinel, .sentinel, .wider, .pinned], laidTests := true, laidLooks := .later }
def MatchByPiecesCardSaid : Prop := Claim7.holds Tryz.pinned (.plain (OpenSpec.ofChange matchByPiecesSpec)) matchByPiecesCard

/-- THE SECOND FORM's CARD OF 'rosterlaw06.MatchByPieces'. -/
def matchByPiecesUptoCard : Claim7 := { stood := { row := matchByPiecesUptoRow, standIns := [], harness := (true, "a9c125b6bcadc9c7d681e93b60ce16ba7d27762369a3fcf0247b6d2d1bedb8c0"), looks := true }, kinds := [], alts := [], laidByText := true, laidKinds := [.data, .data, .data, .data, .sentinel, .sentinel, .sentinel, .sentinel, .sentinel, .sentinel, .sentinel, .sentinel, .sentinel, .sentinel, .sentinel, .sentinel, .wider, .pinned], laidTests := true, laidLooks := .later }
def MatchByPiecesUptoCardSaid : Prop := Claim7.holds Tryz.pinned (.plain (OpenSpec.upto matchByPiecesSpec)) matchByPiecesUptoCard
end Rows
end Go.Proofs.YtmgfikfcnhhnhaaGreatDoor
