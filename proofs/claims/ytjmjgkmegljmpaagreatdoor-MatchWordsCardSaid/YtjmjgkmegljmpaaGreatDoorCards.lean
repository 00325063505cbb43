/-
  DERIVED. GIVEN WITH THE SEED: THE CARDS: each row of YtjmjgkmegljmpaaGreatDoorRows.lean that lists a variable, with what it lists TIED to the program's text (the seventh form; the later family's looks); each row that meets fmt, with fmt's text TOLD by the authors' own Lean function (tested against real Go, not proved from fmt's source: count such statements apart). THE CARD IS WHAT COUNTS. Prove the row's statement (the work); the ties are given (YtjmjgkmegljmpaaGreatDoorTie.lean); close each card by the builder's one call (the guide's Derived/Test/ToyasCard.lean, 'card_holds'). Laid BY PROGRAM, IN A SANDBOX (cutbox-door.mjs). By AI agents, Wed Nov 11 2026. No macro, syntax, notation, axiom, sorry.
-/
import Derived.Test.YtjmjgkmegljmpaaGreatDoorRows
import GoSem.ClaimSeven
namespace Go.Proofs.YtjmjgkmegljmpaaGreatDoor
namespace Rows

/-- THE TIED CARD OF 'rosterlaw06.MatchByPieces'. -/
def matchByPiecesCard : Claim7 := { stood := { row := matchByPiecesRow, standIns := [], harness := (true, "7d886097786a3799adb7714a4518469b71840bc94c3be5b24690d344a0ca1f3b"), looks := true }, kinds := [], alts := [], laidByText := true, laidKinds := [.data, .data, .data, .data, .sentinel, .sentinel, .sentinel, .sentinel, .sentinel, .sentinel, .sentinel, .sentinel, .sentinel, .sentinel, .sentinel, .sentinel, .wider, .pinned], laidTests := true, laidLooks := .later }
def MatchByPiecesCardSaid : Prop := Claim7.holds Tryz.pinned (.plain (OpenSpec.ofChange matchByPiecesSpec)) matchByPiecesCard

/-- THE TIED CARD OF 'rosterlaw06.MatchWords'. -/
def matchWordsCard : Claim7 := { stood := { row := matchWordsRow, standIns := [], harness := (true, "7d886097786a3799adb7714a4518469b71840bc94c3be5b24690d344a0ca1f3b"), looks := true }, kinds := [], alts := [], laidByText := true, laidKinds := [.data, .data, .data, .data, .sentinel, .sentinel, .sentinel, .sentinel, .sentinel, .sentinel, .sentinel, .sentinel, .sentinel, .sentinel, .sentinel, .sentinel, .wider, .pinned], laidTests := true, laidLooks := .later }
def MatchWordsCardSaid : Prop := Claim7.holds Tryz.pinned (.plain (OpenSpec.ofChange matchWordsSpec)) matchWordsCard

/-- THE TIED CARD OF 'rosterlaw06.MatchBits'. -/
def matchBitsCard : Claim7 := { stood := { row := matchBitsRow, standIns := [], harness := (true, "7d886097786a3799adb7714a4518469b71840bc94c3be5b24690d344a0ca1f3b"), looks := true }, kinds := [], alts := [], laidByText := true, laidKinds := [.data, .data, .data, .data, .sentinel, .sentinel, .sentinel, .sentinel, .sentinel, .sentinel, .sentinel, .sentinel, .sentinel, .sentinel, .sentinel, .sentinel, .wider, .pinned], laidTests := true, laidLooks := .later }
def MatchBitsCardSaid : Prop := Claim7.holds Tryz.pinned (.plain (OpenSpec.ofChange matchBitsSpec)) matchBitsCard

/-- THE SECOND FORM's CARD OF 'rosterlaw06.MatchByPieces'. -/
def matchByPiecesUptoCard : Claim7 := { stood := { row := matchByPiecesUptoRow, standIns := [], harness := (true, "7d886097786a3799adb7714a4518469b71840bc94c3be5b24690d344a0ca1f3b"), looks := true }, kinds := [], alts := [], laidByText := true, laidKinds := [.data, .data, .data, .data, .sentinel, .sentinel, .sentinel, .sentinel, .sentinel, .sentinel, .sentinel, .sentinel, .sentinel, .sentinel, .sentinel, .sentinel, .wider, .pinned], laidTests := true, laidLooks := .later }
def MatchByPiecesUptoCardSaid : Prop := Claim7.holds Tryz.pinned (.plain (OpenSpec.upto matchByPiecesSpec)) matchByPiecesUptoCard

/-- THE SECOND FORM's CARD OF 'rosterlaw06.MatchWords'. -/
def matchWordsUptoCard : Claim7 := { stood := { row := matchWordsUptoRow, standIns := [], harness := (true, "7d886097786a3799adb7714a4518469b71840bc94c3be5b24690d344a0ca1f3b"), looks := true }, kinds := [], alts := [], laidByText := true, laidKinds := [.data, .data, .data, .data, .sentinel, .sentinel, .sentinel, .sentinel, .sentinel, .sentinel, .sentinel, .sentinel, .sentinel, .sentinel, .sentinel, .sentinel, .wider, .pinned], laidTests := true, laidLooks := .later }
def MatchWordsUptoCardSaid : Prop := Claim7.holds Tryz.pinned (.plain (OpenSpec.upto matchWordsSpec)) matchWordsUptoCard

/-- THE SECOND FORM's CARD OF 'rosterlaw06.MatchBits'. -/
def matchBitsUptoCard : Claim7 := { stood := { row := matchBitsUptoRow, standIns := [], harness := (true, "7d886097786a3799adb7714a4518469b71840bc94c3be5b24690d344a0ca1f3b"), looks := true }, kinds := [], alts := [], laidByText := true, laidKinds := [.data, .data, .data, .data, .sentinel, .sentinel, .sentinel, .sentinel, .sentinel, .sentinel, .sentinel, .sentinel, .sentinel, .sentinel, .sentinel, .sentinel, .wider, .pinned], laidTests := true, laidLooks := .later }
def MatchBitsUptoCardSaid : Prop := Claim7.holds Tryz.pinned (.plain (OpenSpec.upto matchBitsSpec)) matchBitsUptoCard
end Rows
end Go.Proofs.YtjmjgkmegljmpaaGreatDoor
