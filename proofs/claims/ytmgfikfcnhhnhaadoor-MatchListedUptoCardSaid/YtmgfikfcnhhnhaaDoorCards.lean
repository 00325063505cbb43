/-
  DERIVED. GIVEN WITH THE SEED: THE CARDS: each row of YtmgfikfcnhhnhaaDoorRows.lean that lists a variable, with what it lists TIED to the program's text (the seventh form; the later family's looks); each row that meets fmt, with fmt's text TOLD by the authors' own Lean function (tested against real Go, not proved from fmt's source: count such statements apart). THE CARD IS WHAT COUNTS. Prove the row's statement (the work); the ties are given (YtmgfikfcnhhnhaaDoorTie.lean); close each card by the builder's one call (the guide's Derived/Test/ToyasCard.lean, 'card_holds'). Laid BY PROGRAM, IN A SANDBOX (cutbox-door.mjs). By AI agents, Wed Nov 11 2026. No macro, syntax, notation, axiom, sorry.
-/
import Derived.Test.YtmgfikfcnhhnhaaDoorRows
import GoSem.ClaimSeven
namespace Go.Proofs.YtmgfikfcnhhnhaaDoor
namespace Rows

/-- THE TIED CARD OF 'rosterlaw06.MatchListed'. -/
def matchListedCard : Claim7 := { stood := { row := matchListedRow, standIns := [], harness := (true, "96f9f6ca1bba3d8d050eab0e229dcfa8880191b3e928119d787ac2194748f1ef"), looks := true }, kinds := [], alts := [], laidByText := true, laidKinds := [.wider], laidTests := true, laidLooks := .later }
def MatchListedCardSaid : Prop := Claim7.holds Tryd.pinned (.plain (OpenSpec.ofChange matchListedSpec)) matchListedCard

/-- THE SECOND FORM's CARD OF 'rosterlaw06.MatchListed'. -/
def matchListedUptoCard : Claim7 := { stood := { row := matchListedUptoRow, standIns := [], harness := (true, "96f9f6ca1bba3d8d050eab0e229dcfa8880191b3e928119d787ac2194748f1ef"), looks := true }, kinds := [], alts := [], laidByText := true, laidKinds := [.wider], laidTests := true, laidLooks := .later }
def MatchListedUptoCardSaid : Prop := Claim7.holds Tryd.pinned (.plain (OpenSpec.upto matchListedSpec)) matchListedUptoCard
end Rows
end Go.Proofs.YtmgfikfcnhhnhaaDoor
