/-
  NARROWER THAN 'FOR EVERY INPUT', by the rows' own cells (each row's printed sentence says how): MatchListed: laid.
  DERIVED. THE GIVEN ROWS OF THIS SEAT. 1 by the template 'for every input the law returns true; each argument reads behind the call as it read before'; 0 by the template 'total and deterministic' (their statements: YtmgfikfcnhhnhaaDoorTotals.lean).
  GIVEN WITH THE SEED: the statements are not yours to turn. If you find one false, say at which input.
  Laid BY PROGRAM, IN A SANDBOX (cutbox-rows.mjs): the forced cells as the released guide's own fill.sh prints them over the translation 1f84ca8375fc41a7… (all of the seat's roots in one cut). By AI agents, Wed Nov 11 2026. No macro, syntax, notation, axiom, sorry.
-/
import Derived.Test.YtmgfikfcnhhnhaaDoorChecked
import GoSem.Claim
import GoSem.ClaimJoined
import GoSem.ClaimMapViews
import Derived.JoinedTies
import Derived.KernelRfl
namespace Go.Proofs.YtmgfikfcnhhnhaaDoor
/- THE CELL 'sum', in the pinned program and in every row, IS THE sha256 OF THE DUMP (.gsa) THAT YtmgfikfcnhhnhaaDoorProg.lean LOADS. Nothing in Lean hashes anything: it is a label: what it is worth is what the hold of that sum in a sandbox is worth. -/
noncomputable def Tryd.pinned : Pinned := { name := "ytmgfikfcnhhnhaadoor", sum := "1f84ca8375fc41a7e651aae8e0850a52afc207eafa4a3edc0041264386af8c4d", checked := Tryd.checked }
namespace Rows
def none {H : Type} : Left H := { results := [], args := [] }

/- WHAT THE LISTED PACKAGE-LEVEL VARIABLES READ AS WHEN THE CALL BEGINS. Each datum BY PROGRAM (the guide's laid-datum.mjs) off the statement by which the dump's own 'gosem.cut.vars' lays the variable. In a bare row this is a premise. The card (YtmgfikfcnhhnhaaDoorCards.lean) ties it to the program's text. -/
def laid_roster_match_kinds {H : Type} : DataW H := .agg [.iface "roster/match.plain" (.agg []), .iface "roster/match.folded" (.agg [.agg [.agg [.agg []]]]), .iface "roster/match.exact" (.agg [.agg [.agg []]]), .iface "roster/match.lowFolded" (.agg [.agg [.agg [], .agg []]]), .iface "roster/match.low" (.agg [.agg [], .agg []]), .iface "roster/match.numeric" (.agg [.agg [.agg []]]), .iface "roster/match.phone" (.agg [.agg []]), .iface "roster/match.integer" (.agg [.agg []]), .iface "roster/match.boolean" (.agg [.agg []]), .iface "roster/match.octet" (.agg [.agg [.agg []]]), .iface "roster/match.name" (.agg [.agg []]), .iface "roster/match.oid" (.agg [.agg []]), .iface "roster/match.instant" (.agg [.agg [.agg []]]), .iface "roster/match.list" (.agg [.agg []]), .iface "roster/match.bitString" (.agg [.agg []])]

/-- 'rosterlaw06.MatchListed': WHATEVER THE INPUT: true; the input reads as it did. -/
def matchListedSpec : ChangeSpec := { name := "matchListed", fn := fun _ => fun
  | [d1, d2, d3, d4] => { results := [.lit (.bool true)], args := [d1, d2, d3, d4] }
  | _ => none }
def matchListedRow : OpenClaim := { program := "ytmgfikfcnhhnhaadoor", sum := "1f84ca8375fc41a7e651aae8e0850a52afc207eafa4a3edc0041264386af8c4d", func := "roster/rosterlaw06.MatchListed", spec := "matchListed", unfollowed := true, recurses := true, named := ["roster/match.kinds"], apart := false, laid := [("roster/match.kinds", laid_roster_match_kinds)] }
def MatchListedSaid : Prop := matchListedRow.holds Tryd.pinned (OpenSpec.ofChange matchListedSpec)

/-- ITS FALSE NEIGHBOUR: 'it returns false'. Refute it at one input. -/
def matchListedWrong : ChangeSpec := { name := "matchListed", fn := fun _ => fun
  | [d1, d2, d3, d4] => { results := [.lit (.bool false)], args := [d1, d2, d3, d4] }
  | _ => none }
def MatchListedWrongFalsely : Prop := matchListedRow.holds Tryd.pinned (OpenSpec.ofChange matchListedWrong)

/- THE SECOND FORM. 'bulk': how many values and letters a reading holds, each counted each time it is reached (what is shared counts as often as it is met; a slice's spare places count too). A statement '..UptoSaid' is the law's where the arguments, and the package variables that the reading takes, are together of bulk at most 1048576: NARROWER than '..Said'. Prove '..Said' where nothing that the law and all that it calls make is longer than what came in: it says more and counts as full. Else prove '..UptoSaid'. A law counts once. -/
mutual
def uptoBulk {H : Type} : DataW H → Nat
  | .lit (.string bytes) => bytes.length + 1
  | .lit _ => 1
  | .nil => 1
  | .ptr d => uptoBulk d + 1
  | .slice elems spare => uptoBulkAll elems + uptoBulkAll spare + 1
  | .agg parts => uptoBulkAll parts + 1
  | .iface _ d => uptoBulk d + 1
  | .map entries => uptoBulkEntries entries + 1
  | .held _ => 1
def uptoBulkAll {H : Type} : List (DataW H) → Nat
  | [] => 0
  | d :: r => uptoBulk d + uptoBulkAll r
def uptoBulkEntries {H : Type} : List (Lit × DataW H) → Nat
  | [] => 0
  | x :: r => uptoBulkEntry x + uptoBulkEntries r
def uptoBulkEntry {H : Type} : Lit × DataW H → Nat
  | (.string bytes, d) => bytes.length + uptoBulk d + 1
  | (_, d) => uptoBulk d + 1
 end
def uptoSmall : (H : Type) → List (DataW H) → Bool := fun _ ds => decide (uptoBulkAll ds ≤ 1048576)
def OpenSpec.upto (s : _root_.Go.ChangeSpec) : _root_.Go.OpenSpec := { _root_.Go.OpenSpec.ofChange s with cond := some uptoSmall }

/-- 'rosterlaw06.MatchListed', WHERE WHAT IT READS IS OF BULK AT MOST 1048576: true; the input reads as it did. -/
def matchListedUptoRow : OpenClaim := { program := "ytmgfikfcnhhnhaadoor", sum := "1f84ca8375fc41a7e651aae8e0850a52afc207eafa4a3edc0041264386af8c4d", func := "roster/rosterlaw06.MatchListed", spec := "matchListed", unfollowed := true, recurses := true, named := ["roster/match.kinds"], apart := false, laid := [("roster/match.kinds", laid_roster_match_kinds)], narrowed := true }
def MatchListedUptoSaid : Prop := matchListedUptoRow.holds Tryd.pinned (OpenSpec.upto matchListedSpec)

end Rows
end Go.Proofs.YtmgfikfcnhhnhaaDoor
