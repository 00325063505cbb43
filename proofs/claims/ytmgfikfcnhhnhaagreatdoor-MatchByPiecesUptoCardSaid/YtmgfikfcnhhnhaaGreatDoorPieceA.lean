/- The row of MatchByPieces: small lemmas, and its witness. -/
import Derived.Test.YtmgfikfcnhhnhaaGreatDoorLawW
import Derived.Test.YtmgfikfcnhhnhaaGreatDoorTF
import Derived.Deep.DeepHandedRow
import Derived.Deep.DeepWitnessRowRef
import Derived.Deep.Strs
import Derived.ReadAgain
import Derived.JoinedCond
namespace Go.Proofs.YtmgfikfcnhhnhaaGreatDoor
open Go.ChangeShapes Go.WideShapes Go.ChangeAt Go.RowKit
open Go.ChangeMaps (open_string shut_string)

theorem kids : Kids Tryz.prog (· < Tryz.prog.types.size) := kids_rows (by kernel_rfl) (by kernel_rfl)
theorem full : ∀ t e, t < Tryz.prog.types.size → Tryz.prog.underlying t = some (.slice e) → 0 < Tryz.prog.cellsOf e := slices_full_of Tryz.prog (by kernel_rfl)
theorem cells9 : Tryz.prog.cellsOf 9 = 1 := by kernel_rfl
theorem cellsS : Tryz.prog.cellsOf 22 = 1 := by kernel_rfl
theorem cellsP : Tryz.prog.cellsOf 24 = 3 := by kernel_rfl

section
variable {H : Type} {enc : TypeId × Value → H} {P : Program} {w w' : World} {base : Nat} {spare : Nat → Bool} {held : Bool}
theorem trodAll_carry : ∀ {ts : List TypeId} {vs : List Value} {ds : List (DataW H)} {ps : List MemPlace}, DataW.TrodAll enc P w base spare held ts vs ds ps → (∀ p ∈ ps, w.sameAt w' p) → DataW.TrodAll enc P w' base spare held ts vs ds ps
  | [], [], [], _, h, _ => h
  | _ :: _, _ :: _, _ :: _, _, ⟨p, q, ⟨n, h1⟩, h2, e⟩, hs => ⟨p, q, ⟨n, DataW.trod_carry n _ _ _ h1 (fun x hx => hs x (by rw [e]; exact List.mem_append_left _ hx))⟩, trodAll_carry h2 (fun x hx => hs x (by rw [e]; exact List.mem_append_right _ hx)), e⟩
end

/-- A list's bulk. -/
def bulkS (xs : List (List UInt8)) : Nat := (xs.map fun x => x.length + 1).sum
theorem bulkS_cons (x : List UInt8) (r : List (List UInt8)) : bulkS (x :: r) = x.length + 1 + bulkS r := by simp [bulkS]
theorem bulk_strs {H : Type} : ∀ xs : List (List UInt8), Rows.uptoBulkAll (H := H) (xs.map fun x => .lit (.string x)) = bulkS xs := by
  intro xs
  induction xs with
  | nil => simp [Rows.uptoBulkAll, bulkS]
  | cons x r ih =>
    rw [List.map_cons, bulkS_cons, Rows.uptoBulkAll, ih, Rows.uptoBulk]
theorem bulk_len : ∀ xs : List (List UInt8), xs.length ≤ bulkS xs := by
  intro xs
  induction xs with
  | nil => simp
  | cons x r ih =>
    rw [bulkS_cons, List.length_cons]
    omega
theorem bulk_mem : ∀ (xs : List (List UInt8)) (x : List UInt8), x ∈ xs → x.length ≤ bulkS xs := by
  intro xs
  induction xs with
  | nil => intro x h; cases h
  | cons y r ih =>
    intro x h
    rw [bulkS_cons]
    rcases List.mem_cons.1 h with rfl | h
    · omega
    · have := ih x h
      omega
theorem text_len (i f : List UInt8) (any : List (List UInt8)) : (textL i (any.map fx) f).length ≤ 3 * i.length + 4 * bulkS any + 1 + 3 * f.length := by
  have h1 := starL_length i
  have h2 := starL_length f
  have h3 : ((any.map fx).flatMap fun a => 42 :: starL a).length ≤ 4 * bulkS any := by
    induction any with
    | nil => simp
    | cons x r ih =>
      rw [List.map_cons, List.flatMap_cons, List.length_append, List.length_cons, bulkS_cons]
      have h := starL_length (fx x)
      have hx : (fx x).length ≤ x.length + 1 := by
        unfold fx
        split
        · simp
        · omega
      omega
  unfold textL frontL
  rw [List.length_append, List.length_append, List.length_cons]
  omega

set_option maxRecDepth 100000 in
theorem six_of {W : World} (h : laidMetH Tryz.prog Rows.matchByPiecesUptoRow.laid W) (hsh : W.ShapedOpen Tryz.prog) : Six W := by
  rw [MakeChecks.laidMetH_plain _ _ _ (by kernel_rfl)] at h
  have hin : ("roster/match.kinds", Rows.laid_roster_match_kinds) ∈ Rows.matchByPiecesUptoRow.laid := by simp [Rows.matchByPiecesUptoRow]
  exact ⟨cell_of_shapedOpen_int (zero := #[.int .i64 0]) (t := 3) hsh (of_decide_eq_true (by kernel_rfl)) (by kernel_rfl) rfl (by kernel_rfl) (by kernel_rfl) Tryz.underlying3,
    kindAt h hin 1 (by decide) "roster/match.folded" _ 258 _ rfl (by kernel_rfl) (fun s => noStar (c := 'r') (by decide) s _ rfl) (by kernel_rfl) Tryz.underlying258,
    kindAt h hin 2 (by decide) "roster/match.exact" _ 256 _ rfl (by kernel_rfl) (fun s => noStar (c := 'r') (by decide) s _ rfl) (by kernel_rfl) Tryz.underlying256,
    kindAt h hin 3 (by decide) "roster/match.lowFolded" _ 263 _ rfl (by kernel_rfl) (fun s => noStar (c := 'r') (by decide) s _ rfl) (by kernel_rfl) Tryz.underlying263,
    kindAt h hin 5 (by decide) "roster/match.numeric" _ 264 _ rfl (by kernel_rfl) (fun s => noStar (c := 'r') (by decide) s _ rfl) (by kernel_rfl) Tryz.underlying264,
    kindAt h hin 6 (by decide) "roster/match.phone" _ 265 _ rfl (by kernel_rfl) (fun s => noStar (c := 'r') (by decide) s _ rfl) (by kernel_rfl) Tryz.underlying265,
    kindAt h hin 9 (by decide) "roster/match.octet" _ 267 _ rfl (by kernel_rfl) (fun s => noStar (c := 'r') (by decide) s _ rfl) (by kernel_rfl) Tryz.underlying267⟩

def args0 : Array Value := #[.string .empty, .agg #[.string .empty, .slice none 0 0, .string .empty]]
set_option maxRecDepth 100000 in
theorem witness_row (os : Os) {H : Type} (enc : TypeId × Value → H) :
    (Rows.OpenSpec.upto Rows.matchByPiecesSpec).preRow enc Tryz.prog Tryz.f3 Rows.matchByPiecesUptoRow.domain false Rows.matchByPiecesUptoRow.laid ((World.laidAll Tryz.prog os Rows.matchByPiecesUptoRow.laid).forCall (fun _ _ => 0) ⟨#[], args0, []⟩).memory args0 := by
  have hw : (DataW.whole enc Tryz.prog ((World.laidAll Tryz.prog os Rows.matchByPiecesUptoRow.laid).forCall (fun _ _ => 0) ⟨#[], args0, []⟩).memory Tryz.f3.params.toList (Rows.OpenSpec.upto Rows.matchByPiecesSpec).vars false args0.toList 8).map (fun x => (x.1, x.2.1)) =
      some ([.lit (.string []), .agg [.lit (.string []), .nil, .lit (.string [])]], []) := by kernel_rfl
  obtain ⟨⟨x1, x2, x3⟩, hx, hx1⟩ := Option.map_eq_some_iff.1 hw
  simp only [Prod.mk.injEq] at hx1
  obtain ⟨rfl, rfl⟩ := hx1
  refine OpenSpec.preRow_of_cond 8 hx (by kernel_rfl) (fun k hk => ?_) (by kernel_rfl) (by rw [MakeChecks.laidMetH_plain _ _ _ (by kernel_rfl)]; exact laidMet_laidAll _ (by kernel_rfl) (by kernel_rfl))
  obtain rfl : Rows.uptoSmall = k := Option.some.inj hk
  rfl

end Go.Proofs.YtmgfikfcnhhnhaaGreatDoor
