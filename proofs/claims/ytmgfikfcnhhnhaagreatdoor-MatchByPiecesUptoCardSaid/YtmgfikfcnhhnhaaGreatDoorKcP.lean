/- match in plain Lean: what Parts, Fits, Contains and ByRule answer by a kind's own functions. -/
import Derived.Test.YtmgfikfcnhhnhaaGreatDoorT9
import Derived.Test.YtmgfikfcnhhnhaaGreatDoorPatP
import Derived.Test.YtmgfikfcnhhnhaaGreatDoorShelg
namespace Go.Proofs.YtmgfikfcnhhnhaaGreatDoor
open Go.RowKit

/-- The library's variable MaxLen holds a number. -/
def MaxL (w : World) : Prop := ∃ m : Int, w.cell? ⟨1, 0, none⟩ = some (.int .i64 m)
theorem MaxL.below {w w1 : World} (h : MaxL w) (hb : Below w.heap.size w w1) : MaxL w1 := by
  obtain ⟨m, hm⟩ := h
  exact ⟨m, (hb.cell (World.block_lt_of_cell? w _ hm)).trans hm⟩

/-- How long a text may be. -/
abbrev LIM : Nat := 1073741824

/-- What a kind's functions answer. -/
structure KindC (T : TypeId) where
  nrm : List UInt8 → Option (List UInt8)
  pc : List UInt8 → List UInt8
  po : List UInt8 → Bool
  t1 : List UInt8 → List UInt8
  t2 : List UInt8 → List UInt8
  ln : ∀ l n, nrm l = some n → n.length ≤ l.length
  lc : ∀ l, (pc l).length ≤ l.length
  l1 : ∀ l, (t1 l).length ≤ l.length
  l2 : ∀ l, (t2 l).length ≤ l.length
  fp : FuncId
  fn : FuncId
  fc : FuncId
  ft : FuncId
  mp : ∀ w, (method 396 T (.agg #[]) "roster/match.partial").run Tryz.prog w = .ok (fp, .agg #[]) w
  mn : ∀ w, (method 396 T (.agg #[]) "roster/match.normal").run Tryz.prog w = .ok (fn, .agg #[]) w
  mc : ∀ w, (method 396 T (.agg #[]) "roster/match.piece").run Tryz.prog w = .ok (fc, .agg #[]) w
  mt : ∀ w, (method 396 T (.agg #[]) "roster/match.trim").run Tryz.prog w = .ok (ft, .agg #[]) w
  ep : ∀ args w, (callFunc fp args).run Tryz.prog w = .ok (.enter fp args) w
  en : ∀ args w, (callFunc fn args).run Tryz.prog w = .ok (.enter fn args) w
  ec : ∀ args w, (callFunc fc args).run Tryz.prog w = .ok (.enter fc args) w
  et : ∀ args w, (callFunc ft args).run Tryz.prog w = .ok (.enter ft args) w
  cp : ∀ W, Calls Tryz.prog fp #[.agg #[]] W fun e w' => e = .returned (.bool true) ∧ Below W.heap.size W w'
  cn : ∀ l W, l.length ≤ LIM → MaxL W → Calls Tryz.prog fn #[.agg #[], .string (mkB l)] W fun e w' => e = .returned (NRv (nrm l)) ∧ Below W.heap.size W w'
  cc : ∀ l W, l.length ≤ LIM → MaxL W → Calls Tryz.prog fc #[.agg #[], .string (mkB l)] W fun e w' => e = .returned (.tuple #[.string (mkB (pc l)), .bool (po l)]) ∧ Below W.heap.size W w'
  ct : ∀ l W, l.length ≤ LIM → Calls Tryz.prog ft #[.agg #[], .string (mkB l)] W fun e w' => e = .returned (.tuple #[.string (mkB (t1 l)), .string (mkB (t2 l))]) ∧ Below W.heap.size W w'

variable {T : TypeId}
/-- What Parts answers. -/
def partsN (K : KindC T) (p : Pat) : Option Pat :=
  if p.1 = [] ∧ p.2.2 = [] ∧ p.2.1 = [] then none else
  if K.po p.1 = true ∧ K.po p.2.2 = true ∧ p.2.1.all K.po = true then some (K.t1 (K.pc p.1), p.2.1.map K.pc, K.t2 (K.pc p.2.2)) else none
/-- What the loop of Fits answers. -/
def goL : List UInt8 → List (List UInt8) → Bool
  | _, [] => true
  | r, a :: t => (Lib.cut r a).2.2 && goL (Lib.cut r a).2.1 t
/-- What Fits answers. -/
def fitsN (n : List UInt8) (p : Pat) : Bool :=
  !decide (n.length < p.1.length + p.2.2.length) && (Lib.hasPrefix n p.1 && (Lib.hasSuffix n p.2.2 && goL ((n.drop p.1.length).take (n.length - p.2.2.length - p.1.length)) p.2.1))
/-- What Contains answers. -/
def conN (K : KindC T) (v : List UInt8) (p : Pat) : Int :=
  match partsN K p with
  | none => 1
  | some q => match K.nrm v with
    | none => 0
    | some n => if fitsN n q = true then 2 else 0
/-- What Asserts answers. -/
def assP (K : KindC T) (t : List UInt8) : Bool := match patN t with
  | none => false
  | some p => (partsN K p).isSome
/-- What ByRule answers. -/
def byP (K : KindC T) (v t : List UInt8) : Int :=
  match patN t with
  | none => 1
  | some p => conN K v p
theorem byP_text (K : KindC T) (v i f : List UInt8) (any : List (List UInt8)) (h : ∀ a ∈ any, a ≠ []) : byP K v (textL i any f) = conN K v (i, any, f) := by
  unfold byP
  rw [patN_text i any f h]
  split
  · rename_i he
    split at he
    · rename_i hh
      obtain ⟨rfl, rfl, rfl⟩ := hh
      unfold conN partsN
      rfl
    · cases he
  · rename_i p hp
    split at hp
    · cases hp
    · cases hp
      rfl
theorem byP_none (K : KindC T) (v t : List UInt8) (h : patN t = none) : byP K v t = 1 := by
  unfold byP
  rw [h]
theorem assP_none (K : KindC T) (t : List UInt8) (h : patN t = none) : assP K t = false := by
  unfold assP
  rw [h]
end Go.Proofs.YtmgfikfcnhhnhaaGreatDoor
