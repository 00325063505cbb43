/- Blanks: plain functions (collapse, squeeze, normal). -/
import Derived.Test.YtmgfikfcnhhnhaaGreatDoorT0
namespace Go.Proofs.YtmgfikfcnhhnhaaGreatDoor

def blankB (b : UInt8) : Bool := b == 32 || (decide (9 ≤ b) && decide (b ≤ 13))
theorem blankB_int (b : UInt8) : ((b.toNat : Int) == 32 || (decide (9 ≤ (b.toNat : Int)) && decide ((b.toNat : Int) ≤ 13))) = blankB b := by
  unfold blankB
  rw [Bool.eq_iff_iff]
  simp [← UInt8.toNat_inj, UInt8.le_iff_toNat_le]
  omega
/-- p: does a blank stand ahead? -/
def coll : Bool → List UInt8 → List UInt8
  | _, [] => []
  | p, b :: r => if blankB b = true then (if p = true then coll true r else 32 :: coll true r) else b :: coll false r
def collapse (l : List UInt8) : List UInt8 := coll false l
def lastBlank : Bool → List UInt8 → Bool
  | p, [] => p
  | _, b :: r => lastBlank (blankB b) r
def addB (p : Bool) (b : UInt8) : List UInt8 := if blankB b = true then (if p = true then [] else [32]) else [b]
theorem coll_snoc (l : List UInt8) (b : UInt8) : ∀ p, coll p (l ++ [b]) = coll p l ++ addB (lastBlank p l) b := by
  induction l with
  | nil =>
    intro p
    simp only [List.nil_append, coll, lastBlank, addB]
    cases blankB b <;> cases p <;> simp
  | cons c r ih =>
    intro p
    show (if blankB c = true then (if p = true then coll true (r ++ [b]) else 32 :: coll true (r ++ [b])) else c :: coll false (r ++ [b])) = (if blankB c = true then (if p = true then coll true r else 32 :: coll true r) else c :: coll false r) ++ addB (lastBlank (blankB c) r) b
    cases hc : blankB c <;> cases p <;> simp [ih]
theorem lastBlank_snoc (l : List UInt8) (b : UInt8) : ∀ p, lastBlank p (l ++ [b]) = blankB b := by
  induction l with
  | nil => intro p; rfl
  | cons c r ih => intro p; exact ih _
theorem coll_length (l : List UInt8) : ∀ p, (coll p l).length ≤ l.length := by
  induction l with
  | nil => intro p; simp [coll]
  | cons b r ih =>
    intro p
    simp only [coll]
    have h1 := ih true
    have h2 := ih false
    split
    · split <;> simp <;> omega
    · simp; omega
theorem collapse_length (l : List UInt8) : (collapse l).length ≤ l.length := coll_length l false

def cutFront (l : List UInt8) : List UInt8 := match l with
  | b :: r => if b = 32 then r else b :: r
  | [] => []
def cutBack (l : List UInt8) : List UInt8 := if l.getLast? = some 32 then l.dropLast else l
def squeeze (l : List UInt8) : List UInt8 := cutBack (cutFront (collapse l))
def normalT (l : List UInt8) : List UInt8 := squeeze (fold l)
end Go.Proofs.YtmgfikfcnhhnhaaGreatDoor
