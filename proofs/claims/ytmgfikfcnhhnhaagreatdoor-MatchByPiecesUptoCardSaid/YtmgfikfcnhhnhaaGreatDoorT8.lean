/- A text cut at a byte, as a plain function. -/
import Derived.Test.YtmgfikfcnhhnhaaGreatDoorT0
import Derived.Lib.SplitLaws
import Derived.Lib.IndexBytes
import Derived.Lib.Split
import Derived.Lib.SlicesS
namespace Go.Proofs.YtmgfikfcnhhnhaaGreatDoor

def cutAt (c : UInt8) : List UInt8 → List (List UInt8)
  | [] => [[]]
  | b :: r => if b = c then [] :: cutAt c r else match cutAt c r with
    | h :: t => (b :: h) :: t
    | [] => [[b]]
theorem index_cons (b c : UInt8) (r : List UInt8) : Lib.index (b :: r) [c] = if b == c then 0 else if Lib.index r [c] == -1 then -1 else Lib.index r [c] + 1 := by
  rw [Lib.index_one, Lib.index_one]
  rfl
theorem index_ge (r : List UInt8) (c : UInt8) : -1 ≤ Lib.index r [c] := by rw [Lib.index_one]; exact Lib.indexByte_ge r c
theorem index_count (c : UInt8) : ∀ r : List UInt8, Lib.index r [c] = -1 ↔ r.count c = 0 := by
  intro r
  induction r with
  | nil => simp [Lib.index_one, Lib.indexByte]
  | cons b r ih =>
    rw [index_cons]
    by_cases h : b = c
    · subst h
      simp
    · have h' : (b == c) = false := by simpa using h
      have hg := index_ge r c
      rw [h', List.count_cons]
      simp only [Bool.false_eq_true, if_false, h', Nat.add_zero]
      by_cases hi : Lib.index r [c] = -1
      · simp [hi, ih.1 hi]
      · have : ¬ r.count c = 0 := fun e => hi (ih.2 e)
        simp [hi, this]
        omega
theorem splitK_cut (c : UInt8) : ∀ l : List UInt8, Lib.splitK [c] 0 (l.count c) l = cutAt c l := by
  intro l
  induction l with
  | nil => rfl
  | cons b r ih =>
    by_cases h : b = c
    · subst h
      have e : (b :: r).count b = r.count b + 1 := by simp
      have hx : Lib.index (b :: r) [b] = 0 := by rw [index_cons]; simp
      rw [e]
      unfold Lib.splitK cutAt
      rw [hx]
      simp [ih]
    · have h' : (b == c) = false := by simpa using h
      have e : (b :: r).count c = r.count c := by simp [List.count_cons, h']
      have hg := index_ge r c
      rw [e]
      unfold cutAt
      rw [if_neg h, ← ih]
      cases hk : r.count c with
      | zero => rfl
      | succ k =>
        have hi : ¬ Lib.index r [c] = -1 := fun e => by have := (index_count c r).1 e; omega
        have hx : Lib.index (b :: r) [c] = Lib.index r [c] + 1 := by
          rw [index_cons, h']
          simp [hi]
        unfold Lib.splitK
        rw [hx]
        have n1 : ¬ ((Lib.index r [c] + 1 == -1) = true) := by simp; omega
        have n2 : ¬ ((Lib.index r [c] == -1) = true) := by simpa using hi
        rw [if_neg n1, if_neg n2]
        have t1 : (Lib.index r [c] + 1).toNat = (Lib.index r [c]).toNat + 1 := by omega
        simp only [t1, Nat.add_zero, List.take_succ_cons, List.length_cons, List.length_nil, Nat.zero_add, List.drop_succ_cons]
theorem split_data (c : UInt8) (s : ByteArray) : (Lib.splitB ⟨#[c]⟩ 0 (Lib.countB s ⟨#[c]⟩) s).map (·.data.toList) = cutAt c s.data.toList := by
  rw [Lib.splitB_data]
  show Lib.splitK [c] 0 (Lib.count s.data.toList [c]) s.data.toList = _
  rw [Lib.count_one, splitK_cut]
theorem split_list (c : UInt8) (s : ByteArray) : Lib.splitB ⟨#[c]⟩ 0 (Lib.countB s ⟨#[c]⟩) s = (cutAt c s.data.toList).map mkB := by
  rw [← split_data, List.map_map]
  conv => lhs; rw [← List.map_id (Lib.splitB _ _ _ _)]
  apply List.map_congr_left
  intro x _
  exact (mkB_self x).symm
theorem cutAt_length (c : UInt8) : ∀ l, (cutAt c l).length = l.count c + 1 := by
  intro l
  induction l with
  | nil => rfl
  | cons b r ih =>
    unfold cutAt
    by_cases h : b = c
    · subst h
      simp [ih]
    · have h' : (b == c) = false := by simpa using h
      rw [if_neg h, List.count_cons, h']
      cases hc : cutAt c r with
      | nil => rw [hc] at ih; simp at ih
      | cons x t => rw [hc] at ih; simpa using ih
theorem countB_one (c : UInt8) (s : ByteArray) : Lib.countB s ⟨#[c]⟩ = s.data.toList.count c := by
  show Lib.count s.data.toList [c] = _
  rw [Lib.count_one]
theorem cutAt_ne (c b : UInt8) (r h : List UInt8) (t : List (List UInt8)) (hb : b ≠ c) (hr : cutAt c r = h :: t) : cutAt c (b :: r) = (b :: h) :: t := by
  unfold cutAt
  rw [if_neg hb, hr]
theorem cutAt_no (c : UInt8) : ∀ l : List UInt8, c ∉ l → cutAt c l = [l] := by
  intro l
  induction l with
  | nil => intro _; rfl
  | cons b r ih =>
    intro h
    simp at h
    unfold cutAt
    rw [if_neg (fun e => h.1 e.symm), ih h.2]
theorem cutAt_app (c : UInt8) : ∀ (l m : List UInt8), c ∉ l → cutAt c (l ++ c :: m) = l :: cutAt c m := by
  intro l m
  induction l with
  | nil => intro _; simp [cutAt]
  | cons b r ih =>
    intro h
    simp at h
    exact cutAt_ne c b _ _ _ (fun e => h.1 e.symm) (ih h.2)
end Go.Proofs.YtmgfikfcnhhnhaaGreatDoor
