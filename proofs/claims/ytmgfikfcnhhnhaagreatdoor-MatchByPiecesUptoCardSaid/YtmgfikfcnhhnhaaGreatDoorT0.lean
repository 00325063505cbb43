/- Plain functions on bytes: letters folded, blanks, and small lemmas on lists. -/
import Derived.Laws.BytesArg
import Derived.Below
import Derived.Lib.ConvBytes
import Derived.Lib.Strings
namespace Go.Proofs.YtmgfikfcnhhnhaaGreatDoor
open Go.RowKit

def mkB (l : List UInt8) : ByteArray := ⟨l.toArray⟩
theorem mkB_data (l : List UInt8) : (mkB l).data.toList = l := rfl
theorem mkB_size (l : List UInt8) : (mkB l).size = l.length := by simp [mkB, ByteArray.size]
theorem mkB_self (s : ByteArray) : mkB s.data.toList = s := by
  obtain ⟨⟨l⟩⟩ := s
  rfl
theorem dlen (s : ByteArray) : s.data.toList.length = s.size := by rw [Array.length_toList]; rfl
theorem strOfNums_mkB (l : List UInt8) : strOfNums (l.map fun b => (b.toNat : Int)) = mkB l := by
  unfold strOfNums mkB
  congr 2
  rw [List.map_map]
  conv => rhs; rw [← List.map_id l]
  apply List.map_congr_left
  intro b _
  simp

def foldB (b : UInt8) : UInt8 := if 65 ≤ b ∧ b ≤ 90 then b + 32 else b
def fold (l : List UInt8) : List UInt8 := l.map foldB
theorem fold_length (l : List UInt8) : (fold l).length = l.length := by simp [fold]
theorem foldB_up (b : UInt8) (h1 : 65 ≤ (b.toNat : Int)) (h2 : (b.toNat : Int) ≤ 90) : ((foldB b).toNat : Int) = (b.toNat : Int) + 32 := by
  unfold foldB
  have e1 : 65 ≤ b := by rw [UInt8.le_iff_toNat_le]; simpa using (by omega : 65 ≤ b.toNat)
  have e2 : b ≤ 90 := by rw [UInt8.le_iff_toNat_le]; simpa using (by omega : b.toNat ≤ 90)
  rw [if_pos ⟨e1, e2⟩, UInt8.toNat_add]
  simp
  omega
theorem foldB_same (b : UInt8) (h : ¬ (65 ≤ (b.toNat : Int) ∧ (b.toNat : Int) ≤ 90)) : foldB b = b := by
  unfold foldB
  rw [if_neg]
  rintro ⟨e1, e2⟩
  rw [UInt8.le_iff_toNat_le] at e1 e2
  simp at e1 e2
  omega

/-- The block of a '[]byte(s)': its first bytes are l, and may be written. -/
def RowB (w : World) (b : Nat) (e : TypeId) (l : List UInt8) : Prop :=
  ∃ cs, w.heap[b]? = some (.cells cs e (cs.size, cs.size + 1)) ∧ l.length ≤ cs.size ∧ ∀ j, j < l.length → cs[j]? = some (.int .u8 ((l.getD j 0).toNat : Int))
theorem RowB.cell {w : World} {b e : Nat} {l : List UInt8} (h : RowB w b e l) (j : Nat) (hj : j < l.length) : w.cell? ⟨b, j, none⟩ = some (.int .u8 ((l.getD j 0).toNat : Int)) := by
  obtain ⟨cs, h1, h2, h3⟩ := h
  rw [← h3 j hj]
  simp [World.cell?, h1]
theorem RowB.frozen {w : World} {b e : Nat} {l : List UInt8} (h : RowB w b e l) (j : Nat) (hj : j < l.length) : w.frozen? ⟨b, j, none⟩ = false := by
  obtain ⟨cs, h1, h2, h3⟩ := h
  simp [World.frozen?, h1]
  omega
theorem RowB.set {w : World} {b e : Nat} {l : List UInt8} (h : RowB w b e l) (j : Nat) (v : UInt8) (n : Int) (hn : n = (v.toNat : Int)) : RowB (w.setCell ⟨b, j, none⟩ (.int .u8 n)) b e (l.set j v) := by
  obtain ⟨cs, h1, h2, h3⟩ := h
  refine ⟨cs.setIfInBounds j (.int .u8 n), ?_, by simpa using h2, ?_⟩
  · simp [World.setCell, Array.getElem?_modify, h1]
  · intro i hi
    rw [List.length_set] at hi
    by_cases e : j = i
    · subst e
      rw [Array.getElem?_setIfInBounds_self_of_lt (by omega), hn]
      simp [List.getD, hi]
    · rw [Array.getElem?_setIfInBounds_ne (by omega), h3 i hi]
      simp [List.getD, List.getElem?_set_ne, e]
theorem RowB.start (w : World) (e : TypeId) (s : ByteArray) : RowB (Lib.bytesWorld w e s) w.heap.size e s.data.toList := by
  refine ⟨_, Lib.bytesWorld_at_new w e s, by simp [Lib.bytesCells], ?_⟩
  intro j hj
  have h := Lib.bytesWorld_cell w e s j (by simpa using hj)
  rw [← h]
  simp [World.cell?, Lib.bytesWorld_at_new]
theorem RowB.lt {w : World} {b e : Nat} {l : List UInt8} (h : RowB w b e l) : b < w.heap.size := by
  obtain ⟨cs, h1, _, _⟩ := h
  exact (Array.getElem?_eq_some_iff.1 h1).1
theorem RowB.below {w w1 : World} {b e : Nat} {l : List UInt8} (h : RowB w b e l) (hb : Below w.heap.size w w1) : RowB w1 b e l := by
  have hl := h.lt
  obtain ⟨cs, h1, h2, h3⟩ := h
  exact ⟨cs, (hb.block b hl).trans h1, h2, h3⟩
theorem RowB.string {P : Program} {w : World} {b src e dst cap : Nat} {l : List UInt8} (h : RowB w b e l) (hs : P.underlying src = some (.slice e)) (he : P.underlying e = some (.int .u8)) (hd : P.underlying dst = some .string) :
    (convert src dst (.slice (some ⟨b, 0, none⟩) l.length cap)).run P w = .ok (.string (mkB l)) w := by
  have hr := run_convert_bytes_arg (P := P) w src e hs he b 0 l.length cap (l.map fun x => (x.toNat : Int)) (by simp) (fun i hi => by
    rw [Nat.zero_add, h.cell i hi]
    simp [List.getD, List.getElem?_map, List.getElem?_eq_getElem hi]) dst hd
  rwa [strOfNums_mkB] at hr
theorem bytesWorld_below (w : World) (e : TypeId) (s : ByteArray) : Below w.heap.size w (Lib.bytesWorld w e s) :=
  ⟨rfl, rfl, rfl, by rw [Lib.bytesWorld_size]; omega, fun i hi => Lib.bytesWorld_at_old w e s i hi⟩

/-- What has been turned of a list, and what has not. -/
def part (f : UInt8 → UInt8) (l : List UInt8) (k : Nat) : List UInt8 := (l.take k).map f ++ l.drop k
theorem part_length (f : UInt8 → UInt8) (l : List UInt8) (k : Nat) : (part f l k).length = l.length := by simp [part]; omega
theorem part_zero (f : UInt8 → UInt8) (l : List UInt8) : part f l 0 = l := by simp [part]
theorem part_all (f : UInt8 → UInt8) (l : List UInt8) (k : Nat) (h : l.length ≤ k) : part f l k = l.map f := by simp [part, List.take_of_length_le h, List.drop_eq_nil_of_le h]
theorem part_at (f : UInt8 → UInt8) (l : List UInt8) (k : Nat) (h : k < l.length) : (part f l k).getD k 0 = l[k] := by
  unfold part
  rw [List.getD, List.getElem?_append_right (by simp; omega)]
  simp
  have e : min k l.length = k := by omega
  simp [e, h]
theorem part_step (f : UInt8 → UInt8) (l : List UInt8) (k : Nat) (h : k < l.length) : part f l (k + 1) = (part f l k).set k (f l[k]) := by
  unfold part
  have hk : k = ((l.take k).map f).length := by simp; omega
  rw [List.set_append_right k _ (by rw [← hk]; omega), ← hk, Nat.sub_self, List.drop_eq_getElem_cons h, List.set_cons_zero, List.take_succ_eq_append_getElem h, List.map_append, List.append_assoc]
  rfl
theorem part_keep (f : UInt8 → UInt8) (l : List UInt8) (k : Nat) (h : k < l.length) (hf : f l[k] = l[k]) : part f l (k + 1) = part f l k := by
  rw [part_step f l k h, hf]
  apply List.ext_getElem?
  intro i
  by_cases e : k = i
  · subst e
    rw [List.getElem?_set_self (by rw [part_length]; exact h)]
    have := part_at f l k h
    rw [List.getD] at this
    cases hh : (part f l k)[k]? with
    | none =>
      rw [List.getElem?_eq_none_iff, part_length] at hh
      omega
    | some v =>
      rw [hh] at this
      simp at this
      rw [this]
  · rw [List.getElem?_set_ne e]
end Go.Proofs.YtmgfikfcnhhnhaaGreatDoor
