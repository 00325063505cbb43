/- The law's own words: label, swapped, truth. -/
import Derived.Test.YtjmjgkmegljmpaaGreatDoorT1
import Derived.Test.YtjmjgkmegljmpaaGreatDoorT2
import Derived.Test.YtjmjgkmegljmpaaGreatDoorT3
namespace Go.Proofs.YtjmjgkmegljmpaaGreatDoor
open Go.RowKit

def labB (b : UInt8) : UInt8 := 97 + b % 26
def lab (l : List UInt8) : List UInt8 := 118 :: (l.take 20).map labB
def labK (l : List UInt8) (k : Nat) : List UInt8 := 118 :: (l.take k).map labB
theorem labB_num (b : UInt8) : UInt8.ofNat ((97 + (b.toNat : Int) % 26)).toNat = labB b := by
  unfold labB
  rw [← UInt8.toNat_inj]
  have h : ((97 + (b.toNat : Int) % 26)).toNat = 97 + b.toNat % 26 := by omega
  rw [h, UInt8.toNat_add, UInt8.toNat_mod]
  simp
theorem labK_succ (s : ByteArray) (k : Nat) (h : k < s.size) : mkB (labK s.data.toList k) ++ strOfNums [97 + (s[k].toNat : Int) % 26] = mkB (labK s.data.toList (k + 1)) := by
  apply ByteArray.ext
  apply Array.toList_inj.1
  rw [mkB_data, ByteArray.data_append, Array.toList_append, mkB_data, strOfNums_data]
  unfold labK
  rw [List.take_succ_eq_append_getElem (by rw [dlen]; exact h)]
  simp [labB_num]
  rfl
theorem labK_all (l : List UInt8) (k : Nat) (h : k ≤ 20) (h2 : k = 20 ∨ l.length ≤ k) : labK l k = lab l := by
  unfold labK lab
  rcases h2 with rfl | h2
  · rfl
  · rw [List.take_of_length_le h2, List.take_of_length_le (by omega)]
theorem labK_size (l : List UInt8) (k : Nat) : (mkB (labK l k)).size ≤ k + 1 := by
  rw [mkB_size]
  simp [labK]
  omega
theorem conv_one (W : World) (y : Int) : (convert 38 9 (.slice (some ⟨W.heap.size, 0, none⟩) 1 1)).run Tryz.prog (W.alloc (.cells #[.int .u8 y] 5)) = .ok (.string (strOfNums [y])) (W.alloc (.cells #[.int .u8 y] 5)) := by
  refine run_convert_bytes_arg _ 38 5 Tryz.underlying38 Tryz.underlying5 W.heap.size 0 1 1 [y] rfl (fun i hi => ?_) 9 Tryz.underlying9
  obtain rfl : i = 0 := by omega
  exact cell_of_row (W.alloc (.cells #[.int .u8 y] 5)) W.heap.size 0 #[.int .u8 y] 5 (0, 0) (heap_alloc_new W _)
attribute [local go_sem] conv_one strOfNums_size

set_option maxRecDepth 100000 in
theorem law_label (s : ByteArray) (w : World) (_hs : s.size ≤ 9223372036854775807) :
    Calls Tryz.prog 11 #[.string s] w fun e w' => e = .returned (.string (mkB (lab s.data.toList))) ∧ Below w.heap.size w w' := by
  have hd := dlen s
  go_enter Tryz.func11, Tryz.ntmps11
  go_wp2
  go_loopw [3, 4] (fun x i wr => ∃ k : Nat, k ≤ s.size ∧ k ≤ 20 ∧ i = .int .i64 k ∧ x = .string (mkB (labK s.data.toList k)) ∧ Below w.heap.size w wr) (fun _ i _ => 20 - (intOf i).toNat)
  case atStart => exact ⟨0, Nat.zero_le _, Nat.zero_le _, rfl, rfl, Below.refl _ _⟩
  case round =>
    obtain ⟨k, hk1, hk2, rfl, rfl, hB⟩ := hrel
    have hz := labK_size s.data.toList k
    by_cases hc : k < s.size ∧ k < 20
    · obtain ⟨hlt, hlt2⟩ := hc
      go_wp2
      exact ⟨⟨k + 1, by omega, by omega, by go_num, by rw [labK_succ s k hlt], hB.alloc hB.size _⟩, by simp [intOf]; omega⟩
    · have he := labK_all s.data.toList k hk2 (by omega)
      have HE := Lib.hid he
      clear he
      by_cases hlt : k < s.size
      all_goals
        go_wp2
        go_ret
        exact ⟨by rw [← HE.out]; rfl, hB⟩

def swapB (b : UInt8) : UInt8 := if 97 ≤ b ∧ b ≤ 122 then b - 32 else if 65 ≤ b ∧ b ≤ 90 then b + 32 else b
theorem swapB_low (b : UInt8) (h1 : 97 ≤ (b.toNat : Int)) (h2 : (b.toNat : Int) ≤ 122) : ((swapB b).toNat : Int) = (b.toNat : Int) - 32 := by
  unfold swapB
  have e1 : 97 ≤ b := by rw [UInt8.le_iff_toNat_le]; simpa using (by omega : 97 ≤ b.toNat)
  have e2 : b ≤ 122 := by rw [UInt8.le_iff_toNat_le]; simpa using (by omega : b.toNat ≤ 122)
  rw [if_pos ⟨e1, e2⟩, UInt8.toNat_sub_of_le _ _ (by rw [UInt8.le_iff_toNat_le]; simp; omega)]
  simp
  omega
theorem swapB_up (b : UInt8) (h1 : 65 ≤ (b.toNat : Int)) (h2 : (b.toNat : Int) ≤ 90) : ((swapB b).toNat : Int) = (b.toNat : Int) + 32 := by
  unfold swapB
  have e1 : 65 ≤ b := by rw [UInt8.le_iff_toNat_le]; simpa using (by omega : 65 ≤ b.toNat)
  have e2 : b ≤ 90 := by rw [UInt8.le_iff_toNat_le]; simpa using (by omega : b.toNat ≤ 90)
  have n1 : ¬ (97 ≤ b ∧ b ≤ 122) := by
    rintro ⟨h, _⟩
    rw [UInt8.le_iff_toNat_le] at h
    simp at h
    omega
  rw [if_neg n1, if_pos ⟨e1, e2⟩, UInt8.toNat_add]
  simp
  omega
theorem swapB_same (b : UInt8) (h : ¬ (97 ≤ (b.toNat : Int) ∧ (b.toNat : Int) ≤ 122)) (h' : ¬ (65 ≤ (b.toNat : Int) ∧ (b.toNat : Int) ≤ 90)) : swapB b = b := by
  unfold swapB
  rw [if_neg, if_neg]
  · rintro ⟨e1, e2⟩
    rw [UInt8.le_iff_toNat_le] at e1 e2
    simp at e1 e2
    omega
  · rintro ⟨e1, e2⟩
    rw [UInt8.le_iff_toNat_le] at e1 e2
    simp at e1 e2
    omega
attribute [local go_sem] fold_conv
def swap (l : List UInt8) : List UInt8 := l.map swapB

set_option maxRecDepth 100000 in
theorem law_swapped (s : ByteArray) (w : World) (hs : s.size ≤ 9223372036854775807) :
    Calls Tryz.prog 12 #[.string s] w fun e w' => e = .returned (.string (mkB (swap s.data.toList))) ∧ Below w.heap.size w w' := by
  have hl := dlen s
  go_enter Tryz.func12, Tryz.ntmps12
  go_wp2
  go_loopw [4] (fun i wr => ∃ k : Nat, k ≤ s.size ∧ i = .int .i64 k ∧ RowB wr w.heap.size 5 (part swapB s.data.toList k) ∧ Below w.heap.size w wr) (fun i _ => s.size - (intOf i).toNat)
  case atStart => exact ⟨0, Nat.zero_le _, rfl, by rw [part_zero]; exact RowB.start w 5 s, bytesWorld_below w 5 s⟩
  case round =>
    obtain ⟨k, hk, rfl, hR, hB⟩ := hrel
    by_cases hlt : k < s.size
    · have hlt' : k < s.data.toList.length := by omega
      have hcell := hR.cell k (by rw [part_length]; omega)
      have hfz := hR.frozen k (by rw [part_length]; omega)
      rw [part_at _ _ k hlt'] at hcell
      have hst := part_step swapB s.data.toList k hlt'
      have hkp := part_keep swapB s.data.toList k hlt'
      generalize s.data.toList[k] = c at hcell hst hkp
      have HS := Lib.hid hst
      have HK := Lib.hid hkp
      clear hst hkp
      have hc := c.toNat_lt
      by_cases low : 97 ≤ (c.toNat : Int) ∧ (c.toNat : Int) ≤ 122
      · have HV := Lib.hid (swapB_low c low.1 low.2)
        obtain ⟨u1, u2⟩ := low
        go_wp2
        refine ⟨⟨k + 1, by omega, by go_num, ?_, hB.setCell (Nat.le_refl _) _⟩, by simp [intOf]; omega⟩
        rw [HS.out]
        exact hR.set k (swapB c) _ (by rw [HV.out])
      · by_cases up : 65 ≤ (c.toNat : Int) ∧ (c.toNat : Int) ≤ 90
        · have HV := Lib.hid (swapB_up c up.1 up.2)
          obtain ⟨u1, u2⟩ := up
          have u3 : (c.toNat : Int) < 97 := by omega
          clear low
          go_wp2
          refine ⟨⟨k + 1, by omega, by go_num, ?_, hB.setCell (Nat.le_refl _) _⟩, by simp [intOf]; omega⟩
          rw [HS.out]
          exact hR.set k (swapB c) _ (by rw [HV.out])
        · have hv := swapB_same c low up
          by_cases u1 : 97 ≤ (c.toNat : Int)
          · have u2 : 122 < (c.toNat : Int) := by omega
            clear low up
            go_wp2
            exact ⟨⟨k + 1, by omega, by go_num, by rw [HK.out hv]; exact hR, hB⟩, by simp [intOf]; omega⟩
          · by_cases u4 : 65 ≤ (c.toNat : Int)
            · have u2 : 90 < (c.toNat : Int) := by omega
              clear low up
              go_wp2
              exact ⟨⟨k + 1, by omega, by go_num, by rw [HK.out hv]; exact hR, hB⟩, by simp [intOf]; omega⟩
            · clear low up
              go_wp2
              exact ⟨⟨k + 1, by omega, by go_num, by rw [HK.out hv]; exact hR, hB⟩, by simp [intOf]; omega⟩
    · have hk2 : k = s.size := by omega
      subst hk2
      rw [part_all _ _ _ (by omega)] at hR
      have hconv : (convert 38 9 (.slice (some ⟨w.heap.size, 0, none⟩) s.size (grownCap w s.size 0 5))).run Tryz.prog wr = .ok (.string (mkB (swap s.data.toList))) wr := by
        have h := hR.string (cap := grownCap w s.size 0 5) Tryz.underlying38 Tryz.underlying5 Tryz.underlying9
        rw [List.length_map, hl] at h
        exact h
      go_wp2
      go_ret
      exact ⟨rfl, hB⟩

theorem law_truth (b : Bool) (w : World) : Calls Tryz.prog 13 #[.bool b] w fun e w' => e = .returned (.int .i64 (if b = true then 2 else 0)) ∧ w = w' := by
  cases b
  all_goals
    go_enter Tryz.func13, Tryz.ntmps13
    go_wp2
    go_ret
    exact ⟨rfl, rfl⟩
end Go.Proofs.YtjmjgkmegljmpaaGreatDoor
