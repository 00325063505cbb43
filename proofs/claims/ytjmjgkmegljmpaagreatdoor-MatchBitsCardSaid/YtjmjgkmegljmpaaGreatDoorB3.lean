/- MatchBits: the law's own walk. -/
import Derived.Test.YtjmjgkmegljmpaaGreatDoorB2
namespace Go.Proofs.YtjmjgkmegljmpaaGreatDoor
open Go.RowKit

def bitB (b : UInt8) : UInt8 := 48 + b % 2
def bitsOf (s : ByteArray) (k : Nat) : ByteArray := ⟨(39 :: (s.data.toList.take k).map bitB).toArray⟩
theorem bitsOf_list (s : ByteArray) (k : Nat) : (bitsOf s k).data.toList = 39 :: (s.data.toList.take k).map bitB := rfl
theorem bitsOf_size (s : ByteArray) (k : Nat) : (bitsOf s k).size ≤ k + 1 := by
  show (39 :: (s.data.toList.take k).map bitB).toArray.size ≤ k + 1
  simp
  omega
theorem bitB_num (b : UInt8) : UInt8.ofNat ((48 + (b.toNat : Int) % 2)).toNat = bitB b := by
  unfold bitB
  rw [← UInt8.toNat_inj]
  have h : ((48 + (b.toNat : Int) % 2)).toNat = 48 + b.toNat % 2 := by omega
  rw [h, UInt8.toNat_add, UInt8.toNat_mod]
  simp
theorem bitsOf_succ (s : ByteArray) (k : Nat) (h : k < s.size) : bitsOf s k ++ strOfNums [48 + (s[k].toNat : Int) % 2] = bitsOf s (k + 1) := by
  apply ByteArray.ext
  apply Array.toList_inj.1
  rw [bitsOf_list, ByteArray.data_append, Array.toList_append, bitsOf_list, strOfNums_data, List.take_succ_eq_append_getElem (by simpa using h)]
  simp [bitB_num]
  rfl
theorem bit01_bitB (b : UInt8) : bit01 (bitB b) = true := by
  unfold bit01 bitB
  have h : b.toNat % 2 = 0 ∨ b.toNat % 2 = 1 := by omega
  rw [Bool.or_eq_true, beq_iff_eq, beq_iff_eq, ← UInt8.toNat_inj, ← UInt8.toNat_inj, UInt8.toNat_add, UInt8.toNat_mod]
  simp
  omega
theorem bits01_bitsOf (s : ByteArray) (k : Nat) : bits01 ((s.data.toList.take k).map bitB) = true := by
  unfold bits01
  rw [List.all_eq_true]
  intro x hx
  obtain ⟨b, _, rfl⟩ := List.mem_map.1 hx
  exact bit01_bitB b

theorem pre39 (t : List UInt8) : Lib.hasPrefix (39 :: t) [39] = true := by simp [Lib.hasPrefix, List.isPrefixOf]
theorem trim39 (t : List UInt8) : Lib.trimPrefix (39 :: t) [39] = t := by simp [Lib.trimPrefix, pre39]
theorem suf_yes (t : List UInt8) : Lib.hasSuffix (t ++ [39, 66]) [39, 66] = true := by
  unfold Lib.hasSuffix
  rw [List.isSuffixOf_iff_suffix]
  exact List.suffix_append _ _
theorem suf_no (t : List UInt8) (c : UInt8) (h : c ≠ 66) : Lib.hasSuffix (t ++ [c]) [39, 66] = false := by
  unfold Lib.hasSuffix
  rw [Bool.eq_false_iff, ne_eq, List.isSuffixOf_iff_suffix]
  rintro ⟨u, hu⟩
  have := congrArg List.getLast? hu
  simp at this
  exact h this.symm
theorem trimSuf (t : List UInt8) : Lib.trimSuffix (t ++ [39, 66]) [39, 66] = t := by
  unfold Lib.trimSuffix
  rw [if_pos (suf_yes t)]
  simp
theorem isBits_yes (t : List UInt8) (h : bits01 t = true) : isBits (39 :: t ++ [39, 66]) = true := by
  simp only [isBits, List.cons_append, pre39, trim39, suf_yes, trimSuf, h, Bool.and_self]
theorem isBits_two (t : List UInt8) : isBits (39 :: t ++ [50, 39, 66]) = false := by
  have e : t ++ [50, 39, 66] = (t ++ [50]) ++ [39, 66] := by simp
  simp only [isBits, List.cons_append, e, pre39, trim39, suf_yes, trimSuf, bits01, List.all_append]
  simp [bit01]
theorem isBits_end (t : List UInt8) (c : UInt8) (h : c ≠ 66) : isBits (39 :: t ++ [c]) = false := by
  simp only [isBits, List.cons_append, pre39, trim39, suf_no t c h]
  simp
theorem isBits_small (t : List UInt8) : isBits (39 :: t ++ [39, 98]) = false := by
  have e : 39 :: t ++ [39, 98] = 39 :: (t ++ [39]) ++ [98] := by simp
  rw [e]
  exact isBits_end _ _ (by decide)

theorem conv_one (W : World) (y : Int) : (convert 38 9 (.slice (some ⟨W.heap.size, 0, none⟩) 1 1)).run Tryz.prog (W.alloc (.cells #[.int .u8 y] 5)) = .ok (.string (strOfNums [y])) (W.alloc (.cells #[.int .u8 y] 5)) := by
  refine run_convert_bytes_arg _ 38 5 Tryz.underlying38 Tryz.underlying5 W.heap.size 0 1 1 [y] rfl (fun i hi => ?_) 9 Tryz.underlying9
  obtain rfl : i = 0 := by omega
  exact cell_of_row (W.alloc (.cells #[.int .u8 y] 5)) W.heap.size 0 #[.int .u8 y] 5 (0, 0) (heap_alloc_new W _)
attribute [local go_sem] conv_one strOfNums_size

theorem truth_any (b : Bool) (w : World) : Calls Tryz.prog 13 #[.bool b] w fun e w' => e = .returned (.int .i64 (if b = true then 2 else 0)) ∧ w = w' := by
  cases b
  all_goals
    go_enter Tryz.func13, Tryz.ntmps13
    go_wp2
    go_ret
    exact ⟨rfl, rfl⟩

theorem add_list (s : ByteArray) (l : List UInt8) : (s ++ ⟨l.toArray⟩).data.toList = s.data.toList ++ l := by
  rw [ByteArray.data_append, Array.toList_append]
theorem bitsN_yes (s : ByteArray) (h : isBits s.data.toList = true) : bitsN s = some s := by unfold bitsN; rw [if_pos h]
theorem bitsN_no (s : ByteArray) (h : isBits s.data.toList = false) : bitsN s = none := by unfold bitsN; rw [h]; simp

theorem nB (s : ByteArray) (k : Nat) : bitsN (bitsOf s k ++ ⟨#[39, 66]⟩) = some (bitsOf s k ++ ⟨#[39, 66]⟩) :=
  bitsN_yes _ (by rw [show (⟨#[39, 66]⟩ : ByteArray) = ⟨[39, 66].toArray⟩ from rfl, add_list, bitsOf_list]; exact isBits_yes _ (bits01_bitsOf s k))
theorem nb (s : ByteArray) (k : Nat) : bitsN (bitsOf s k ++ ⟨#[39, 98]⟩) = none :=
  bitsN_no _ (by rw [show (⟨#[39, 98]⟩ : ByteArray) = ⟨[39, 98].toArray⟩ from rfl, add_list, bitsOf_list]; exact isBits_small _)
theorem n2 (s : ByteArray) (k : Nat) : bitsN (bitsOf s k ++ ⟨#[50, 39, 66]⟩) = none :=
  bitsN_no _ (by rw [show (⟨#[50, 39, 66]⟩ : ByteArray) = ⟨[50, 39, 66].toArray⟩ from rfl, add_list, bitsOf_list]; exact isBits_two _)
theorem n1 (s : ByteArray) (k : Nat) : bitsN (bitsOf s k ++ ⟨#[39]⟩) = none :=
  bitsN_no _ (by rw [show (⟨#[39]⟩ : ByteArray) = ⟨[39].toArray⟩ from rfl, add_list, bitsOf_list]; exact isBits_end _ _ (by decide))
theorem sz2 (s : ByteArray) (k : Nat) (h : k ≤ 100) (t : ByteArray) (ht : t.size ≤ 3) : (bitsOf s k ++ t).size ≤ 1152921504606846976 := by
  rw [ByteArray.size_append]
  have := bitsOf_size s k
  omega
theorem toList_same (x y t : ByteArray) : ((x ++ t).toList == (y ++ t).toList) = (x.toList == y.toList) := by
  rw [ByteArray.toList_eq, ByteArray.toList_eq, ByteArray.toList_eq, ByteArray.toList_eq, ByteArray.data_append, ByteArray.data_append, Array.toList_append, Array.toList_append, Bool.eq_iff_iff]
  simp

/-- The five calls of the law's end, each in the walk's own spelling. -/
theorem call1 (a b : ByteArray) (i j : Nat) (hi : i ≤ 100) (hj : j ≤ 100) (w : World) (hk : Kinds14 w) :
    Calls Tryz.prog 14 #[.int .i64 14, .string (bitsOf a i ++ ⟨#[39, 66]⟩), .string (bitsOf b j ++ ⟨#[39, 66]⟩)] w fun e w' => e = .returned (.int .i64 (if (bitsOf a i).toList == (bitsOf b j).toList then 2 else 0)) ∧ Below w.heap.size w w' := by
  have h := equal14 (bitsOf a i ++ ⟨#[39, 66]⟩) (bitsOf b j ++ ⟨#[39, 66]⟩) w (sz2 _ _ hi _ (by decide)) (sz2 _ _ hj _ (by decide)) hk
  rw [eqT, nB, nB] at h
  simp only [toList_same] at h
  exact h
theorem call2 (a : ByteArray) (i : Nat) (hi : i ≤ 100) (w : World) (hk : Kinds14 w) :
    Calls Tryz.prog 8 #[.int .i64 23, .int .i64 14, .string (bitsOf a i ++ ⟨#[39, 66]⟩), .string (bitsOf a i ++ ⟨#[39, 66]⟩)] w fun e w' => e = .returned (.int .i64 2) ∧ Below w.heap.size w w' :=
  byRule_yes _ _ _ _ w (sz2 _ _ hi _ (by decide)) (sz2 _ _ hi _ (by decide)) (nB a i) (nB a i) (by unfold Hid; rw [eqT, nB]; simp) hk
theorem call3 (a b : ByteArray) (i j : Nat) (hi : i ≤ 100) (hj : j ≤ 100) (w : World) (hk : Kinds14 w) :
    Calls Tryz.prog 14 #[.int .i64 14, .string (bitsOf a i ++ ⟨#[39, 98]⟩), .string (bitsOf b j ++ ⟨#[39, 66]⟩)] w fun e w' => e = .returned (.int .i64 0) ∧ Below w.heap.size w w' := by
  have h := equal14 (bitsOf a i ++ ⟨#[39, 98]⟩) (bitsOf b j ++ ⟨#[39, 66]⟩) w (sz2 _ _ hi _ (by decide)) (sz2 _ _ hj _ (by decide)) hk
  rwa [eqT, nB, nb] at h
theorem call4 (a b : ByteArray) (i j : Nat) (hi : i ≤ 100) (hj : j ≤ 100) (w : World) (hk : Kinds14 w) :
    Calls Tryz.prog 14 #[.int .i64 14, .string (bitsOf b j ++ ⟨#[39, 66]⟩), .string (bitsOf a i ++ ⟨#[50, 39, 66]⟩)] w fun e w' => e = .returned (.int .i64 1) ∧ Below w.heap.size w w' := by
  have h := equal14 (bitsOf b j ++ ⟨#[39, 66]⟩) (bitsOf a i ++ ⟨#[50, 39, 66]⟩) w (sz2 _ _ hj _ (by decide)) (sz2 _ _ hi _ (by decide)) hk
  rwa [eqT, n2] at h
theorem call5 (a : ByteArray) (i : Nat) (hi : i ≤ 100) (w : World) (hk : Kinds14 w) :
    Calls Tryz.prog 14 #[.int .i64 14, .string (bitsOf a i ++ ⟨#[39]⟩), .string (bitsOf a i ++ ⟨#[39, 66]⟩)] w fun e w' => e = .returned (.int .i64 0) ∧ Below w.heap.size w w' := by
  have h := equal14 (bitsOf a i ++ ⟨#[39]⟩) (bitsOf a i ++ ⟨#[39, 66]⟩) w (sz2 _ _ hi _ (by decide)) (sz2 _ _ hi _ (by decide)) hk
  rwa [eqT, nB, n1] at h

set_option maxRecDepth 100000 in
set_option maxHeartbeats 1000000 in
theorem law5 (a b : ByteArray) (w : World) (hk : Kinds14 w) :
    Calls Tryz.prog 5 #[.string a, .string b] w fun e w' => e = .returned (.bool true) ∧ Below w.heap.size w w' := by
  go_enter Tryz.func5, Tryz.ntmps5
  go_wp2
  go_loopw [5, 7] (fun x i wr => ∃ k : Nat, k ≤ a.size ∧ k ≤ 100 ∧ i = .int .i64 k ∧ x = .string (bitsOf a k) ∧ Below w.heap.size w wr) (fun _ i _ => 100 - (intOf i).toNat)
  case atStart => exact ⟨0, Nat.zero_le _, Nat.zero_le _, rfl, rfl, Below.refl _ _⟩
  case round =>
    obtain ⟨k, hk1, hk2, rfl, rfl, hB⟩ := hrel
    have hz := bitsOf_size a k
    by_cases hc : k < a.size ∧ k < 100
    · obtain ⟨hlt, hlt2⟩ := hc
      go_wp2
      exact ⟨⟨k + 1, by omega, by omega, by go_num, by rw [bitsOf_succ a k hlt], hB.alloc hB.size _⟩, by simp [intOf]; omega⟩
    · have hk3 := hk.below hB
      obtain ⟨wo, rfl⟩ : ∃ wo : World, wo = wr := ⟨_, rfl⟩
      by_cases hlt : k < a.size
      all_goals
        go_wp2
        go_loopw [6, 8] (fun x i wr => ∃ j : Nat, j ≤ b.size ∧ j ≤ 100 ∧ i = .int .i64 j ∧ x = .string (bitsOf b j) ∧ Below w.heap.size w wr) (fun _ i _ => 100 - (intOf i).toNat)
        case atStart => exact ⟨0, Nat.zero_le _, Nat.zero_le _, rfl, rfl, hB⟩
        case round =>
          obtain ⟨j, hj1, hj2, rfl, rfl, hC⟩ := hrel
          have hy := bitsOf_size b j
          by_cases hd : j < b.size ∧ j < 100
          · obtain ⟨hlu, hlu2⟩ := hd
            go_wp2
            exact ⟨⟨j + 1, by omega, by omega, by go_num, by rw [bitsOf_succ b j hlu], hC.alloc hC.size _⟩, by simp [intOf]; omega⟩
          · have hk4 := hk.below hC
            by_cases hlu : j < b.size
            all_goals
              rcases hq : (bitsOf a k).toList == (bitsOf b j).toList
              all_goals
                have q1 := call1 a b k j hk2 hj2
                rw [hq] at q1
                simp only [Bool.false_eq_true, if_false, if_true] at q1
                have Q1 := Lib.hid q1
                clear q1
                go_wp2_with (fail)
                refine (Q1.out _ hk4).mono ?_
                rintro e w1 ⟨rfl, hb1⟩
                have hD := hC.trans (hb1.mono hC.size)
                clear hb1
                go_wp2_with (fail)
                refine (truth_any _ _).mono ?_
                rintro e w2 ⟨rfl, rfl⟩
                go_wp2_with (fail)
                refine (call2 a k hk2 _ (hk.below hD)).mono ?_
                rintro e w2 ⟨rfl, hb2⟩
                have hE := hD.trans (hb2.mono hD.size)
                clear hb2
                go_wp2_with (fail)
                refine (call3 a b k j hk2 hj2 _ (hk.below hE)).mono ?_
                rintro e w3 ⟨rfl, hb3⟩
                have hF := hE.trans (hb3.mono hE.size)
                clear hb3
                go_wp2_with (fail)
                refine (call4 a b k j hk2 hj2 _ (hk.below hF)).mono ?_
                rintro e w4 ⟨rfl, hb4⟩
                have hG := hF.trans (hb4.mono hF.size)
                clear hb4
                go_wp2_with (fail)
                refine (call5 a k hk2 _ (hk.below hG)).mono ?_
                rintro e w5 ⟨rfl, hb5⟩
                have hH := hG.trans (hb5.mono hG.size)
                clear hb5
                go_wp2
                go_ret
                exact ⟨rfl, hH⟩

end Go.Proofs.YtjmjgkmegljmpaaGreatDoor
