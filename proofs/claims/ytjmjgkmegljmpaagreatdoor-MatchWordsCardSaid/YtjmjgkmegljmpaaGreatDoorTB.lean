/- match: aWord, reads, ByRule at the rule of words. -/
import Derived.Test.YtjmjgkmegljmpaaGreatDoorTA
namespace Go.Proofs.YtjmjgkmegljmpaaGreatDoor
open Go.RowKit
theorem field_2' (a b d : Value) (c : Int) (w : World) : (Instr.field 44 (.agg #[a, b, .int .i64 c, d]) 2).run Tryz.prog w = .ok (.int .i64 c) w := by kernel_rfl
theorem field_3' (a b c : Value) (f : Fn) (x : Array Value) (w : World) : (Instr.field 44 (.agg #[a, b, c, .func f x #[]]) 3).run Tryz.prog w = .ok (.func f x #[]) w := by kernel_rfl
attribute [local go_sem] field_2' field_3'

/-- The library's variable MaxLen holds a number. -/
def MaxL (w : World) : Prop := ∃ m : Int, w.cell? ⟨1, 0, none⟩ = some (.int .i64 m)
theorem MaxL.below {w w1 : World} (h : MaxL w) (hb : Below w.heap.size w w1) : MaxL w1 := by
  obtain ⟨m, hm⟩ := h
  exact ⟨m, (hb.cell (World.block_lt_of_cell? w _ hm)).trans hm⟩

theorem split_at (c : UInt8) (n : List UInt8) (w : World) (hn : n.length ≤ 1073741824) (hm : MaxL w) :
    Calls Tryz.prog 42 #[.string (mkB n), .string ⟨#[c]⟩] w fun e w' => e = .returned (.slice (some ⟨w.heap.size, 0, none⟩) (cutAt c n).length (cutAt c n).length) ∧ w' = w.alloc (.cells (strsV ((cutAt c n).map mkB)).toArray 9) := by
  obtain ⟨m, hm⟩ := hm
  have h := Tryz.strings_Split (mkB n) ⟨#[c]⟩ m w (by rw [mkB_size]; omega) hm (by simp [ByteArray.size])
  rw [split_list, countB_one, mkB_data, ← cutAt_length] at h
  exact h

theorem contains_list (zs : List ByteArray) (x : ByteArray) (b c : Nat) (w : World) (hz : zs.length ≤ 9223372036854775807) (hc : ∀ j, j < zs.length → w.cell? ⟨b, j, none⟩ = some (.string (zs.getD j ByteArray.empty))) :
    Calls Tryz.prog 48 #[.slice (some ⟨b, 0, none⟩) zs.length c, .string x] w fun e w' => e = .returned (.bool (Lib.containsS zs x)) ∧ w' = w := by
  have h := Tryz.slices_Contains_string b 0 zs.length c zs x w (Nat.le_refl _) hz (fun j hj => by rw [Nat.zero_add]; exact hc j hj)
  rw [List.take_of_length_le (Nat.le_refl _)] at h
  exact h
theorem containsS_mkB (l : List (List UInt8)) (m : List UInt8) : Lib.containsS (l.map mkB) (mkB m) = decide (m ∈ l) := by
  rw [Bool.eq_iff_iff, Lib.containsS_iff, decide_eq_true_eq, List.mem_map]
  constructor
  · rintro ⟨x, hx, he⟩
    have : x = m := by rw [← mkB_data x, he, mkB_data]
    exact this ▸ hx
  · intro h
    exact ⟨m, h, rfl⟩
theorem strs_cell (zs : List ByteArray) (w : World) : ∀ j, j < zs.length → (w.alloc (.cells (strsV zs).toArray 9)).cell? ⟨w.heap.size, j, none⟩ = some (.string (zs.getD j ByteArray.empty)) := by
  intro j hj
  rw [cell_of_row (w.alloc (.cells (strsV zs).toArray 9)) w.heap.size j (strsV zs).toArray 9 (0, 0) (heap_alloc_new w _)]
  simp [strsV, List.getD, List.getElem?_eq_getElem hj]
theorem contains_split (c : UInt8) (n m : List UInt8) (w : World) (hn : n.length ≤ 1073741824) :
    Calls Tryz.prog 48 #[.slice (some ⟨w.heap.size, 0, none⟩) (cutAt c n).length (cutAt c n).length, .string (mkB m)] (w.alloc (.cells (strsV ((cutAt c n).map mkB)).toArray 9)) fun e w' => e = .returned (.bool (decide (m ∈ cutAt c n))) ∧ w' = w.alloc (.cells (strsV ((cutAt c n).map mkB)).toArray 9) := by
  have hl : (cutAt c n).length ≤ 1073741825 := by
    rw [cutAt_length]
    have := List.count_le_length (l := n) (a := c)
    omega
  have h := contains_list ((cutAt c n).map mkB) (mkB m) w.heap.size (cutAt c n).length (w.alloc (.cells (strsV ((cutAt c n).map mkB)).toArray 9)) (by rw [List.length_map]; omega) (strs_cell _ w)
  rw [containsS_mkB, List.length_map] at h
  exact h

set_option maxRecDepth 100000 in
theorem aWord_some (v a : ByteArray) (n m : List UInt8) (w : World) (hv : v.size ≤ 1073741824) (ha : a.size ≤ 1073741824) (hk : KindsF w) (hx : MaxL w) (h1 : foN v.data.toList = some n) (h2 : foN a.data.toList = some m) (hn : n.length ≤ 1073741824) :
    Calls Tryz.prog 35 #[.int .i64 1, .string v, .string a] w fun e w' => e = .returned (.bool (decide (m ∈ cutAt 32 n))) ∧ Below w.heap.size w w' := by
  have HV := Lib.hid (fun W hW => normal_1_some v n W (by omega) hW h1)
  have HA := Lib.hid (fun W hW => normal_1_some a m W (by omega) hW h2)
  have HC := Lib.hid (fun W => contains_split 32 n m W hn)
  clear h1 h2
  generalize decide (m ∈ cutAt 32 n) = q at HC
  go_enter Tryz.func35, Tryz.ntmps35
  go_wp2_with (fail)
  refine (HV.out _ hk).mono ?_
  rintro e w1 ⟨rfl, hb1⟩
  go_wp2_with (fail)
  refine (HA.out _ (hk.below hb1)).mono ?_
  rintro e w2 ⟨rfl, hb2⟩
  have hB := below_then hb1 hb1.size hb2
  go_wp2_with (fail)
  refine (split_at 32 n _ hn (hx.below hB)).mono ?_
  rintro e w3 ⟨rfl, rfl⟩
  go_wp2_with (fail)
  refine (HC.out _).mono ?_
  rintro e w4 ⟨rfl, rfl⟩
  go_wp2
  go_ret
  exact ⟨rfl, hB.alloc hB.size _⟩

set_option maxRecDepth 100000 in
theorem reads30 (v : ByteArray) (w : World) (hv : v.size ≤ 1073741824) (hk : KindsF w) :
    Calls Tryz.prog 16 #[.int .i64 30, .string v] w fun e w' => e = .returned (.bool (foN v.data.toList).isSome) ∧ Below w.heap.size w w' := by
  rcases hr : foN v.data.toList with _ | n
  · have HN := Lib.hid (fun W hW => normal_1_none v W (by omega) hW hr)
    clear hr
    go_enter Tryz.func16, Tryz.ntmps16
    go_wp2_with (first | (go_at_call 22; refine (kindOf30 _).mono ?_; rintro e w3 ⟨rfl, rfl⟩) | (go_at_call 17; refine (ruleRows30 _).mono ?_; rintro e w1 ⟨rfl, hb⟩) | (go_at_call 19; refine (HN.out _ (hk.below hb)).mono ?_; rintro e w2 ⟨rfl, hb2⟩; have hB := below_then hb hb.size hb2))
    go_ret
    exact ⟨rfl, hB⟩
  · have HN := Lib.hid (fun W hW => normal_1_some v n W (by omega) hW hr)
    clear hr
    go_enter Tryz.func16, Tryz.ntmps16
    go_wp2_with (first | (go_at_call 22; refine (kindOf30 _).mono ?_; rintro e w3 ⟨rfl, rfl⟩) | (go_at_call 17; refine (ruleRows30 _).mono ?_; rintro e w1 ⟨rfl, hb⟩) | (go_at_call 19; refine (HN.out _ (hk.below hb)).mono ?_; rintro e w2 ⟨rfl, hb2⟩; have hB := below_then hb hb.size hb2))
    go_ret
    exact ⟨rfl, hB⟩

/-- What ByRule answers by the rule of words. -/
def byWord (v a : List UInt8) : Int :=
  if assertW a = true then (match foN v, foN a with
    | some n, some m => if m ∈ cutAt 32 n then 2 else 0
    | _, _ => 0) else 1

set_option maxRecDepth 100000 in
theorem byRule30 (S : Int) (hS : ∀ W, Calls Tryz.prog 15 #[.int .i64 30, .int .i64 S] W fun e w' => e = .returned (.bool true) ∧ Below W.heap.size W w')
    (v a : ByteArray) (w : World) (hv : v.size ≤ 1073741824) (ha : a.size ≤ 1073741824) (hk : KindsF w) (hx : MaxL w) (hn : ∀ n, foN v.data.toList = some n → n.length ≤ 1073741824) :
    Calls Tryz.prog 8 #[.int .i64 30, .int .i64 S, .string v, .string a] w fun e w' => e = .returned (.int .i64 (byWord v.data.toList a.data.toList)) ∧ Below w.heap.size w w' := by
  have HS := Lib.hid hS
  have HA := Lib.hid (fun W hW => asserts30 a W (by omega) hW)
  have HR := Lib.hid (fun W hW => reads30 v W hv hW)
  clear hS
  unfold byWord
  cases h1 : assertW a.data.toList with
  | false =>
    rw [h1] at HA
    simp only [Bool.false_eq_true, if_false]
    clear h1 hn HR
    go_enter Tryz.func8, Tryz.ntmps8
    go_wp2_with (first | (go_at_call 15; refine (HS.out _).mono ?_; rintro e w1 ⟨rfl, hb1⟩) | (go_at_call 10; refine (HA.out _ (hk.below hb1)).mono ?_; rintro e w2 ⟨rfl, hb2⟩; have hB := below_then hb1 hb1.size hb2))
    go_ret
    exact ⟨rfl, hB⟩
  | true =>
    have h2 : ∃ m, foN a.data.toList = some m := by
      unfold assertW at h1
      cases hm : foN a.data.toList with
      | none => rw [hm] at h1; cases h1
      | some m => exact ⟨m, rfl⟩
    obtain ⟨m, hm⟩ := h2
    rw [h1] at HA
    rw [hm]
    simp only [if_true]
    cases hr : foN v.data.toList with
    | none =>
      rw [hr] at HR
      simp only
      clear h1 hn hr hm
      go_enter Tryz.func8, Tryz.ntmps8
      go_wp2_with (first | (go_at_call 15; refine (HS.out _).mono ?_; rintro e w1 ⟨rfl, hb1⟩) | (go_at_call 10; refine (HA.out _ (hk.below hb1)).mono ?_; rintro e w2 ⟨rfl, hb2⟩; have hB := below_then hb1 hb1.size hb2) | (go_at_call 16; refine (HR.out _ (hk.below hB)).mono ?_; rintro e w3 ⟨rfl, hb3⟩; have hC := below_then hB hB.size hb3))
      go_ret
      exact ⟨rfl, hC⟩
    | some n =>
      rw [hr] at HR
      simp only
      have HW := Lib.hid (fun W hW hM => aWord_some v a n m W hv ha hW hM hr hm (hn n hr))
      clear h1 hn hr hm
      rw [show (if m ∈ cutAt 32 n then (2 : Int) else 0) = (if decide (m ∈ cutAt 32 n) = true then 2 else 0) from by simp]
      generalize decide (m ∈ cutAt 32 n) = q at HW
      cases q
      all_goals
        simp only [Bool.false_eq_true, if_false, if_true]
        go_enter Tryz.func8, Tryz.ntmps8
        go_wp2_with (fail)
        refine (HS.out _).mono ?_
        rintro e w1 ⟨rfl, hb1⟩
        go_wp2_with (fail)
        refine (HA.out _ (hk.below hb1)).mono ?_
        rintro e w2 ⟨rfl, hb2⟩
        have hB := below_then hb1 hb1.size hb2
        clear hb1 hb2
        go_wp2_with (fail)
        refine (HR.out _ (hk.below hB)).mono ?_
        rintro e w3 ⟨rfl, hb3⟩
        have hC := below_then hB hB.size hb3
        clear hB hb3
        go_wp2_with (fail)
        refine (ruleRows30 _).mono ?_
        rintro e w4 ⟨rfl, hb4⟩
        have hD := below_then hC hC.size hb4
        clear hC hb4
        go_wp2_with (fail)
        refine (ruleRows30 _).mono ?_
        rintro e w5 ⟨rfl, hb5⟩
        have hE := below_then hD hD.size hb5
        clear hD hb5
        go_wp2_with (fail)
        refine (HW.out _ (hk.below hE) (hx.below hE)).mono ?_
        rintro e w6 ⟨rfl, hb6⟩
        have hF := below_then hE hE.size hb6
        clear hE hb6
        go_wp2
        go_ret
        exact ⟨rfl, hF⟩
end Go.Proofs.YtjmjgkmegljmpaaGreatDoor
