/- MatchListed: the law's own walk (begun). -/
import Derived.Test.YtmgfikfcnhhnhaaDoorTN
import Derived.StillTailTactics
namespace Go.Proofs.YtmgfikfcnhhnhaaDoor
open Go.RowKit

theorem mk_app (a b : List UInt8) : mkB a ++ mkB b = mkB (a ++ b) := by
  apply ByteArray.ext
  apply Array.toList_inj.1
  rw [ByteArray.data_append, Array.toList_append]
  rfl
theorem mk_end (a : List UInt8) (c : UInt8) : mkB a ++ (⟨#[c]⟩ : ByteArray) = mkB (a ++ [c]) := mk_app a [c]
theorem mk_end2 (a : List UInt8) (c d : UInt8) : mkB a ++ (⟨#[c, d]⟩ : ByteArray) = mkB (a ++ [c, d]) := mk_app a [c, d]
attribute [local go_sem] mk_app mk_end mk_end2 mkB_size

set_option maxRecDepth 100000 in
theorem law_truth (b : Bool) (w : World) : Calls Tryd.prog 6 #[.bool b] w fun e w' => e = .returned (.int .i64 (if b = true then 2 else 0)) ∧ w = w' := by
  cases b
  all_goals
    go_enter Tryd.func6, Tryd.ntmps6
    go_wp2
    go_ret
    exact ⟨rfl, rfl⟩

def Both (w : World) : Prop := KindAt 1 65 w ∧ KindAt 13 79 w ∧ MaxL w
theorem Both.below {w w1 : World} (h : Both w) (hb : Below w.heap.size w w1) : Both w1 := ⟨h.1.below hb, h.2.1.below hb, h.2.2.below hb⟩
/-- Equal of lists, its answer given. -/
theorem callL (u v : List UInt8) (n : Int) (hu : u.length ≤ 100000000) (hv : v.length ≤ 100000000) (h : eqT (listN u) (listN v) = n) (W : World) (hk : Both W) :
    Calls Tryd.prog 4 #[.int .i64 13, .string (mkB u), .string (mkB v)] W fun e w' => e = .returned (.int .i64 n) ∧ Below W.heap.size W w' := by
  have hc := equal13 (mkB u) (mkB v) W (by rw [mkB_size]; exact hu) (by rw [mkB_size]; exact hv) hk.2.1 hk.2.2
  rw [mkB_data, mkB_data, h] at hc
  exact hc
theorem callT (u v : ByteArray) (n : Int) (hu : u.size ≤ 100000000) (hv : v.size ≤ 100000000) (h : eqT (foN u.data.toList) (foN v.data.toList) = n) (W : World) (hk : Both W) :
    Calls Tryd.prog 4 #[.int .i64 1, .string u, .string v] W fun e w' => e = .returned (.int .i64 n) ∧ Below W.heap.size W w' := by
  have hc := equal1 u v W hu hv hk.1
  rw [h] at hc
  exact hc
theorem eqT_self (l : List UInt8) : eqT (foN l) (foN l) = if (foN l).isSome = true then 2 else 1 := by
  cases foN l with
  | none => rfl
  | some x => simp [eqT]

set_option maxRecDepth 100000 in
set_option maxHeartbeats 2000000 in
theorem law_listed (a b c d : ByteArray) (w : World) (ha : a.size ≤ 10000000) (hb : b.size ≤ 10000000) (hc : c.size ≤ 10000000) (hd : d.size ≤ 10000000) (hk : Both w) :
    Calls Tryd.prog 3 #[.string a, .string b, .string c, .string d] w fun e w' => e = .returned (.bool true) ∧ Below w.heap.size w w' := by
  have K1 := Lib.hid (callL [65, 36, 98, 92, 50, 52] [97, 36, 32, 66, 92, 50, 52] 2 (by simp) (by simp) k1)
  have K2 := Lib.hid (callL [97, 36, 98] [97, 92, 50, 52, 98] 0 (by simp) (by simp) k2)
  have K3 := Lib.hid (callL [97] [97, 36] 1 (by simp) (by simp) k3)
  go_enter Tryd.func3, Tryd.ntmps3
  go_wp2_with (fail)
  refine (K1.out _ hk).mono ?_
  rintro e w1 ⟨rfl, hB1⟩
  go_wp2_with (fail)
  refine (K2.out _ (hk.below hB1)).mono ?_
  rintro e w2 ⟨rfl, hb2⟩
  have hB2 := below_then hB1 hB1.size hb2
  go_wp2_with (fail)
  refine (K3.out _ (hk.below hB2)).mono ?_
  rintro e w3 ⟨rfl, hb3⟩
  have hB3 := below_then hB2 hB2.size hb3
  clear hB1 hb2 hB2 hb3 K1 K2 K3
  go_wp2
  go_loopw [10] (fun i wr => ∃ k : Nat, k ≤ 4 ∧ i = .int .i64 k ∧ Hid (∀ (j : Nat) (x : ByteArray), j < k → [a, b, c, d][j]? = some x → (foN x.data.toList).isSome = true) ∧ Below w.heap.size w wr ∧ (∀ (j : Nat) (x : ByteArray), [a, b, c, d][j]? = some x → wr.cell? ⟨w3.heap.size, j, none⟩ = some (.string x)) ∧ w3.heap.size < wr.heap.size) (fun i _ => 4 - (intOf i).toNat)
  case atStart =>
    refine ⟨0, Nat.zero_le _, rfl, Lib.hid (fun j x hj => by omega), hB3.alloc hB3.size _, fun j x hx => ?_, by simp⟩
    rw [cell_of_row (w3.alloc (.cells #[.string a, .string b, .string c, .string d] 9)) w3.heap.size j #[.string a, .string b, .string c, .string d] 9 (0, 0) (heap_alloc_new w3 _)]
    match j, hx with
    | 0, hx => simp at hx; subst hx; rfl
    | 1, hx => simp at hx; subst hx; rfl
    | 2, hx => simp at hx; subst hx; rfl
    | 3, hx => simp at hx; subst hx; rfl
  case round =>
    obtain ⟨k, hk4, rfl, HI, hB, hC, hz⟩ := hrel
    by_cases hlt : k < 4
    · obtain ⟨x, hx⟩ : ∃ x, [a, b, c, d][k]? = some x := ⟨_, List.getElem?_eq_getElem (by simpa using hlt)⟩
      have hxs : x.size ≤ 10000000 := by
        have := List.mem_of_getElem? hx
        simp at this
        rcases this with rfl | rfl | rfl | rfl <;> assumption
      have hcell := hC k x hx
      have HX := Lib.hid hx
      have HC := Lib.hid hC
      have CT := callT x x _ (by omega) (by omega) (eqT_self x.data.toList)
      have CL := fun W => law_line x W (by omega)
      clear hx hC
      cases hf : (foN x.data.toList).isSome with
      | true =>
        simp only [hf, if_true] at CT
        have CT := Lib.hid CT
        have HF := Lib.hid hf
        clear hf CL
        go_wp2
        go_still_tail 8, (by kernel_rfl)
        change wpList _ _ _ _ _ wr.drew
        have hBd : Below w.heap.size w wr.drew := hB.drew
        have HCd : Hid (∀ (j : Nat) (x : ByteArray), [a, b, c, d][j]? = some x → wr.drew.cell? ⟨w3.heap.size, j, none⟩ = some (.string x)) := HC
        have hzd : w3.heap.size < wr.drew.heap.size := hz
        generalize wr.drew = wd at hBd HCd hzd ⊢
        clear hB HC hz hcell
        go_wp2_with (fail)
        refine (CT.out _ (hk.below hBd)).mono ?_
        rintro e w4 ⟨rfl, hb4⟩
        go_wp2
        refine ⟨⟨k + 1, by omega, by go_num, Lib.hid (fun j y hj hy => ?_), below_then hBd hBd.size hb4, fun j y hy => (hb4.cell hzd).trans (HCd.out j y hy), Nat.lt_of_lt_of_le hzd hb4.size⟩, by simp [intOf]; omega⟩
        by_cases hjk : j < k
        · exact HI.out j y hjk hy
        · obtain rfl : j = k := by omega
          rw [HX.out] at hy
          cases hy
          exact HF.out
      | false =>
        have hn : foN x.data.toList = none := by cases h : foN x.data.toList with
          | none => rfl
          | some y => rw [h] at hf; cases hf
        have hbad : eqT (listN (lineL x.data.toList ++ [36, 120])) (listN [120]) = 0 := by
          rw [listN_bad _ hn]
          have := k4
          cases h : listN [120] with
          | none => rw [h] at this; cases this
          | some y => rfl
        have hll := lineL_length x.data.toList
        rw [dlen] at hll
        have CB := Lib.hid (callL (lineL x.data.toList ++ [36, 120]) [120] 0 (by simp; omega) (by simp) hbad)
        simp only [hf, Bool.false_eq_true, if_false] at CT
        have CT := Lib.hid CT
        have CL := Lib.hid CL
        clear hf hn hbad HX
        go_wp2
        go_still_tail 8, (by kernel_rfl)
        change wpList _ _ _ _ _ wr.drew
        have hBd : Below w.heap.size w wr.drew := hB.drew
        have hcd : wr.drew.cell? ⟨w3.heap.size, k, none⟩ = some (.string x) := hcell
        have hzd : w3.heap.size < wr.drew.heap.size := hz
        generalize wr.drew = wd at hBd hcd hzd ⊢
        clear hB HC hz hcell
        go_wp2_with (fail)
        refine (CT.out _ (hk.below hBd)).mono ?_
        rintro e w4 ⟨rfl, hb4⟩
        have hc4 : w4.cell? ⟨w3.heap.size, k, none⟩ = some (.string x) := (hb4.cell hzd).trans hcd
        replace hBd := below_then hBd hBd.size hb4
        clear hb4 hcd hzd
        go_wp2_with (fail)
        refine (CL.out _).mono ?_
        rintro e w5 ⟨rfl, hb5⟩
        replace hBd := below_then hBd hBd.size hb5
        clear hb5 hc4
        go_wp2_with (fail)
        refine (CB.out _ (hk.below hBd)).mono ?_
        rintro e w6 ⟨rfl, hb6⟩
        go_wp2
        go_ret
        exact ⟨rfl, below_then hBd hBd.size hb6⟩
    · obtain rfl : k = 4 := by omega
      have hI := HI.out
      obtain ⟨x, hx⟩ := Option.isSome_iff_exists.1 (hI 0 a (by omega) rfl)
      obtain ⟨y, hy⟩ := Option.isSome_iff_exists.1 (hI 1 b (by omega) rfl)
      obtain ⟨z, hz⟩ := Option.isSome_iff_exists.1 (hI 2 c (by omega) rfl)
      obtain ⟨t, ht⟩ := Option.isSome_iff_exists.1 (hI 3 d (by omega) rfl)
      clear HI hI hC
      have la := lineL_length a.data.toList
      have lb := lineL_length b.data.toList
      have lc := lineL_length c.data.toList
      have ld := lineL_length d.data.toList
      rw [dlen] at la lb lc ld
      have CA := Lib.hid (fun W => law_line a W (by omega))
      have CB := Lib.hid (fun W => law_line b W (by omega))
      have CC := Lib.hid (fun W => law_line c W (by omega))
      have CD := Lib.hid (fun W => law_line d W (by omega))
      have E1 := Lib.hid (callT a c (if x = z then 2 else 0) (by omega) (by omega) (by rw [hx, hz]; rfl))
      have E2 := Lib.hid (callT b d (if y = t then 2 else 0) (by omega) (by omega) (by rw [hy, ht]; rfl))
      have E3 := Lib.hid (callL (lineL a.data.toList ++ 36 :: lineL b.data.toList) (lineL c.data.toList ++ 36 :: lineL d.data.toList) (if x = z ∧ y = t then 2 else 0) (by simp; omega) (by simp; omega) (by
        rw [listN_pair _ _ _ _ hx hy, listN_pair _ _ _ _ hz ht]
        simp only [eqT, pair_inj]))
      have E4 := Lib.hid (callL (lineL a.data.toList ++ 36 :: lineL b.data.toList) (lineL a.data.toList) 0 (by simp; omega) (by omega) (by
        rw [listN_pair _ _ _ _ hx hy, listN_line, hx]
        simp only [eqT, Option.map_some, if_neg (pair_one x y x)]))
      have E5 := Lib.hid (callL (lineL a.data.toList) (lineL c.data.toList) (if x = z then 2 else 0) (by omega) (by omega) (by
        rw [listN_line, listN_line, hx, hz]
        simp only [eqT, Option.map_some]
        by_cases h : x = z
        · rw [if_pos h, if_pos (by rw [h])]
        · rw [if_neg h, if_neg (fun e => h (escN_inj e))]))
      clear hx hy hz ht
      have TR := Lib.hid (fun (q : Bool) (W : World) => law_truth q W)
      by_cases hxz : x = z
      · by_cases hyt : y = t
        all_goals
            simp only [hxz, hyt, and_true, and_false, if_true, if_false] at E1 E2 E3 E5
            clear hxz hyt
            go_wp2_with (fail)
            refine (CA.out _).mono ?_
            rintro e w10 ⟨rfl, hb⟩
            replace hB := below_then hB hB.size hb
            clear hb
            go_wp2_with (fail)
            refine (CB.out _).mono ?_
            rintro e w11 ⟨rfl, hb⟩
            replace hB := below_then hB hB.size hb
            clear hb
            go_wp2_with (fail)
            refine (CC.out _).mono ?_
            rintro e w12 ⟨rfl, hb⟩
            replace hB := below_then hB hB.size hb
            clear hb
            go_wp2_with (fail)
            refine (CD.out _).mono ?_
            rintro e w13 ⟨rfl, hb⟩
            replace hB := below_then hB hB.size hb
            clear hb
            go_wp2_with (fail)
            refine (E1.out _ (hk.below hB)).mono ?_
            rintro e w14 ⟨rfl, hb⟩
            replace hB := below_then hB hB.size hb
            clear hb
            go_wp2_with (fail)
            refine (E2.out _ (hk.below hB)).mono ?_
            rintro e w15 ⟨rfl, hb⟩
            replace hB := below_then hB hB.size hb
            clear hb
            go_wp2_with (fail)
            refine (E3.out _ (hk.below hB)).mono ?_
            rintro e w16 ⟨rfl, hb⟩
            replace hB := below_then hB hB.size hb
            clear hb
            go_wp2_with (fail)
            refine (TR.out _ _).mono ?_
            rintro e w20 ⟨rfl, rfl⟩
            go_wp2_with (fail)
            refine (CA.out _).mono ?_
            rintro e w21 ⟨rfl, hb⟩
            replace hB := below_then hB hB.size hb
            clear hb
            go_wp2_with (fail)
            refine (E4.out _ (hk.below hB)).mono ?_
            rintro e w22 ⟨rfl, hb⟩
            replace hB := below_then hB hB.size hb
            clear hb
            go_wp2_with (fail)
            refine (CA.out _).mono ?_
            rintro e w23 ⟨rfl, hb⟩
            replace hB := below_then hB hB.size hb
            clear hb
            go_wp2_with (fail)
            refine (CC.out _).mono ?_
            rintro e w24 ⟨rfl, hb⟩
            replace hB := below_then hB hB.size hb
            clear hb
            go_wp2_with (fail)
            refine (E5.out _ (hk.below hB)).mono ?_
            rintro e w25 ⟨rfl, hb⟩
            replace hB := below_then hB hB.size hb
            clear hb
            go_wp2_with (fail)
            refine (E1.out _ (hk.below hB)).mono ?_
            rintro e w26 ⟨rfl, hb⟩
            replace hB := below_then hB hB.size hb
            clear hb
            go_wp2
            go_ret
            exact ⟨rfl, hB⟩
      · simp only [hxz, false_and, if_false] at E1 E3 E5
        clear hxz E2
        all_goals
            go_wp2_with (fail)
            refine (CA.out _).mono ?_
            rintro e w10 ⟨rfl, hb⟩
            replace hB := below_then hB hB.size hb
            clear hb
            go_wp2_with (fail)
            refine (CB.out _).mono ?_
            rintro e w11 ⟨rfl, hb⟩
            replace hB := below_then hB hB.size hb
            clear hb
            go_wp2_with (fail)
            refine (CC.out _).mono ?_
            rintro e w12 ⟨rfl, hb⟩
            replace hB := below_then hB hB.size hb
            clear hb
            go_wp2_with (fail)
            refine (CD.out _).mono ?_
            rintro e w13 ⟨rfl, hb⟩
            replace hB := below_then hB hB.size hb
            clear hb
            go_wp2_with (fail)
            refine (E1.out _ (hk.below hB)).mono ?_
            rintro e w14 ⟨rfl, hb⟩
            replace hB := below_then hB hB.size hb
            clear hb
            go_wp2_with (fail)
            refine (E3.out _ (hk.below hB)).mono ?_
            rintro e w15 ⟨rfl, hb⟩
            replace hB := below_then hB hB.size hb
            clear hb
            go_wp2_with (fail)
            refine (TR.out _ _).mono ?_
            rintro e w20 ⟨rfl, rfl⟩
            go_wp2_with (fail)
            refine (CA.out _).mono ?_
            rintro e w21 ⟨rfl, hb⟩
            replace hB := below_then hB hB.size hb
            clear hb
            go_wp2_with (fail)
            refine (E4.out _ (hk.below hB)).mono ?_
            rintro e w22 ⟨rfl, hb⟩
            replace hB := below_then hB hB.size hb
            clear hb
            go_wp2_with (fail)
            refine (CA.out _).mono ?_
            rintro e w23 ⟨rfl, hb⟩
            replace hB := below_then hB hB.size hb
            clear hb
            go_wp2_with (fail)
            refine (CC.out _).mono ?_
            rintro e w24 ⟨rfl, hb⟩
            replace hB := below_then hB hB.size hb
            clear hb
            go_wp2_with (fail)
            refine (E5.out _ (hk.below hB)).mono ?_
            rintro e w25 ⟨rfl, hb⟩
            replace hB := below_then hB hB.size hb
            clear hb
            go_wp2_with (fail)
            refine (E1.out _ (hk.below hB)).mono ?_
            rintro e w26 ⟨rfl, hb⟩
            replace hB := below_then hB hB.size hb
            clear hb
            go_wp2
            go_ret
            exact ⟨rfl, hB⟩
end Go.Proofs.YtmgfikfcnhhnhaaDoor
