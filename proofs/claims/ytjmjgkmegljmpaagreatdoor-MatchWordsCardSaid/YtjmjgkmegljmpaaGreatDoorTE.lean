/- MatchWords: the law's own walk. -/
import Derived.Test.YtjmjgkmegljmpaaGreatDoorTD
namespace Go.Proofs.YtjmjgkmegljmpaaGreatDoor
open Go.RowKit

theorem mk_one (c : UInt8) (a : List UInt8) : (⟨#[c]⟩ : ByteArray) ++ mkB a = mkB (c :: a) := by
  apply ByteArray.ext
  apply Array.toList_inj.1
  rw [ByteArray.data_append, Array.toList_append]
  rfl
theorem mk_app (a b : List UInt8) : mkB a ++ mkB b = mkB (a ++ b) := by
  apply ByteArray.ext
  apply Array.toList_inj.1
  rw [ByteArray.data_append, Array.toList_append]
  rfl
theorem mk_end (a : List UInt8) (c : UInt8) : mkB a ++ (⟨#[c]⟩ : ByteArray) = mkB (a ++ [c]) := mk_app a [c]
theorem mk_end2 (a : List UInt8) (c d : UInt8) : mkB a ++ (⟨#[c, d]⟩ : ByteArray) = mkB (a ++ [c, d]) := mk_app a [c, d]
attribute [local go_sem] mk_one mk_app mk_end mk_end2 mkB_size

/-- ByRule at the law's value. -/
theorem callV (S : Int) (hS : ∀ W, Calls Tryz.prog 15 #[.int .i64 30, .int .i64 S] W fun e w' => e = .returned (.bool true) ∧ Below W.heap.size W w')
    (x y z A : List UInt8) (n : Int) (hx : Low x) (hy : Low y) (hz : Low z) (h0 : x ≠ []) (h1 : y ≠ []) (h2 : z ≠ []) (lx : x.length ≤ 21) (ly : y.length ≤ 21) (lz : z.length ≤ 21) (lA : A.length ≤ 100)
    (h : byWord (32 :: (swap x ++ 9 :: (y ++ 32 :: 32 :: z))) A = n) (W : World) (hk : KindsF W) (hm : MaxL W) :
    Calls Tryz.prog 8 #[.int .i64 30, .int .i64 S, .string (mkB (32 :: (swap x ++ 9 :: (y ++ 32 :: 32 :: z)))), .string (mkB A)] W fun e w' => e = .returned (.int .i64 n) ∧ Below W.heap.size W w' := by
  have ls : (swap x).length ≤ 21 := by simpa [swap] using lx
  have hc := byRule30 S hS (mkB (32 :: (swap x ++ 9 :: (y ++ 32 :: 32 :: z)))) (mkB A) W (by rw [mkB_size]; simp; omega) (by rw [mkB_size]; omega) hk hm (fun m hm => by
    rw [mkB_data, foN_v x y z hx hy hz h0 h1 h2] at hm
    injection hm with hm
    subst hm
    simp
    omega)
  rw [mkB_data, mkB_data, h] at hc
  exact hc
theorem callE (A : List UInt8) (hA : Low A) (h0 : A ≠ []) (lA : A.length ≤ 100) (W : World) (hk : KindsF W) (hm : MaxL W) :
    Calls Tryz.prog 8 #[.int .i64 30, .int .i64 1, .string ⟨#[]⟩, .string (mkB A)] W fun e w' => e = .returned (.int .i64 0) ∧ Below W.heap.size W w' := by
  have hc := byRule30 1 suits30_1 (mkB []) (mkB A) W (by rw [mkB_size]; simp) (by rw [mkB_size]; omega) hk hm (fun m hm => by
    rw [mkB_data] at hm
    cases hm)
  rw [mkB_data, mkB_data, r7 A hA h0] at hc
  exact hc
theorem mk_ne (u v : List UInt8) (h : u ≠ v) : ((mkB u).toList == (mkB v).toList) = false := by
  rw [mkB_toList, mkB_toList]
  simpa using h
theorem mk_same (u v : List UInt8) (h : u = v) : ((mkB u).toList == (mkB v).toList) = true := by
  rw [mkB_toList, mkB_toList]
  simpa using h

set_option maxRecDepth 100000 in
set_option maxHeartbeats 4000000 in
theorem law_words (a b c : ByteArray) (w : World) (ha : a.size ≤ 9223372036854775807) (hb : b.size ≤ 9223372036854775807) (hc : c.size ≤ 9223372036854775807) (hk : KindsF w) (hm : MaxL w) :
    Calls Tryz.prog 4 #[.string a, .string b, .string c] w fun e w' => e = .returned (.bool true) ∧ Below w.heap.size w w' := by
  have HA := Lib.hid (fun W => law_label a W ha)
  have HB := Lib.hid (fun W => law_label b W hb)
  have HC := Lib.hid (fun W => law_label c W hc)
  have LA := low_lab a.data.toList
  have LB := low_lab b.data.toList
  have LC := low_lab c.data.toList
  have ZA : (lab a.data.toList).length ≤ 21 := by simp [lab]; omega
  have ZB : (lab b.data.toList).length ≤ 21 := by simp [lab]; omega
  have ZC : (lab c.data.toList).length ≤ 21 := by simp [lab]; omega
  have NA : lab a.data.toList ≠ [] := by simp [lab]
  have NB : lab b.data.toList ≠ [] := by simp [lab]
  have NC : lab c.data.toList ≠ [] := by simp [lab]
  generalize lab a.data.toList = x at *
  generalize lab b.data.toList = y at *
  generalize lab c.data.toList = z at *
  have HS := Lib.hid (fun W => law_swapped (mkB x) W (by rw [mkB_size]; omega))
  have ZS : (swap x).length ≤ 21 := by simpa [swap] using ZA
  have e1 := mk_ne (x ++ y) x (by simpa using NB)
  have e2 := mk_ne (x ++ y) y (by simpa using NA)
  have C1 := Lib.hid (callV 1 suits30_1 x y z (x ++ [32]) 2 LA LB LC NA NB NC ZA ZB ZC (by simp; omega) (r1 x y z LA LB LC NA NB NC))
  have C2 := Lib.hid (callV 1 suits30_1 x y z (swap y) 2 LA LB LC NA NB NC ZA ZB ZC (by simp [swap]; omega) (r2 x y z LA LB LC NA NB NC))
  have C3 := Lib.hid (callV 2 suits30_2 x y z z 2 LA LB LC NA NB NC ZA ZB ZC (by omega) (r3 x y z LA LB LC NA NB NC))
  have C5 := Lib.hid (callV 1 suits30_1 x y z (x ++ 32 :: y) 1 LA LB LC NA NB NC ZA ZB ZC (by simp; omega) (r5 x y LA LB NA NB _))
  have C6 := Lib.hid (callV 1 suits30_1 x y z [32, 32] 1 LA LB LC NA NB NC ZA ZB ZC (by simp) (r6 _))
  have C7 := Lib.hid (callE x LA NA (by omega))
  have q4 := r4 x y z LA LB LC NA NB NC
  have C4 : ∃ (q : Bool), ((mkB (x ++ y)).toList == (mkB z).toList) = q ∧ Hid (∀ W, KindsF W → MaxL W → Calls Tryz.prog 8 #[.int .i64 30, .int .i64 1, .string (mkB (32 :: (swap x ++ 9 :: (y ++ 32 :: 32 :: z)))), .string (mkB (x ++ y))] W fun e w' => e = .returned (.int .i64 (if q = true then 2 else 0)) ∧ Below W.heap.size W w') := by
    by_cases hz : x ++ y = z
    · refine ⟨true, mk_same _ _ hz, callV 1 suits30_1 x y z (x ++ y) _ LA LB LC NA NB NC ZA ZB ZC (by simp; omega) ?_⟩
      rw [q4, if_pos (Or.inr (Or.inr hz))]
      rfl
    · refine ⟨false, mk_ne _ _ hz, callV 1 suits30_1 x y z (x ++ y) _ LA LB LC NA NB NC ZA ZB ZC (by simp; omega) ?_⟩
      rw [q4, if_neg]
      · rfl
      · rintro (h | h | h)
        · exact NB (by simpa using h)
        · exact NA (by simpa using h)
        · exact hz h
  obtain ⟨q, e3, C4⟩ := C4
  clear q4 LA LB LC NA NB NC
  have HS2 := Lib.hid (fun W => law_swapped (mkB y) W (by rw [mkB_size]; omega))
  cases q
  all_goals
    simp only [Bool.false_eq_true, if_false, if_true] at C4
    go_enter Tryz.func4, Tryz.ntmps4
    go_wp2_with (fail)
    refine (HA.out _).mono ?_
    rintro e w1 ⟨rfl, h1⟩
    go_wp2_with (fail)
    refine (HB.out _).mono ?_
    rintro e w2 ⟨rfl, h2⟩
    have hB2 := below_then h1 h1.size h2
    go_wp2_with (fail)
    refine (HC.out _).mono ?_
    rintro e w3 ⟨rfl, h3⟩
    have hB3 := below_then hB2 hB2.size h3
    clear h1 h2 hB2 h3
    go_wp2_with (fail)
    refine (HS.out _).mono ?_
    rintro e w4 ⟨rfl, h4⟩
    have hB := below_then hB3 hB3.size h4
    clear h4 hB3
    rw [mkB_data]
    go_wp2_with (fail)
    refine (C1.out _ (hk.below hB) (hm.below hB)).mono ?_
    rintro e v1 ⟨rfl, k1⟩
    replace hB := below_then hB hB.size k1
    clear k1
    go_wp2_with (fail)
    refine (HS2.out _).mono ?_
    rintro e v2 ⟨rfl, k2⟩
    replace hB := below_then hB hB.size k2
    clear k2
    rw [mkB_data]
    go_wp2_with (fail)
    refine (C2.out _ (hk.below hB) (hm.below hB)).mono ?_
    rintro e v3 ⟨rfl, k3⟩
    replace hB := below_then hB hB.size k3
    clear k3
    go_wp2_with (fail)
    refine (C3.out _ (hk.below hB) (hm.below hB)).mono ?_
    rintro e v4 ⟨rfl, k4⟩
    replace hB := below_then hB hB.size k4
    clear k4
    go_wp2_with (fail)
    refine (C4.out _ (hk.below hB) (hm.below hB)).mono ?_
    rintro e v5 ⟨rfl, k5⟩
    replace hB := below_then hB hB.size k5
    clear k5
    go_wp2_with (fail)
    refine (law_truth _ _).mono ?_
    rintro e v6 ⟨rfl, rfl⟩
    go_wp2_with (fail)
    refine (C5.out _ (hk.below hB) (hm.below hB)).mono ?_
    rintro e v7 ⟨rfl, k7⟩
    replace hB := below_then hB hB.size k7
    clear k7
    go_wp2_with (fail)
    refine (C6.out _ (hk.below hB) (hm.below hB)).mono ?_
    rintro e v8 ⟨rfl, k8⟩
    replace hB := below_then hB hB.size k8
    clear k8
    go_wp2_with (fail)
    refine (C7.out _ (hk.below hB) (hm.below hB)).mono ?_
    rintro e v9 ⟨rfl, k9⟩
    replace hB := below_then hB hB.size k9
    clear k9
    go_wp2
    go_ret
    exact ⟨rfl, hB⟩
end Go.Proofs.YtjmjgkmegljmpaaGreatDoor
