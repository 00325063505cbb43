/- match: Normal, Contains. -/
import Derived.Test.YtmgfikfcnhhnhaaGreatDoorPartsW
namespace Go.Proofs.YtmgfikfcnhhnhaaGreatDoor
open Go.RowKit

set_option maxRecDepth 100000 in
theorem match_Normal {T : TypeId} (K : KindC T) (s : Nat) (hs : s < 15) (l : List UInt8) (w : World) (hl : l.length ≤ LIM) (hx : MaxL w) (hk : KindAt s T w) :
    Calls Tryz.prog 13 #[.int .i64 (s : Int), .string (mkB l)] w fun e w' => e = .returned (NRv (K.nrm l)) ∧ Below w.heap.size w w' := by
  have HO := Lib.hid (fun W hW => of_k s T W hs hW)
  have CN := Lib.hid (fun W hW => K.cn l W hl hW)
  have hmn := K.mn
  have hen := K.en
  rcases hr : K.nrm l with _ | n
  all_goals
    rw [hr] at CN
    clear hr
    simp only [NRv] at CN
    go_enter Tryz.func13, Tryz.ntmps13
    go_wp2_with (fail)
    refine (HO.out _ hk).mono ?_
    rintro e w1 ⟨rfl, rfl⟩
    go_wp2_with (fail)
    refine (CN.out _ hx).mono ?_
    rintro e w2 ⟨rfl, hb⟩
    go_wp2
    go_ret2
    exact ⟨rfl, hb⟩

theorem PatPost.some {p : Pat} {w : World} {e : Ending} {w' : World} (h : PatPost (some p) w e w') : ∃ v, e = .returned (.tuple #[.agg #[.string (mkB p.1), v, .string (mkB p.2.2)], .bool true]) ∧ RowS w' v p.2.1 ∧ Below w.heap.size w w' := h
theorem PatPost.none {w : World} {e : Ending} {w' : World} (h : PatPost none w e w') : e = .returned (.tuple #[.agg #[.string ⟨#[]⟩, .slice none 0 0, .string ⟨#[]⟩], .bool false]) ∧ Below w.heap.size w w' := h
theorem RowS.slice {w : World} {v : Value} {xs : List (List UInt8)} (h : RowS w v xs) : ∃ a c, v = .slice a xs.length c := by
  obtain ⟨a, c, rfl, _⟩ := h
  exact ⟨a, c, rfl⟩

theorem con_none {T : TypeId} (K : KindC T) (v : List UInt8) (p : Pat) (h : partsN K p = none) : conN K v p = 1 := by simp [conN, h]
theorem con_bad {T : TypeId} (K : KindC T) (v : List UInt8) (p q : Pat) (h : partsN K p = some q) (h2 : K.nrm v = none) : conN K v p = 0 := by simp [conN, h, h2]
theorem con_fits {T : TypeId} (K : KindC T) (v n : List UInt8) (p q : Pat) (h : partsN K p = some q) (h2 : K.nrm v = some n) : conN K v p = if fitsN n q = true then 2 else 0 := by simp [conN, h, h2]
theorem parts_lim {T : TypeId} (K : KindC T) (p q : Pat) (h : partsN K p = some q) (h1 : p.1.length ≤ LIM) (h2 : p.2.2.length ≤ LIM) : q.1.length ≤ LIM ∧ q.2.2.length ≤ LIM := by
  unfold partsN at h
  split at h
  · cases h
  · split at h
    · cases h
      exact ⟨Nat.le_trans (K.l1 _) (Nat.le_trans (K.lc _) h1), Nat.le_trans (K.l2 _) (Nat.le_trans (K.lc _) h2)⟩
    · cases h

set_option maxRecDepth 100000 in
set_option maxHeartbeats 2000000 in
theorem match_Contains {T : TypeId} (K : KindC T) (s : Nat) (hs : s < 15) (v i f : List UInt8) (any : List (List UInt8)) (r : Value) (w : World) (hv : v.length ≤ LIM) (hi : i.length ≤ LIM) (hf : f.length ≤ LIM) (hx : MaxL w) (hk : KindAt s T w) (hR : RowS w r any) :
    Calls Tryz.prog 7 #[.int .i64 (s : Int), .string (mkB v), .agg #[.string (mkB i), r, .string (mkB f)]] w fun e w' => e = .returned (.int .i64 (conN K v (i, any, f))) ∧ Below w.heap.size w w' := by
  have CP := Lib.hid (fun W h1 h2 h3 => match_Parts K s hs i f any r W hi hf h1 h2 h3)
  have CN := Lib.hid (fun W h1 h2 => match_Normal K s hs v W hv h1 h2)
  obtain ⟨a0, c0, rfl⟩ := hR.slice
  rcases hp : partsN K (i, any, f) with _ | q
  · have HE := Lib.hid (con_none K v _ hp)
    rw [hp] at CP
    clear hp CN
    go_enter Tryz.func7, Tryz.ntmps7
    have hB0 := (Below.refl w.heap.size w).alloc (Nat.le_refl _) (.cells #[.string (mkB i), .slice a0 any.length c0, .string (mkB f)] 24)
    go_wp2_with (fail)
    refine (CP.out _ (hx.below hB0) (hk.below hB0) (hR.below hB0)).mono ?_
    rintro e w1 h1
    obtain ⟨rfl, hb⟩ := h1.none
    have hB := below_then hB0 hB0.size hb
    clear hb h1
    go_wp2
    go_ret
    rw [HE.out]
    exact ⟨rfl, hB.alloc hB.size _⟩
  · have hlim := parts_lim K _ q hp hi hf
    rcases hn : K.nrm v with _ | n
    · have HE := Lib.hid (con_bad K v _ q hp hn)
      rw [hp] at CP
      rw [hn] at CN
      simp only [NRv] at CN
      clear hp hn hlim
      go_enter Tryz.func7, Tryz.ntmps7
      have hB0 := (Below.refl w.heap.size w).alloc (Nat.le_refl _) (.cells #[.string (mkB i), .slice a0 any.length c0, .string (mkB f)] 24)
      go_wp2_with (fail)
      refine (CP.out _ (hx.below hB0) (hk.below hB0) (hR.below hB0)).mono ?_
      rintro e w1 h1
      obtain ⟨v1, rfl, hR1, hb⟩ := h1.some
      obtain ⟨a1, c1, rfl⟩ := hR1.slice
      have hB1 := below_then hB0 hB0.size hb
      clear hb h1
      have hB2 := hB1.alloc hB1.size (.cells #[.string (mkB q.1), .slice a1 q.2.1.length c1, .string (mkB q.2.2)] 24)
      go_wp2_with (fail)
      refine (CN.out _ (hx.below hB2) (hk.below hB2)).mono ?_
      rintro e w2 ⟨rfl, hb⟩
      go_wp2
      go_ret
      rw [HE.out]
      exact ⟨rfl, below_then hB2 hB2.size hb⟩
    · have HE := Lib.hid (con_fits K v n _ q hp hn)
      have hnl : n.length ≤ LIM := Nat.le_trans (K.ln v n hn) hv
      have CF := Lib.hid (fun r2 W h1 h2 => match_Fits n q.1 q.2.2 q.2.1 r2 W hnl hlim.1 hlim.2 h1 h2)
      rw [hp] at CP
      rw [hn] at CN
      simp only [NRv] at CN
      clear hp hn hlim hnl
      generalize fitsN n (q.1, q.2.1, q.2.2) = z at CF HE
      cases z
      all_goals
        go_enter Tryz.func7, Tryz.ntmps7
        have hB0 := (Below.refl w.heap.size w).alloc (Nat.le_refl _) (.cells #[.string (mkB i), .slice a0 any.length c0, .string (mkB f)] 24)
        go_wp2_with (fail)
        refine (CP.out _ (hx.below hB0) (hk.below hB0) (hR.below hB0)).mono ?_
        rintro e w1 h1
        obtain ⟨v1, rfl, hR1, hb⟩ := h1.some
        obtain ⟨a1, c1, rfl⟩ := hR1.slice
        have hB1 := below_then hB0 hB0.size hb
        have hB12 := (Below.refl w1.heap.size w1).alloc (Nat.le_refl _) (.cells #[.string (mkB q.1), .slice a1 q.2.1.length c1, .string (mkB q.2.2)] 24)
        have hR2 := hR1.below hB12
        have P7 := Pbox.new w1 (.string (mkB q.1)) (.slice a1 q.2.1.length c1) (.string (mkB q.2.2))
        have hB2 := hB1.alloc hB1.size (.cells #[.string (mkB q.1), .slice a1 q.2.1.length c1, .string (mkB q.2.2)] 24)
        clear hb h1
        go_wp2_with (fail)
        refine (CN.out _ (hx.below hB2) (hk.below hB2)).mono ?_
        rintro e w2 ⟨rfl, hb⟩
        have hR3 := hR2.below hb
        have Q7 := P7.below hb
        have hB3 := below_then hB2 hB2.size hb
        have c70 := Q7.c0
        have c71 := Q7.c1
        have c72 := Q7.c2
        clear hb P7 hB12 hR1 hR2 hB1 hB2
        go_wp2_with (fail)
        refine (CF.out _ _ (hx.below hB3) hR3).mono ?_
        rintro e w3 ⟨rfl, hb⟩
        go_wp2
        go_ret
        rw [HE.out]
        exact ⟨rfl, below_then hB3 hB3.size hb⟩
end Go.Proofs.YtmgfikfcnhhnhaaGreatDoor
