/- match: ByRule at a rule of pieces. -/
import Derived.Test.YtmgfikfcnhhnhaaGreatDoorRuleW
namespace Go.Proofs.YtmgfikfcnhhnhaaGreatDoor
open Go.RowKit
attribute [local go_sem] field_2 field_3

theorem byP_no {T : TypeId} (K : KindC T) (v t : List UInt8) (h : assP K t = false) : byP K v t = 1 := by
  unfold assP at h
  unfold byP
  split
  · rfl
  · rename_i p hp
    rw [hp] at h
    simp only at h
    exact con_none K v p (by simpa using h)
theorem byP_bad {T : TypeId} (K : KindC T) (v t : List UInt8) (h : assP K t = true) (hv : K.nrm v = none) : byP K v t = 0 := by
  unfold assP at h
  unfold byP
  split
  · rename_i hp
    rw [hp] at h
    cases h
  · rename_i p hp
    rw [hp] at h
    obtain ⟨q, hq⟩ := Option.isSome_iff_exists.1 h
    exact con_bad K v p q hq hv
theorem byP_yes {T : TypeId} (K : KindC T) (v t n : List UInt8) (h : assP K t = true) (hv : K.nrm v = some n) : byP K v t = if pieP K v t = true then 2 else 0 := by
  unfold assP at h
  unfold byP pieP
  split
  · rename_i hp
    rw [hp] at h
    cases h
  · rename_i p hp
    rw [hp] at h
    obtain ⟨q, hq⟩ := Option.isSome_iff_exists.1 h
    have hc := con_fits K v n p q hq hv
    simp only [hp, hc]
    by_cases hf : fitsN n q = true <;> simp [hf]

set_option maxRecDepth 100000 in
set_option maxHeartbeats 2000000 in
theorem match_ByRule {T : TypeId} (K : KindC T) (r : Int) (s : Nat) (hs : s < 15) (R : RuleP r s) (v t : List UInt8) (w : World) (hv : v.length ≤ LIM) (ht : t.length ≤ 268435456) (hx : MaxL w) (hk : KindAt s T w) :
    Calls Tryz.prog 6 #[.int .i64 r, .int .i64 (s : Int), .string (mkB v), .string (mkB t)] w fun e w' => e = .returned (.int .i64 (byP K v t)) ∧ Below w.heap.size w w' := by
  have RS := Lib.hid R.suits
  have RR := Lib.hid R.row
  have CA := Lib.hid (fun W h1 h2 => match_Asserts K r s hs R t W ht h1 h2)
  have CR := Lib.hid (fun W h1 h2 => match_reads K r s hs R v W hv h1 h2)
  have CP := Lib.hid (fun W h1 h2 => match_pieces K s hs v t W hv ht h1 h2)
  cases ha : assP K t with
  | false =>
    have HE := Lib.hid (byP_no K v t ha)
    rw [ha] at CA
    clear ha CR CP RR
    go_enter Tryz.func6, Tryz.ntmps6
    go_wp2_with (fail)
    refine (RS.out _).mono ?_
    rintro e w1 ⟨rfl, hB1⟩
    go_wp2_with (fail)
    refine (CA.out _ (hx.below hB1) (hk.below hB1)).mono ?_
    rintro e w2 ⟨rfl, hb⟩
    have hB2 := below_then hB1 hB1.size hb
    go_wp2
    go_ret
    rw [HE.out]
    exact ⟨rfl, hB2⟩
  | true =>
    rw [ha] at CA
    rcases hn : K.nrm v with _ | n
    · have HE := Lib.hid (byP_bad K v t ha hn)
      rw [hn] at CR
      clear ha hn CP RR
      go_enter Tryz.func6, Tryz.ntmps6
      go_wp2_with (fail)
      refine (RS.out _).mono ?_
      rintro e w1 ⟨rfl, hB1⟩
      go_wp2_with (fail)
      refine (CA.out _ (hx.below hB1) (hk.below hB1)).mono ?_
      rintro e w2 ⟨rfl, hb⟩
      have hB2 := below_then hB1 hB1.size hb
      clear hB1 hb
      go_wp2_with (fail)
      refine (CR.out _ (hx.below hB2) (hk.below hB2)).mono ?_
      rintro e w3 ⟨rfl, hb⟩
      go_wp2
      go_ret
      rw [HE.out]
      exact ⟨rfl, below_then hB2 hB2.size hb⟩
    · have HE := Lib.hid (byP_yes K v t n ha hn)
      rw [hn] at CR
      clear ha hn
      generalize pieP K v t = z at CP HE
      cases z
      all_goals
        go_enter Tryz.func6, Tryz.ntmps6
        go_wp2_with (fail)
        refine (RS.out _).mono ?_
        rintro e w1 ⟨rfl, hB1⟩
        go_wp2_with (fail)
        refine (CA.out _ (hx.below hB1) (hk.below hB1)).mono ?_
        rintro e w2 ⟨rfl, hb⟩
        have hB2 := below_then hB1 hB1.size hb
        clear hB1 hb
        go_wp2_with (fail)
        refine (CR.out _ (hx.below hB2) (hk.below hB2)).mono ?_
        rintro e w3 ⟨rfl, hb⟩
        have hB3 := below_then hB2 hB2.size hb
        clear hB2 hb
        go_wp2_with (fail)
        refine (RR.out _).mono ?_
        rintro e w4 ⟨⟨a, b, rfl⟩, hb⟩
        have hB4 := below_then hB3 hB3.size hb
        clear hB3 hb
        go_wp2_with (fail)
        refine (RR.out _).mono ?_
        rintro e w5 ⟨⟨a2, b2, rfl⟩, hb⟩
        have hB5 := below_then hB4 hB4.size hb
        clear hB4 hb
        go_wp2_with (fail)
        refine (CP.out _ (hx.below hB5) (hk.below hB5)).mono ?_
        rintro e w6 ⟨rfl, hb⟩
        go_wp2
        go_ret
        rw [HE.out]
        exact ⟨rfl, below_then hB5 hB5.size hb⟩
end Go.Proofs.YtmgfikfcnhhnhaaGreatDoor
