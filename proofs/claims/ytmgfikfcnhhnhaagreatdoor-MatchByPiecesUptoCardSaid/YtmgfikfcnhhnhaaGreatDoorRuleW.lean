/- match: pieces, Asserts, reads, ByRule at a rule of pieces. -/
import Derived.Test.YtmgfikfcnhhnhaaGreatDoorContW
import Derived.Test.YtmgfikfcnhhnhaaGreatDoorPatW
import Derived.Test.YtmgfikfcnhhnhaaGreatDoorRuleC
namespace Go.Proofs.YtmgfikfcnhhnhaaGreatDoor
open Go.RowKit

theorem unAll_mem (n : Nat) : ∀ (ps us : List (List UInt8)) (i : Nat), unAll n i ps = some us → ∀ u ∈ us, ∃ p ∈ ps, u.length ≤ p.length := by
  intro ps
  induction ps with
  | nil => intro us i h u hu; simp [unAll] at h; subst h; cases hu
  | cons p r ih =>
    intro us i h u hu
    rw [unAll_cons] at h
    split at h
    · cases h
    · obtain ⟨m, hm, h2⟩ := Option.bind_eq_some_iff.1 h
      obtain ⟨ys, hy, rfl⟩ := Option.map_eq_some_iff.1 h2
      rcases List.mem_cons.1 hu with rfl | hu
      · exact ⟨p, by simp, unE_len 42 [50, 97] p.length p _ (Nat.le_refl _) hm⟩
      · obtain ⟨q, hq, hl⟩ := ih ys _ hy u hu
        exact ⟨q, by simp [hq], hl⟩
theorem patN_lim (t : List UInt8) (p : Pat) (h : patN t = some p) (ht : t.length ≤ LIM) : p.1.length ≤ LIM ∧ p.2.2.length ≤ LIM := by
  unfold patN at h
  obtain ⟨us, hu, h2⟩ := Option.bind_eq_some_iff.1 h
  split at h2
  · cases h2
  · have hm : ∀ u ∈ us, u.length ≤ LIM := fun u hu2 => by
      obtain ⟨q, hq, hl⟩ := unAll_mem _ _ _ _ hu u hu2
      exact Nat.le_trans hl (Nat.le_trans (cutAt_tot 42 t q hq) ht)
    by_cases h3 : 2 ≤ us.length
    · obtain ⟨x, m, z, rfl⟩ := ends_some us h3
      rw [ends_of] at h2
      cases h2
      exact ⟨hm x (by simp), hm z (by simp)⟩
    · rcases us with _ | ⟨x, _ | ⟨y, r⟩⟩
      · simp [ends] at h2
      · simp [ends] at h2
      · exact absurd (by simp) h3



attribute [local go_sem] field_2 field_3

/-- What pieces answers. -/
def pieP {T : TypeId} (K : KindC T) (v t : List UInt8) : Bool := match patN t with
  | none => false
  | some p => decide (conN K v p = 2)

set_option maxRecDepth 100000 in
set_option maxHeartbeats 1000000 in
theorem match_pieces {T : TypeId} (K : KindC T) (s : Nat) (hs : s < 15) (v t : List UInt8) (w : World) (hv : v.length ≤ LIM) (ht : t.length ≤ 268435456) (hx : MaxL w) (hk : KindAt s T w) :
    Calls Tryz.prog 26 #[.int .i64 (s : Int), .string (mkB v), .string (mkB t)] w fun e w' => e = .returned (.bool (pieP K v t)) ∧ Below w.heap.size w w' := by
  have HP := Lib.hid (fun W hW => match_pattern t W ht hW)
  unfold pieP
  rcases hp : patN t with _ | p
  · rw [hp] at HP
    clear hp
    go_enter Tryz.func26, Tryz.ntmps26
    go_wp2_with (fail)
    refine (HP.out _ hx).mono ?_
    rintro e w1 h1
    obtain ⟨rfl, hb⟩ := h1.none
    clear h1
    go_wp2
    go_ret
    exact ⟨rfl, hb.alloc hb.size _⟩
  · have hlim := patN_lim t p hp (by unfold LIM; omega)
    have CC := Lib.hid (fun r W h1 h2 h3 => match_Contains K s hs v p.1 p.2.2 p.2.1 r W hv hlim.1 hlim.2 h1 h2 h3)
    rw [hp] at HP
    clear hp hlim
    simp only
    generalize conN K v p = c at CC
    by_cases hc : c = 2
    all_goals
      have hc2 := hc
      go_enter Tryz.func26, Tryz.ntmps26
      go_wp2_with (fail)
      refine (HP.out _ hx).mono ?_
      rintro e w1 h1
      obtain ⟨v1, rfl, hR1, hb⟩ := h1.some
      obtain ⟨a1, c1, rfl⟩ := hR1.slice
      have hB12 := (Below.refl w1.heap.size w1).alloc (Nat.le_refl _) (.cells #[.string (mkB p.1), .slice a1 p.2.1.length c1, .string (mkB p.2.2)] 24)
      have hR2 := hR1.below hB12
      have hB2 := hb.alloc hb.size (.cells #[.string (mkB p.1), .slice a1 p.2.1.length c1, .string (mkB p.2.2)] 24)
      clear h1 hb hB12 hR1
      go_wp2_with (fail)
      refine (CC.out _ _ (hx.below hB2) (hk.below hB2) hR2).mono ?_
      rintro e w3 ⟨rfl, hb⟩
      go_wp2
      go_ret
      exact ⟨ret_bool (by simp [hc2]), below_then hB2 hB2.size hb⟩

set_option maxRecDepth 100000 in
set_option maxHeartbeats 1000000 in
theorem match_reads {T : TypeId} (K : KindC T) (r : Int) (s : Nat) (hs : s < 15) (R : RuleP r s) (v : List UInt8) (w : World) (hv : v.length ≤ LIM) (hx : MaxL w) (hk : KindAt s T w) :
    Calls Tryz.prog 10 #[.int .i64 r, .string (mkB v)] w fun e w' => e = .returned (.bool (K.nrm v).isSome) ∧ Below w.heap.size w w' := by
  have CN := Lib.hid (fun W h1 h2 => match_Normal K s hs v W hv h1 h2)
  have RK := Lib.hid R.kind
  have RR := Lib.hid R.row
  rcases hr : K.nrm v with _ | n
  all_goals
    rw [hr] at CN
    simp only [NRv] at CN
    clear hr
    go_enter Tryz.func10, Tryz.ntmps10
    go_wp2_with (fail)
    refine (RK.out _).mono ?_
    rintro e w0 ⟨rfl, rfl⟩
    go_wp2_with (fail)
    refine (RR.out _).mono ?_
    rintro e w1 ⟨⟨a, b, rfl⟩, hb⟩
    go_wp2_with (fail)
    refine (CN.out _ (hx.below hb) (hk.below hb)).mono ?_
    rintro e w2 ⟨rfl, hb2⟩
    go_wp2
    go_ret
    exact ⟨rfl, below_then hb hb.size hb2⟩

set_option maxRecDepth 100000 in
set_option maxHeartbeats 2000000 in
theorem match_Asserts {T : TypeId} (K : KindC T) (r : Int) (s : Nat) (hs : s < 15) (R : RuleP r s) (t : List UInt8) (w : World) (ht : t.length ≤ 268435456) (hx : MaxL w) (hk : KindAt s T w) :
    Calls Tryz.prog 8 #[.int .i64 r, .string (mkB t)] w fun e w' => e = .returned (.bool (assP K t)) ∧ Below w.heap.size w w' := by
  have CN := Lib.hid (fun W h1 h2 => match_Normal K s hs t W (by unfold LIM; omega) h1 h2)
  have RK := Lib.hid R.kind
  have RR := Lib.hid R.row
  have RN := Lib.hid R.known
  have HP := Lib.hid (fun W hW => match_pattern t W ht hW)
  have HN : Hid (∃ a b, NRv (K.nrm t) = .tuple #[.string a, .bool b]) := Lib.hid (by
    rcases K.nrm t with _ | n
    · exact ⟨_, _, rfl⟩
    · exact ⟨_, _, rfl⟩)
  obtain ⟨na, nb, hnv⟩ := HN.out
  rw [hnv] at CN
  clear hnv HN
  unfold assP
  rcases hp : patN t with _ | p
  · rw [hp] at HP
    clear hp
    go_enter Tryz.func8, Tryz.ntmps8
    go_wp2_with (fail)
    refine (RN.out _).mono ?_
    rintro e w0 ⟨rfl, rfl⟩
    go_wp2_with (fail)
    refine (RR.out _).mono ?_
    rintro e w1 ⟨⟨a, b, rfl⟩, hB1⟩
    go_wp2_with (fail)
    refine (CN.out _ (hx.below hB1) (hk.below hB1)).mono ?_
    rintro e w2 ⟨rfl, hb⟩
    have hB2 := below_then hB1 hB1.size hb
    clear hB1 hb
    go_wp2_with (fail)
    refine (RK.out _).mono ?_
    rintro e w3 ⟨rfl, rfl⟩
    go_wp2_with (fail)
    refine (HP.out _ (hx.below hB2)).mono ?_
    rintro e w4 h1
    obtain ⟨rfl, hb⟩ := h1.none
    have hB := below_then hB2 hB2.size hb
    clear h1 hb
    go_wp2
    go_ret
    exact ⟨rfl, hB.alloc hB.size _⟩
  · have hlim := patN_lim t p hp (by unfold LIM; omega)
    have CP := Lib.hid (fun v W h1 h2 h3 => match_Parts K s hs p.1 p.2.2 p.2.1 v W hlim.1 hlim.2 h1 h2 h3)
    rw [hp] at HP
    clear hp hlim
    simp only
    rcases hq : partsN K p with _ | q
    all_goals
      rw [show (p.1, p.2.1, p.2.2) = p from rfl, hq] at CP
      clear hq
      go_enter Tryz.func8, Tryz.ntmps8
      go_wp2_with (fail)
      refine (RN.out _).mono ?_
      rintro e w0 ⟨rfl, rfl⟩
      go_wp2_with (fail)
      refine (RR.out _).mono ?_
      rintro e w1 ⟨⟨a, b, rfl⟩, hB1⟩
      go_wp2_with (fail)
      refine (CN.out _ (hx.below hB1) (hk.below hB1)).mono ?_
      rintro e w2 ⟨rfl, hb⟩
      have hB2 := below_then hB1 hB1.size hb
      clear hB1 hb
      go_wp2_with (fail)
      refine (RK.out _).mono ?_
      rintro e w3 ⟨rfl, rfl⟩
      go_wp2_with (fail)
      refine (HP.out _ (hx.below hB2)).mono ?_
      rintro e w4 h1
      obtain ⟨v1, rfl, hR1, hb⟩ := h1.some
      obtain ⟨a1, c1, rfl⟩ := hR1.slice
      have hB := below_then hB2 hB2.size hb
      have hB12 := (Below.refl w4.heap.size w4).alloc (Nat.le_refl _) (.cells #[.string (mkB p.1), .slice a1 p.2.1.length c1, .string (mkB p.2.2)] 24)
      have hR2 := hR1.below hB12
      have hB3 := hB.alloc hB.size (.cells #[.string (mkB p.1), .slice a1 p.2.1.length c1, .string (mkB p.2.2)] 24)
      clear h1 hb hB12 hR1 hB hB2
      go_wp2_with (fail)
      refine (CP.out _ _ (hx.below hB3) (hk.below hB3) hR2).mono ?_
      rintro e w5 h1
    · obtain ⟨rfl, hb⟩ := h1.none
      clear h1
      go_wp2
      go_ret
      exact ⟨rfl, below_then hB3 hB3.size hb⟩
    · obtain ⟨v5, rfl, hR5, hb⟩ := h1.some
      clear h1
      go_wp2
      go_ret
      exact ⟨rfl, below_then hB3 hB3.size hb⟩
end Go.Proofs.YtmgfikfcnhhnhaaGreatDoor
