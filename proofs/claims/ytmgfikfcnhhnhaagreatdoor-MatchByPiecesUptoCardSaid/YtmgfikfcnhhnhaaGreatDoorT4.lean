/- text.blank, text.Collapse, text.Squeeze, text.Normal. -/
import Derived.Test.YtmgfikfcnhhnhaaGreatDoorT1
import Derived.Test.YtmgfikfcnhhnhaaGreatDoorT2
import Derived.Test.YtmgfikfcnhhnhaaGreatDoorT3
namespace Go.Proofs.YtmgfikfcnhhnhaaGreatDoor
open Go.RowKit

theorem info5 : (Tryz.prog.info? 5).map (fun i => (i.zero, i.size, i.bytes)) = some (some (.int .u8 0), 1, 1) := by kernel_rfl

theorem ret_bool {a b : Bool} (h : a = b) : Ending.returned (.bool a) = Ending.returned (.bool b) := by rw [h]

theorem text_blank (c : UInt8) (w : World) : Calls Tryz.prog 150 #[.int .u8 (c.toNat : Int)] w fun e w' => e = .returned (.bool (blankB c)) ∧ w = w' := by
  have hb := blankB_int c
  have HB := Lib.hid hb
  clear hb
  go_enter Tryz.func150, Tryz.ntmps150
  go_wp2
  all_goals go_ret
  all_goals refine ⟨ret_bool ?_, rfl⟩
  all_goals rw [← HB.out]
  all_goals simp [*]
  all_goals omega

set_option maxRecDepth 100000 in
theorem text_Collapse (s : ByteArray) (w : World) (hs : s.size ≤ 1099511627776) :
    Calls Tryz.prog 125 #[.string s] w fun e w' => e = .returned (.string (mkB (collapse s.data.toList))) ∧ Below w.heap.size w w' := by
  have hmk := make_bytes (P := Tryz.prog) 36 Tryz.underlying36 info5 s.size (by omega)
  go_enter Tryz.func125, Tryz.ntmps125
  go_wp2
  go_loopw [3, 10] (fun v i wr => ∃ k : Nat, k ≤ s.size ∧ i = .int .i64 k ∧ OwnB wr w.heap.size v (collapse (s.data.toList.take k)) ∧ Below w.heap.size w wr) (fun _ i _ => s.size - (intOf i).toNat)
  case atStart => exact ⟨0, Nat.zero_le _, rfl, OwnB.made w _ _ (Nat.le_refl _) (by omega), (Below.refl _ _).alloc (Nat.le_refl _) _⟩
  case round =>
    obtain ⟨k, hk, rfl, hO, hB⟩ := hrel
    by_cases hlt : k < s.size
    · have hlen : (collapse (s.data.toList.take k)).length ≤ k := Nat.le_trans (collapse_length _) (by rw [List.length_take]; omega)
      have ht : s.data.toList.take (k + 1) = s.data.toList.take k ++ [s[k]] := by
        rw [List.take_succ_eq_append_getElem (by rw [dlen]; exact hlt)]
        rfl
      have hsn : collapse (s.data.toList.take (k + 1)) = collapse (s.data.toList.take k) ++ addB (lastBlank false (s.data.toList.take k)) s[k] := by
        rw [ht]
        exact coll_snoc _ _ _
      have HS := Lib.hid hsn
      clear hsn ht
      by_cases hb : blankB s[k] = true
      · by_cases h0 : k = 0
        · subst h0
          have hone : addB (lastBlank false (s.data.toList.take 0)) s[0] = [32] := by simp [lastBlank, addB, hb]
          have hS : collapse (s.data.toList.take 1) = [32] := by
            have h := HS.out
            rw [hone] at h
            exact h
          have HS1 := Lib.hid hS
          clear hone hS HS hlen
          have hO0 : OwnB wr w.heap.size _ [] := hO
          clear hO
          go_wp2_with (first | (go_at_call 150; refine (text_blank _ _).mono ?_; rintro e w1 ⟨rfl, rfl⟩) | (at_builtin; refine append_byte w.heap.size rfl (.tmp 36) (.tmp 37) 36 rfl Tryz.underlying36 info5 _ [] 32 32 (by decide) rfl rfl hO0 hB hB.size (by decide) ?_; intro v1 w1 hO1 hB1))
          exact ⟨⟨1, by omega, by go_num, by rw [HS1.out]; exact hO1, hB1⟩, by simp [intOf]; omega⟩
        · obtain ⟨m, rfl⟩ : ∃ m, k = m + 1 := ⟨k - 1, by omega⟩
          have hlb : lastBlank false (s.data.toList.take (m + 1)) = blankB s[m] := by
            rw [List.take_succ_eq_append_getElem (by rw [dlen]; omega), lastBlank_snoc]
            rfl
          by_cases hp : blankB s[m] = true
          · have hone : addB (lastBlank false (s.data.toList.take (m + 1))) s[m + 1] = [] := by rw [hlb]; simp [addB, hb, hp]
            have HO1 := Lib.hid hone
            clear hone hlb
            go_wp2_with (first | (go_at_call 150; refine (text_blank _ _).mono ?_; rintro e w1 ⟨rfl, rfl⟩))
            exact ⟨⟨m + 1 + 1, by omega, by go_num, by rw [HS.out, HO1.out, List.append_nil]; exact hO, hB⟩, by simp [intOf]; omega⟩
          · have hp' : blankB s[m] = false := by simpa using hp
            have hone : addB (lastBlank false (s.data.toList.take (m + 1))) s[m + 1] = [32] := by rw [hlb]; simp [addB, hb, hp']
            have HO1 := Lib.hid hone
            clear hone hlb hp
            go_wp2_with (first | (go_at_call 150; refine (text_blank _ _).mono ?_; rintro e w1 ⟨rfl, rfl⟩) | (at_builtin; refine append_byte w.heap.size rfl (.tmp 36) (.tmp 37) 36 rfl Tryz.underlying36 info5 _ _ 32 32 (by decide) rfl rfl hO hB hB.size (by omega) ?_; intro v1 w1 hO1 hB1))
            exact ⟨⟨m + 1 + 1, by omega, by go_num, by rw [HS.out, HO1.out]; exact hO1, hB1⟩, by simp [intOf]; omega⟩
      · have hb' : blankB s[k] = false := by simpa using hb
        have hone : addB (lastBlank false (s.data.toList.take k)) s[k] = [s[k]] := by simp [addB, hb']
        have HO1 := Lib.hid hone
        clear hone hb
        go_wp2_with (first | (go_at_call 150; refine (text_blank _ _).mono ?_; rintro e w1 ⟨rfl, rfl⟩) | (at_builtin; refine append_byte w.heap.size rfl (.tmp 19) (.tmp 23) 36 rfl Tryz.underlying36 info5 _ _ s[k] _ rfl rfl rfl hO hB hB.size (by omega) ?_; intro v1 w1 hO1 hB1))
        exact ⟨⟨k + 1, by omega, by go_num, by rw [HS.out, HO1.out]; exact hO1, hB1⟩, by simp [intOf]; omega⟩
    · have hk2 : k = s.size := by omega
      subst hk2
      rw [List.take_of_length_le (by rw [dlen]; omega)] at hO
      have hconv := hO.string (P := Tryz.prog) (src := 36) (dst := 9) Tryz.underlying36 Tryz.underlying5 Tryz.underlying9
      go_wp2
      go_ret
      exact ⟨rfl, hB⟩
theorem mkB_toList (l : List UInt8) : (mkB l).toList = l := ByteArray.toList_mk l
theorem toL (s : ByteArray) : s.toList = s.data.toList := ByteArray.toList_eq s
theorem isE {s : ByteArray} (h : 0 < s.size) : s.toList.isEmpty = false := by
  rw [toL]
  cases e : s.data.toList with
  | nil =>
    have := dlen s
    rw [e] at this
    simp at this
    omega
  | cons _ _ => rfl
theorem neE {s : ByteArray} (h : 0 < s.size) : ¬ s.toList = [] := by
  have := isE h
  intro e
  rw [e] at this
  cases this
theorem eqE {s : ByteArray} (h : s.size = 0) : s.toList = [] := by
  rw [toL]
  exact List.eq_nil_of_length_eq_zero (by rw [dlen]; exact h)
theorem beq_byte (b : UInt8) (n : Nat) (hn : n < 256) : ((b.toNat : Int) == (n : Int)) = (b == UInt8.ofNat n) := by
  rw [Bool.eq_iff_iff]
  simp [← UInt8.toNat_inj]
  omega
theorem at_list (s : ByteArray) (k : Nat) (h : k < s.size) : s.data.toList[k]'(by rw [dlen]; exact h) = s[k] := rfl

theorem cutBack_yes (u : ByteArray) (m : Nat) (hm : u.size = m + 1) (hl : u[m]'(by omega) = 32) : u.extract 0 m = mkB (cutBack u.data.toList) := by
  have hlen : u.data.toList.length = m + 1 := by rw [dlen, hm]
  have h1 : u.data.toList.getLast? = some 32 := by
    rw [List.getLast?_eq_getElem?, hlen, Nat.add_sub_cancel, List.getElem?_eq_getElem (by omega), at_list u m (by omega), hl]
  unfold cutBack
  rw [if_pos h1, List.dropLast_eq_take, hlen, Nat.add_sub_cancel]
  apply ByteArray.ext
  apply Array.toList_inj.1
  rw [Lib.extract_data, mkB_data]
  simp
theorem cutBack_no (u : ByteArray) (m : Nat) (hm : u.size = m + 1) (hl : u[m]'(by omega) ≠ 32) : u = mkB (cutBack u.data.toList) := by
  have hlen : u.data.toList.length = m + 1 := by rw [dlen, hm]
  have h1 : u.data.toList.getLast? ≠ some 32 := by
    rw [List.getLast?_eq_getElem?, hlen, Nat.add_sub_cancel, List.getElem?_eq_getElem (by omega), at_list u m (by omega)]
    simpa using hl
  unfold cutBack
  rw [if_neg h1, mkB_self]
theorem cutBack_nil (u : ByteArray) (hm : u.size = 0) : u = mkB (cutBack u.data.toList) := by
  have e : u.data.toList = [] := List.eq_nil_of_length_eq_zero (by rw [dlen]; exact hm)
  rw [e]
  show u = mkB []
  rw [← e, mkB_self]
theorem cutFront_yes (t : ByteArray) (h : 0 < t.size) (hb : t[0] = 32) : cutFront t.data.toList = (t.extract 1 t.size).data.toList := by
  rw [Lib.extract_data]
  cases e : t.data.toList with
  | nil =>
    have := dlen t
    rw [e] at this
    simp at this
    omega
  | cons b r =>
    have hb' : b = 32 := by
      rw [← hb]
      have := at_list t 0 h
      rw [← this]
      simp [e]
    have hn := dlen t
    rw [e] at hn
    simp at hn
    simp [cutFront, hb', ← hn]
theorem cutFront_no (t : ByteArray) (h : 0 < t.size) (hb : t[0] ≠ 32) : cutFront t.data.toList = t.data.toList := by
  cases e : t.data.toList with
  | nil => rfl
  | cons b r =>
    have hb' : b ≠ 32 := by
      intro h32
      apply hb
      rw [← at_list t 0 h]
      simp [e, h32]
    simp [cutFront, hb']
theorem cutFront_nil (t : ByteArray) (h : t.size = 0) : cutFront t.data.toList = t.data.toList := by
  have e : t.data.toList = [] := List.eq_nil_of_length_eq_zero (by rw [dlen]; exact h)
  rw [e]
  rfl

set_option maxRecDepth 100000 in
theorem text_Squeeze (s : ByteArray) (w : World) (hs : s.size ≤ 1099511627776) :
    Calls Tryz.prog 112 #[.string s] w fun e w' => e = .returned (.string (mkB (squeeze s.data.toList))) ∧ Below w.heap.size w w' := by
  have hl := collapse_length s.data.toList
  rw [dlen] at hl
  have hc := text_Collapse s w hs
  unfold squeeze
  obtain ⟨t, ht⟩ : ∃ t, mkB (collapse s.data.toList) = t := ⟨_, rfl⟩
  have htd : collapse s.data.toList = t.data.toList := by rw [← ht, mkB_data]
  rw [ht] at hc
  rw [htd, dlen] at hl
  rw [htd]
  clear ht htd
  have HC := Lib.hid hc
  clear hc
  -- the second half, whatever the first has left
  have back : ∀ u : ByteArray, u.size ≤ 1099511627776 → (u.size = 0 ∧ u = mkB (cutBack u.data.toList)) ∨ (∃ m, ∃ hm : u.size = m + 1, (((u[m]'(by omega)).toNat : Int) == 32) = true ∧ u.extract 0 m = mkB (cutBack u.data.toList)) ∨ (∃ m, ∃ hm : u.size = m + 1, (((u[m]'(by omega)).toNat : Int) == 32) = false ∧ u = mkB (cutBack u.data.toList)) := by
    intro u _
    by_cases h0 : u.size = 0
    · exact .inl ⟨h0, cutBack_nil u h0⟩
    · obtain ⟨m, hm⟩ : ∃ m, u.size = m + 1 := ⟨u.size - 1, by omega⟩
      by_cases h32 : u[m]'(by omega) = 32
      · exact .inr (.inl ⟨m, hm, by rw [h32]; rfl, cutBack_yes u m hm h32⟩)
      · refine .inr (.inr ⟨m, hm, ?_, cutBack_no u m hm h32⟩)
        have := beq_byte (u[m]'(by omega)) 32 (by omega)
        simp only [Int.cast_ofNat_Int] at this
        rw [this]
        simpa using h32
  by_cases h0 : t.size = 0
  · have hf : t = mkB (cutBack (cutFront t.data.toList)) := by rw [cutFront_nil t h0]; exact cutBack_nil t h0
    have HF := Lib.hid hf
    clear hf back
    have e0 := eqE h0
    go_enter Tryz.func112, Tryz.ntmps112
    go_wp2_with (go_at_call 125; refine HC.out.mono ?_; rintro e w1 ⟨rfl, hb⟩)
    go_ret
    exact ⟨by rw [← HF.out]; rfl, hb⟩
  · have hp : 0 < t.size := by omega
    have n1 := isE hp
    have n2 := neE hp
    by_cases h32 : t[0] = 32
    · have b0 : ((t[0].toNat : Int) == 32) = true := by rw [h32]; rfl
      have hf := cutFront_yes t hp h32
      obtain ⟨u, hu⟩ : ∃ u, t.extract 1 t.size = u := ⟨_, rfl⟩
      have hus : u.size = t.size - 1 := by rw [← hu, ByteArray.size_extract]; omega
      rw [hf, hu]
      clear hf h32 h0
      rcases back u (by omega) with ⟨k0, kf⟩ | ⟨m, hm, bl, kf⟩ | ⟨m, hm, bl, kf⟩
      · have HF := Lib.hid kf
        clear kf back hus
        have m1 := eqE k0
        go_enter Tryz.func112, Tryz.ntmps112
        go_wp2_with (go_at_call 125; refine HC.out.mono ?_; rintro e w1 ⟨rfl, hb⟩)
        go_ret
        exact ⟨by rw [← HF.out]; rfl, hb⟩
      · have HF := Lib.hid kf
        have hmb : (m : Int) ≤ 1099511627776 := by omega
        clear kf back hus
        have hmp : 0 < u.size := by omega
        have m1 := isE hmp
        have m2 := neE hmp
        go_enter Tryz.func112, Tryz.ntmps112
        go_wp2_with (go_at_call 125; refine HC.out.mono ?_; rintro e w1 ⟨rfl, hb⟩)
        go_ret
        exact ⟨by rw [← HF.out]; rfl, hb⟩
      · have HF := Lib.hid kf
        have hmb : (m : Int) ≤ 1099511627776 := by omega
        clear kf back hus
        have hmp : 0 < u.size := by omega
        have m1 := isE hmp
        have m2 := neE hmp
        go_enter Tryz.func112, Tryz.ntmps112
        go_wp2_with (go_at_call 125; refine HC.out.mono ?_; rintro e w1 ⟨rfl, hb⟩)
        go_ret
        exact ⟨by rw [← HF.out]; rfl, hb⟩
    · have b0 : ((t[0].toNat : Int) == 32) = false := by
        have := beq_byte t[0] 32 (by omega)
        simp only [Int.cast_ofNat_Int] at this
        rw [this]
        simpa using h32
      have hf := cutFront_no t hp h32
      rw [hf]
      clear hf h32 h0
      rcases back t (by omega) with ⟨k0, kf⟩ | ⟨m, hm, bl, kf⟩ | ⟨m, hm, bl, kf⟩
      · omega
      · have HF := Lib.hid kf
        have hmb : (m : Int) ≤ 1099511627776 := by omega
        clear kf back
        go_enter Tryz.func112, Tryz.ntmps112
        go_wp2_with (go_at_call 125; refine HC.out.mono ?_; rintro e w1 ⟨rfl, hb⟩)
        go_ret
        exact ⟨by rw [← HF.out]; rfl, hb⟩
      · have HF := Lib.hid kf
        have hmb : (m : Int) ≤ 1099511627776 := by omega
        clear kf back
        go_enter Tryz.func112, Tryz.ntmps112
        go_wp2_with (go_at_call 125; refine HC.out.mono ?_; rintro e w1 ⟨rfl, hb⟩)
        go_ret
        exact ⟨by rw [← HF.out]; rfl, hb⟩

theorem text_Normal (s : ByteArray) (w : World) (hs : s.size ≤ 1099511627776) :
    Calls Tryz.prog 93 #[.string s] w fun e w' => e = .returned (.string (mkB (normalT s.data.toList))) ∧ Below w.heap.size w w' := by
  have h1 := text_Fold s w (by omega)
  have h2 := fun W => text_Squeeze (mkB (fold s.data.toList)) W (by rw [mkB_size, fold_length, dlen]; exact hs)
  have H1 := Lib.hid h1
  have H2 := Lib.hid h2
  clear h1 h2
  go_enter Tryz.func93, Tryz.ntmps93
  go_wp2_with (fail)
  refine H1.out.mono ?_
  rintro e w1 ⟨rfl, hb⟩
  go_wp2_with (fail)
  refine (H2.out _).mono ?_
  rintro e w2 ⟨rfl, hb2⟩
  go_wp2
  go_ret
  exact ⟨rfl, below_then hb hb.size hb2⟩
end Go.Proofs.YtmgfikfcnhhnhaaGreatDoor
