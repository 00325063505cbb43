/- text.Fold. -/
import Derived.Test.YtmgfikfcnhhnhaaGreatDoorProg
import Derived.Test.YtmgfikfcnhhnhaaGreatDoorT0
import Derived.WalkKit
import Derived.Outline
import Derived.Lib.Hide
import Derived.WalkLawsBesides
import Derived.WalkSpells
import Derived.Laws.EntriesVeiled
import Derived.Deep.QuietTactic
import Derived.BigQuiet
namespace Go.Proofs.YtmgfikfcnhhnhaaGreatDoor
open Go.RowKit

theorem fold_conv (s : ByteArray) (W : World) : (convert 9 36 (.string s)).run Tryz.prog W = .ok (.slice (some ⟨W.heap.size, 0, none⟩) s.size (grownCap W s.size 0 5)) (Lib.bytesWorld W 5 s) :=
  Lib.run_convert_string_bytes W 9 36 5 s Tryz.underlying9 Tryz.underlying36 Tryz.underlying5
attribute [local go_sem] fold_conv

set_option maxRecDepth 100000 in
theorem text_Fold (s : ByteArray) (w : World) (hs : s.size ≤ 9223372036854775807) :
    Calls Tryz.prog 51 #[.string s] w fun e w' => e = .returned (.string (mkB (fold s.data.toList))) ∧ Below w.heap.size w w' := by
  have hl := dlen s
  go_enter Tryz.func51, Tryz.ntmps51
  go_wp2
  go_loopw [10] (fun i wr => ∃ k : Nat, k ≤ s.size ∧ i = .int .i64 k ∧ RowB wr w.heap.size 5 (part foldB s.data.toList k) ∧ Below w.heap.size w wr) (fun i _ => s.size - (intOf i).toNat)
  case atStart => exact ⟨0, Nat.zero_le _, rfl, by rw [part_zero]; exact RowB.start w 5 s, bytesWorld_below w 5 s⟩
  case round =>
    obtain ⟨k, hk, rfl, hR, hB⟩ := hrel
    by_cases hlt : k < s.size
    · have hlt' : k < s.data.toList.length := by omega
      have hcell := hR.cell k (by rw [part_length]; omega)
      have hfz := hR.frozen k (by rw [part_length]; omega)
      rw [part_at _ _ k hlt'] at hcell
      have hst := part_step foldB s.data.toList k hlt'
      have hkp := part_keep foldB s.data.toList k hlt'
      generalize s.data.toList[k] = c at hcell hst hkp
      have HS := Lib.hid hst
      have HK := Lib.hid hkp
      clear hst hkp
      have hc := c.toNat_lt
      by_cases up : 65 ≤ (c.toNat : Int) ∧ (c.toNat : Int) ≤ 90
      · have hv := foldB_up c up.1 up.2
        have HV := Lib.hid hv
        clear hv
        obtain ⟨u1, u2⟩ := up
        go_wp2
        refine ⟨⟨k + 1, by omega, by go_num, ?_, hB.setCell (Nat.le_refl _) _⟩, by simp [intOf]; omega⟩
        rw [HS.out]
        exact hR.set k (foldB c) _ (by rw [HV.out]; omega)
      · have hv := foldB_same c up
        by_cases u1 : 65 ≤ (c.toNat : Int)
        · have u2 : 90 < (c.toNat : Int) := by omega
          go_wp2
          exact ⟨⟨k + 1, by omega, by go_num, by rw [HK.out hv]; exact hR, hB⟩, by simp [intOf]; omega⟩
        · go_wp2
          exact ⟨⟨k + 1, by omega, by go_num, by rw [HK.out hv]; exact hR, hB⟩, by simp [intOf]; omega⟩
    · have hk2 : k = s.size := by omega
      subst hk2
      rw [part_all _ _ _ (by omega)] at hR
      have hconv : (convert 36 9 (.slice (some ⟨w.heap.size, 0, none⟩) s.size (grownCap w s.size 0 5))).run Tryz.prog wr = .ok (.string (mkB (fold s.data.toList))) wr := by
        have h := hR.string (cap := grownCap w s.size 0 5) Tryz.underlying36 Tryz.underlying5 Tryz.underlying9
        rw [List.length_map, hl] at h
        exact h
      go_wp2
      go_ret
      exact ⟨rfl, hB⟩
end Go.Proofs.YtmgfikfcnhhnhaaGreatDoor
