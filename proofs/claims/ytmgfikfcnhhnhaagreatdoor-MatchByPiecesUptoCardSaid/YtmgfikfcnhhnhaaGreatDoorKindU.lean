/- match: what the six kinds with pieces answer, the rest. -/
import Derived.Test.YtmgfikfcnhhnhaaGreatDoorKindV
import Derived.Test.YtmgfikfcnhhnhaaGreatDoorPartsW
namespace Go.Proofs.YtmgfikfcnhhnhaaGreatDoor
open Go.RowKit

theorem load_num (w : World) (b : Nat) : (loadVar 264 ⟨b, 0, none⟩).run Tryz.prog w = .ok (.agg #[]) w := by
  simp [go_sem, loadVar]
theorem load_phone (w : World) (b : Nat) : (loadVar 265 ⟨b, 0, none⟩).run Tryz.prog w = .ok (.agg #[]) w := by
  simp [go_sem, loadVar]
theorem load_spaced (w : World) (b : Nat) : (loadVar 259 ⟨b, 0, none⟩).run Tryz.prog w = .ok (.agg #[]) w := by
  simp [go_sem, loadVar]
theorem load_low (w : World) (b : Nat) : (loadVar 261 ⟨b, 0, none⟩).run Tryz.prog w = .ok (.agg #[]) w := by
  simp [go_sem, loadVar]
attribute [local go_sem] load_num load_phone load_spaced load_low load_exact

set_option maxRecDepth 100000 in
theorem numeric_normal (l : List UInt8) (w : World) (hl : l.length ≤ LIM) (hx : MaxL w) : Calls Tryz.prog 226 #[.agg #[], .string (mkB l)] w fun e w' => e = .returned (NRv (nuN l)) ∧ Below w.heap.size w w' := by
  have P := Lib.hid (fun W hW => numeric_piece l W hl hW)
  have hB := (Below.refl w.heap.size w).alloc (Nat.le_refl _) (.cells #[] 264)
  unfold nuN
  by_cases h0 : l = []
  · have he : (mkB l).toList.isEmpty = true := by rw [h0]; exact isE_nil
    rw [if_pos h0]
    clear h0
    go_enter Tryz.func226, Tryz.ntmps226
    go_wp2_with (fail)
    refine (P.out _ (hx.below hB)).mono ?_
    rintro e w1 ⟨rfl, hb⟩
    go_wp2
    go_ret2
    exact ⟨rfl, below_then hB hB.size hb⟩
  · have he := isE_ne h0
    rw [if_neg h0]
    clear h0
    cases h1 : l.all spB with
    | false =>
      rw [h1] at P
      rw [if_neg (by simp)]
      clear h1
      go_enter Tryz.func226, Tryz.ntmps226
      go_wp2_with (fail)
      refine (P.out _ (hx.below hB)).mono ?_
      rintro e w1 ⟨rfl, hb⟩
      go_wp2
      go_ret2
      exact ⟨rfl, below_then hB hB.size hb⟩
    | true =>
      rw [h1] at P
      rw [if_pos rfl]
      clear h1
      go_enter Tryz.func226, Tryz.ntmps226
      go_wp2_with (fail)
      refine (P.out _ (hx.below hB)).mono ?_
      rintro e w1 ⟨rfl, hb⟩
      go_wp2
      go_ret2
      exact ⟨rfl, below_then hB hB.size hb⟩

def phN (l : List UInt8) : Option (List UInt8) := if l = [] then none else if l.all prB = true then some (repl 45 [] (repl 32 [] (fold l))) else none
set_option maxRecDepth 100000 in
theorem phone_normal (l : List UInt8) (w : World) (hl : l.length ≤ LIM) (hx : MaxL w) : Calls Tryz.prog 232 #[.agg #[], .string (mkB l)] w fun e w' => e = .returned (NRv (phN l)) ∧ Below w.heap.size w w' := by
  have P := Lib.hid (fun W hW => phone_piece l W hl hW)
  have hB := (Below.refl w.heap.size w).alloc (Nat.le_refl _) (.cells #[] 265)
  unfold phN
  by_cases h0 : l = []
  · have he : (mkB l).toList.isEmpty = true := by rw [h0]; exact isE_nil
    rw [if_pos h0]
    clear h0
    go_enter Tryz.func232, Tryz.ntmps232
    go_wp2_with (fail)
    refine (P.out _ (hx.below hB)).mono ?_
    rintro e w1 ⟨rfl, hb⟩
    go_wp2
    go_ret2
    exact ⟨rfl, below_then hB hB.size hb⟩
  · have he := isE_ne h0
    rw [if_neg h0]
    clear h0
    cases h1 : l.all prB with
    | false =>
      rw [h1] at P
      rw [if_neg (by simp)]
      clear h1
      go_enter Tryz.func232, Tryz.ntmps232
      go_wp2_with (fail)
      refine (P.out _ (hx.below hB)).mono ?_
      rintro e w1 ⟨rfl, hb⟩
      go_wp2
      go_ret2
      exact ⟨rfl, below_then hB hB.size hb⟩
    | true =>
      rw [h1] at P
      rw [if_pos rfl]
      clear h1
      go_enter Tryz.func232, Tryz.ntmps232
      go_wp2_with (fail)
      refine (P.out _ (hx.below hB)).mono ?_
      rintro e w1 ⟨rfl, hb⟩
      go_wp2
      go_ret2
      exact ⟨rfl, below_then hB hB.size hb⟩

theorem cells_low : Tryz.prog.cellsOf 261 = 0 := by kernel_rfl
theorem cells_lowFolded : Tryz.prog.cellsOf 263 = 0 := by kernel_rfl
set_option maxRecDepth 100000 in
theorem low_trim (l : List UInt8) (w : World) (hl : l.length ≤ LIM) :
    Calls Tryz.prog 222 #[.agg #[], .string (mkB l)] w fun e w' => e = .returned (.tuple #[.string (mkB (tr1 l)), .string (mkB (tr2 l))]) ∧ Below w.heap.size w w' := by
  have H1 := Lib.hid (fun W => spaced_trim l W hl)
  have hB := (Below.refl w.heap.size w).alloc (Nat.le_refl _) (.cells #[] 261)
  go_enter Tryz.func222, Tryz.ntmps222
  have hp0 : (partAt ⟨w.heap.size, 0, none⟩ 0 0).run Tryz.prog (w.alloc (.cells #[] 261)) = .ok ⟨w.heap.size, 0, none⟩ (w.alloc (.cells #[] 261)) :=
    part0 (P := Tryz.prog) (w.alloc (.cells #[] 261)) w.heap.size 261 #[] (0, 0) (heap_alloc_new w _) cells_low
  go_wp2_with (fail)
  refine (H1.out _).mono ?_
  rintro e w1 ⟨rfl, hb⟩
  go_wp2
  go_ret2
  exact ⟨rfl, below_then hB hB.size hb⟩

set_option maxRecDepth 100000 in
set_option maxHeartbeats 1000000 in
theorem folded_piece (l : List UInt8) (w : World) (hl : l.length ≤ LIM) : Calls Tryz.prog 218 #[.agg #[], .string (mkB l)] w fun e w' => e = .returned (.tuple #[.string (mkB (collapse (fold l))), .bool (utfBad (fold l)).isNone]) ∧ Below w.heap.size w w' := by
  have HF := Lib.hid (fun W => text_Fold (mkB l) W (by rw [mkB_size]; unfold LIM at hl; omega))
  rw [mkB_data] at HF
  have HX := Lib.hid (fun W => exact_piece (fold l) W (by rw [fold_length]; exact hl))
  go_enter Tryz.func218, Tryz.ntmps218
  have hp0 : (partAt ⟨w.heap.size, 0, none⟩ 0 0).run Tryz.prog (w.alloc (.cells #[] 258)).drew = .ok ⟨w.heap.size, 0, none⟩ (w.alloc (.cells #[] 258)).drew :=
    part0 (P := Tryz.prog) (w.alloc (.cells #[] 258)).drew w.heap.size 258 #[] (0, 0) (heap_alloc_new w _) cells_folded
  go_wp2_with (fail)
  go_region_with (first | (go_at_call 51; refine (HF.out _).mono ?_; rintro e w1 ⟨rfl, hb⟩; have hz := hb.size; have hp1 : (partAt ⟨w.heap.size, 0, none⟩ 0 0).run Tryz.prog w1 = .ok ⟨w.heap.size, 0, none⟩ w1 := part0 (P := Tryz.prog) w1 w.heap.size 258 #[] (0, 0) ((hb.block _ (by simp)).trans (heap_alloc_new w _)) cells_folded) | (go_at_call 211; refine (HX.out _).mono ?_; rintro e w2 ⟨rfl, hb2⟩))
  all_goals go_wp2
  all_goals go_ret2
  all_goals refine ⟨rfl, below_then (below_then (((Below.refl _ _).alloc (Nat.le_refl _) _).drew) ?_ hb) ?_ hb2⟩
  all_goals first | (simp; done) | omega | (simp at hz; omega)
set_option maxRecDepth 100000 in
set_option maxHeartbeats 1000000 in
theorem lowFolded_piece (l : List UInt8) (w : World) (hl : l.length ≤ LIM) : Calls Tryz.prog 225 #[.agg #[], .string (mkB l)] w fun e w' => e = .returned (.tuple #[.string (mkB (collapse (fold l))), .bool ((fold l).all ascB)]) ∧ Below w.heap.size w w' := by
  have HF := Lib.hid (fun W => text_Fold (mkB l) W (by rw [mkB_size]; unfold LIM at hl; omega))
  rw [mkB_data] at HF
  have HX := Lib.hid (fun W => low_piece (fold l) W (by rw [fold_length]; exact hl))
  go_enter Tryz.func225, Tryz.ntmps225
  have hp0 : (partAt ⟨w.heap.size, 0, none⟩ 0 0).run Tryz.prog (w.alloc (.cells #[] 263)).drew = .ok ⟨w.heap.size, 0, none⟩ (w.alloc (.cells #[] 263)).drew :=
    part0 (P := Tryz.prog) (w.alloc (.cells #[] 263)).drew w.heap.size 263 #[] (0, 0) (heap_alloc_new w _) cells_lowFolded
  go_wp2_with (fail)
  go_region_with (first | (go_at_call 51; refine (HF.out _).mono ?_; rintro e w1 ⟨rfl, hb⟩; have hz := hb.size; have hp1 : (partAt ⟨w.heap.size, 0, none⟩ 0 0).run Tryz.prog w1 = .ok ⟨w.heap.size, 0, none⟩ w1 := part0 (P := Tryz.prog) w1 w.heap.size 263 #[] (0, 0) ((hb.block _ (by simp)).trans (heap_alloc_new w _)) cells_lowFolded) | (go_at_call 221; refine (HX.out _).mono ?_; rintro e w2 ⟨rfl, hb2⟩))
  all_goals go_wp2
  all_goals go_ret2
  all_goals refine ⟨rfl, below_then (below_then (((Below.refl _ _).alloc (Nat.le_refl _) _).drew) ?_ hb) ?_ hb2⟩
  all_goals first | (simp; done) | omega | (simp at hz; omega)
set_option maxRecDepth 100000 in
set_option maxHeartbeats 1000000 in
theorem lowFolded_normal (l : List UInt8) (w : World) (hl : l.length ≤ LIM) : Calls Tryz.prog 224 #[.agg #[], .string (mkB l)] w fun e w' => e = .returned (NRv (loN (fold l))) ∧ Below w.heap.size w w' := by
  have HF := Lib.hid (fun W => text_Fold (mkB l) W (by rw [mkB_size]; unfold LIM at hl; omega))
  rw [mkB_data] at HF
  have HX := Lib.hid (fun W => low_normal (fold l) W (by rw [fold_length]; exact hl))
  rcases hr : loN (fold l) with _ | n
  all_goals
    rw [hr] at HX
    simp only [NRv] at HX
    clear hr
    go_enter Tryz.func224, Tryz.ntmps224
    have hp0 : (partAt ⟨w.heap.size, 0, none⟩ 0 0).run Tryz.prog (w.alloc (.cells #[] 263)).drew = .ok ⟨w.heap.size, 0, none⟩ (w.alloc (.cells #[] 263)).drew :=
      part0 (P := Tryz.prog) (w.alloc (.cells #[] 263)).drew w.heap.size 263 #[] (0, 0) (heap_alloc_new w _) cells_lowFolded
    go_wp2_with (fail)
    go_region_with (first | (go_at_call 51; refine (HF.out _).mono ?_; rintro e w1 ⟨rfl, hb⟩; have hz := hb.size; have hp1 : (partAt ⟨w.heap.size, 0, none⟩ 0 0).run Tryz.prog w1 = .ok ⟨w.heap.size, 0, none⟩ w1 := part0 (P := Tryz.prog) w1 w.heap.size 263 #[] (0, 0) ((hb.block _ (by simp)).trans (heap_alloc_new w _)) cells_lowFolded) | (go_at_call 219; refine (HX.out _).mono ?_; rintro e w2 ⟨rfl, hb2⟩))
    all_goals go_wp2
    all_goals go_ret2
    all_goals refine ⟨rfl, below_then (below_then (((Below.refl _ _).alloc (Nat.le_refl _) _).drew) ?_ hb) ?_ hb2⟩
    all_goals first | (simp; done) | omega | (simp at hz; omega)
end Go.Proofs.YtmgfikfcnhhnhaaGreatDoor
