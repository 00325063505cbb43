/- match: utf, exact.normal, folded.normal; Normal at the syntax of text. -/
import Derived.Test.YtmgfikfcnhhnhaaGreatDoorT7
import Derived.Deep.RegionWith
namespace Go.Proofs.YtmgfikfcnhhnhaaGreatDoor
open Go.RowKit

theorem match_utf (s : ByteArray) (w : World) (hs : s.size ≤ 1099511627776) : Calls Tryz.prog 213 #[.string s] w fun e w' => e = .returned (.bool ((utfBad s.data.toList).isNone)) ∧ Below w.heap.size w w' := by
  have h := text_Check s w hs
  unfold utfV at h
  cases hu : utfBad s.data.toList with
  | none =>
    rw [hu] at h
    have H := Lib.hid h
    clear h hu
    go_enter Tryz.func213, Tryz.ntmps213
    go_wp2_with (go_at_call 71; refine H.out.mono ?_; rintro e w1 ⟨rfl, hb⟩)
    go_ret
    exact ⟨rfl, hb⟩
  | some i =>
    rw [hu] at h
    have H := Lib.hid h
    clear h hu
    go_enter Tryz.func213, Tryz.ntmps213
    go_wp2_with (go_at_call 71; refine H.out.mono ?_; rintro e w1 ⟨rfl, hb⟩)
    go_ret
    exact ⟨rfl, hb⟩

/-- exact.normal: the value's text, or none. -/
def exN (l : List UInt8) : Option (List UInt8) := if l.length = 0 then none else if (utfBad l).isNone = true then some (squeeze l) else none
def NRv : Option (List UInt8) → Value
  | some l => .tuple #[.string (mkB l), .bool true]
  | none => .tuple #[.string ⟨#[]⟩, .bool false]

set_option maxRecDepth 100000 in
theorem exact_normal (s : ByteArray) (w : World) (hs : s.size ≤ 1099511627776) : Calls Tryz.prog 209 #[.agg #[], .string s] w fun e w' => e = .returned (NRv (exN s.data.toList)) ∧ Below w.heap.size w w' := by
  have hu := fun W => match_utf s W hs
  have hq := fun W => text_Squeeze s W hs
  have HU := Lib.hid hu
  have HQ := Lib.hid hq
  clear hu hq
  unfold exN
  rw [dlen]
  by_cases h0 : s.size = 0
  · rw [if_pos h0]
    have e0 := eqE h0
    go_enter Tryz.func209, Tryz.ntmps209
    go_wp2
    go_ret2
    exact ⟨rfl, (Below.refl _ _).alloc (Nat.le_refl _) _⟩
  · rw [if_neg h0]
    have n1 := isE (s := s) (by omega)
    have n2 := neE (s := s) (by omega)
    cases hn : (utfBad s.data.toList).isNone with
    | true =>
      rw [if_pos rfl]
      rw [hn] at HU
      clear hn
      go_enter Tryz.func209, Tryz.ntmps209
      go_wp2_with (fail)
      refine (HU.out _).mono ?_
      rintro e w1 ⟨rfl, hb⟩
      have hz := hb.size
      go_wp2_with (fail)
      refine (HQ.out _).mono ?_
      rintro e w2 ⟨rfl, hb2⟩
      go_wp2
      go_ret2
      refine ⟨rfl, below_then (below_then ((Below.refl _ _).alloc (Nat.le_refl _) _) ?_ hb) ?_ hb2⟩
      · simp
      · simp at hz; omega
    | false =>
      rw [if_neg (by simp)]
      rw [hn] at HU
      clear hn
      go_enter Tryz.func209, Tryz.ntmps209
      go_wp2_with (fail)
      refine (HU.out _).mono ?_
      rintro e w1 ⟨rfl, hb⟩
      go_wp2
      go_ret2
      refine ⟨rfl, below_then ((Below.refl _ _).alloc (Nat.le_refl _) _) ?_ hb⟩
      simp

theorem part0 {P : Program} (w : World) (b e : Nat) (cs : Array Value) (fr : Nat × Nat) (hs : w.heap[b]? = some (.cells cs e fr)) (hc : P.cellsOf e = 0) : (partAt ⟨b, 0, none⟩ 0 0).run P w = .ok ⟨b, 0, none⟩ w := by
  simp [partAt, byteOf, hs, hc, program, noView, shape, Sem.run_bind, Sem.run, viewAt, World.shape?, Result.andThen]
theorem cells_folded : Tryz.prog.cellsOf 258 = 0 := by kernel_rfl
theorem load_exact (w : World) (b : Nat) : (loadVar 256 ⟨b, 0, none⟩).run Tryz.prog w = .ok (.agg #[]) w := by
  simp [go_sem, loadVar]
attribute [local go_sem] load_exact

def foN (l : List UInt8) : Option (List UInt8) := exN (fold l)

set_option maxRecDepth 100000 in
set_option maxHeartbeats 1000000 in
theorem folded_normal (s : ByteArray) (w : World) (hs : s.size ≤ 1099511627776) : Calls Tryz.prog 217 #[.agg #[], .string s] w fun e w' => e = .returned (NRv (foN s.data.toList)) ∧ Below w.heap.size w w' := by
  have hf := fun W => text_Fold s W (by omega)
  have hx := fun W => exact_normal (mkB (fold s.data.toList)) W (by rw [mkB_size, fold_length, dlen]; exact hs)
  rw [mkB_data] at hx
  unfold foN
  have HF := Lib.hid hf
  have HX := Lib.hid hx
  clear hf hx
  rcases hr : exN (fold s.data.toList) with _ | l
  all_goals
    rw [hr] at HX
    clear hr
    go_enter Tryz.func217, Tryz.ntmps217
    have hp0 : (partAt ⟨w.heap.size, 0, none⟩ 0 0).run Tryz.prog (w.alloc (.cells #[] 258)).drew = .ok ⟨w.heap.size, 0, none⟩ (w.alloc (.cells #[] 258)).drew :=
      part0 (P := Tryz.prog) (w.alloc (.cells #[] 258)).drew w.heap.size 258 #[] (0, 0) (heap_alloc_new w _) cells_folded
    go_wp2_with (fail)
    go_region_with (first | (go_at_call 51; refine (HF.out _).mono ?_; rintro e w1 ⟨rfl, hb⟩; have hz := hb.size; have hp1 : (partAt ⟨w.heap.size, 0, none⟩ 0 0).run Tryz.prog w1 = .ok ⟨w.heap.size, 0, none⟩ w1 := part0 (P := Tryz.prog) w1 w.heap.size 258 #[] (0, 0) ((hb.block _ (by simp)).trans (heap_alloc_new w _)) cells_folded) | (go_at_call 209; refine (HX.out _).mono ?_; rintro e w2 ⟨rfl, hb2⟩; simp only [NRv]))
    all_goals go_wp2
    all_goals go_ret2
    all_goals refine ⟨rfl, below_then (below_then (((Below.refl _ _).alloc (Nat.le_refl _) _).drew) ?_ hb) ?_ hb2⟩
    all_goals first | (simp; done) | omega | (simp at hz; omega)
end Go.Proofs.YtmgfikfcnhhnhaaGreatDoor
