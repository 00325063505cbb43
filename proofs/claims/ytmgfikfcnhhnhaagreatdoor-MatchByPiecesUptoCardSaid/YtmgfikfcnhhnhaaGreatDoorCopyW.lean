/- rosterlaw06: copied. -/
import Derived.Test.YtmgfikfcnhhnhaaGreatDoorPartsW
import Derived.Deep.AppendLies
import Derived.Deep.RegionLaw
import Derived.Deep.Onto
namespace Go.Proofs.YtmgfikfcnhhnhaaGreatDoor
open Go.RowKit

theorem Pbox.grown {W w1 : World} {B base : Nat} {a b c : Value} {r : Option Nat} (h : Pbox W B a b c) (hg : W.grownBy w1 r) (hO : ∀ k, r = some k → base ≤ k) (hb : B < base) : Pbox w1 B a b c :=
  (hg.block B h.lt (fun e => by have := hO B e.symm; omega)).trans h
theorem Below.grown' {w0 W w1 : World} {N : Nat} {r : Option Nat} (h : Below N w0 W) (hN : N ≤ W.heap.size) (hg : W.grownBy w1 r) (hO : ∀ k, r = some k → N ≤ k) : Below N w0 w1 := h.grown hg hN hO
theorem copied_ret (w wz : World) (a : Act) (B base : Nat) (i f : List UInt8) (any : List (List UInt8)) (v x0 x1 x2 : Value) (hw : w.heap.size ≤ B) (hB : Below w.heap.size w wz) (P4 : Pbox wz B x0 x1 x2) (hO : OwnS wz base v (any.map mkB)) (hb : B < base) (hbw : w.heap.size ≤ base)
    (h4 : (a.tmps[2]?).getD undef = .pointer (some ⟨B, 0, none⟩)) (hd : a.defers = []) :
    bodyPost Tryz.prog Tryz.f4 (fun e w' => ∃ v, e = .returned (.agg #[.string (mkB i), v, .string (mkB f)]) ∧ OwnS w' w.heap.size v (any.map mkB) ∧ Below w.heap.size w w') Exit.ret a (((wz.setCell ⟨B, 0, none⟩ (.string (mkB i))).setCell ⟨B, 1, none⟩ v).setCell ⟨B, 2, none⟩ (.string (mkB f))) := by
  have P5 := ((P4.set0 (.string (mkB i))).set1 v).set2 (.string (mkB f))
  have hO2 := own_set (own_set (own_set hO B 0 (.string (mkB i)) hb) B 1 v hb) B 2 (.string (mkB f)) hb
  exact bodyPost_ret (v := .agg #[.string (mkB i), v, .string (mkB f)]) (by simp [results, Tryz.results4, go_sem, P5.c0, P5.c1, P5.c2, h4]) hd
    ⟨v, rfl, World.ownsRow.mono hO2 hbw, ((hB.setCell hw _).setCell hw _).setCell hw _⟩

set_option maxRecDepth 100000 in
set_option maxHeartbeats 2000000 in
theorem law_copied (i f : List UInt8) (any : List (List UInt8)) (v : Value) (w : World) (hR : RowS w v any) :
    Calls Tryz.prog 4 #[.agg #[.string (mkB i), v, .string (mkB f)]] w fun e w' => ∃ v, e = .returned (.agg #[.string (mkB i), v, .string (mkB f)]) ∧ OwnS w' w.heap.size v (any.map mkB) ∧ Below w.heap.size w w' := by
  obtain ⟨a, cap, rfl, hal, hC⟩ := hR
  have HC := Lib.hid hC
  unfold LIM at hal
  clear hC
  go_enter Tryz.func4, Tryz.ntmps4
  go_wp2
  go_loopw [4] (fun j wr => ∃ (k : Nat) (v : Value), k ≤ any.length ∧ j = .int .i64 k ∧ OwnS wr (w.heap.size + 3) v ((any.take k).map mkB) ∧ Below w.heap.size w wr ∧ Pbox wr w.heap.size (.string (mkB i)) (.slice a any.length cap) (.string (mkB f)) ∧ Pbox wr (w.heap.size + 1) (.string ⟨#[]⟩) (.slice none 0 0) (.string ⟨#[]⟩) ∧ Pbox wr (w.heap.size + 2) (.string (mkB i)) v (.string (mkB f)) ∧ w.heap.size + 3 ≤ wr.heap.size) (fun j _ => any.length - (intOf j).toNat)
  case atStart =>
    have P1 := Pbox.new w (.string (mkB i)) (.slice a any.length cap) (.string (mkB f))
    have B1 := (Below.refl w.heap.size w).alloc (Nat.le_refl _) (.cells #[.string (mkB i), .slice a any.length cap, .string (mkB f)] 24)
    generalize hw1 : w.alloc (.cells #[.string (mkB i), .slice a any.length cap, .string (mkB f)] 24) = w1 at *
    have z1 : w1.heap.size = w.heap.size + 1 := by rw [← hw1]; simp
    have P2 := Pbox.new w1 (.string ⟨#[]⟩) (.slice none 0 0) (.string ⟨#[]⟩)
    have P1' := P1.below ((Below.refl _ _).alloc (Nat.le_refl _) (.cells #[.string ⟨#[]⟩, .slice none 0 0, .string ⟨#[]⟩] 24))
    have B2 := B1.alloc B1.size (.cells #[.string ⟨#[]⟩, .slice none 0 0, .string ⟨#[]⟩] 24)
    generalize hw2 : w1.alloc (.cells #[.string ⟨#[]⟩, .slice none 0 0, .string ⟨#[]⟩] 24) = w2 at *
    have z2 : w2.heap.size = w1.heap.size + 1 := by rw [← hw2]; simp
    have P3 := Pbox.new w2 (.string (mkB i)) (.slice none 0 0) (.string (mkB f))
    have b3 := (Below.refl w2.heap.size w2).alloc (Nat.le_refl _) (.cells #[.string (mkB i), .slice none 0 0, .string (mkB f)] 24)
    rw [z1] at P2
    rw [z2, z1] at P3
    exact ⟨0, _, Nat.zero_le _, rfl, OwnS.nil _ _, B2.alloc B2.size _, P1'.below b3, P2.below b3, P3, by simp; omega⟩
  case round =>
    obtain ⟨k, v, hk1, rfl, hO, hB, P1, P2, P3, hz⟩ := hrel
    have c11 := P1.c1
    by_cases hlt : k < any.length
    · obtain ⟨x, hxk⟩ : ∃ x, any[k]? = some x := ⟨_, List.getElem?_eq_getElem hlt⟩
      have ht : any.take (k + 1) = any.take k ++ [x] := by
        rw [List.take_succ_eq_append_getElem hlt]
        rw [List.getElem?_eq_getElem hlt] at hxk
        rw [Option.some.inj hxk]
      obtain ⟨hxl, b, o, rfl, hb, hc⟩ := HC.out k x hxk
      have hcell : wr.cell? ⟨b, o + k, none⟩ = some (.string (mkB x)) := (hB.cell hb).trans hc
      have c31 := P3.c1
      have l1 : w.heap.size < wr.heap.size := by omega
      have l3 : w.heap.size + 2 < wr.heap.size := by omega
      have lb : b < wr.heap.size := by omega
      have hlen : ((any.take k).map mkB).length ≤ 1073741824 := by rw [List.length_map, List.length_take]; omega
      have HT := Lib.hid ht
      obtain ⟨i0, hi0, hzz⟩ := Option.map_eq_some_iff.1 info9
      simp only [Prod.mk.injEq] at hzz
      obtain ⟨hz0, hz1, hz2⟩ := hzz
      have HW := Lib.hid (((Below.refl wr.heap.size wr).alloc (Nat.le_refl _) (.cells #[.string (mkB x)] 9)).drew)
      have HI := Lib.hid hi0
      have HZ := Lib.hid (And.intro hz0 (And.intro hz1 hz2))
      have Q1 := P1.below HW.out
      have Q2 := P2.below HW.out
      have Q3 := P3.below HW.out
      have HOB := Lib.hid (fun kk hkk => (own_block hO kk hkk).1)
      have HBW := hB.trans (HW.out.mono hB.size)
      clear hxk ht hc hi0 hz0 hz1 hz2
      go_wp2_with (fail)
      go_region_law (refine step_append_lies _ rfl (.tmp 18) (.tmp 24) 22 rfl (w.heap.size + 3) 9 i0 (.string ⟨#[]⟩) 1 16 Tryz.underlying22 HI.out HZ.out.1 HZ.out.2.1 HZ.out.2.2 rfl (by decide) v _ (strsV ((any.take k).map mkB)) rfl (hO.below HW.out) ⟨wr.heap.size, 0, none⟩ 1 1 [.string (mkB x)] rfl rfl (World.news_of_block (heap_alloc_new wr (.cells #[.string (mkB x)] 9))) (by simp; rfl) (by decide) (by simp only [maxLen]; omega) (by omega) (by simp; omega) _ rfl ?_; intro g cp w1 hown hgrow hat hgl; have R3 := Q3.grown hgrow HOB.out (by omega); have d31 := R3.c1; have y31 := R3.fz 1)
      all_goals
        go_wp2
        have hk' : ((any.take k).map mkB).length = k := by rw [List.length_map, List.length_take]; omega
        rw [hk'] at hown
        have hO9 : OwnS w1 (w.heap.size + 3) (.slice (some ⟨g, 0, none⟩) (k + 1) cp) ((any.take (k + 1)).map mkB) := by
          unfold OwnS
          rw [HT.out, List.map_append, strsV_append, List.length_append, hk']
          exact hown
        have hB9 : Below w.heap.size w w1 := HBW.grown hgrow HBW.size (fun kk hkk => by have := HOB.out kk hkk; omega)
        have R1 := Q1.grown hgrow HOB.out (by omega)
        have R2 := Q2.grown hgrow HOB.out (by omega)
        have hs := R3.lt
        exact ⟨⟨k + 1, _, by omega, by go_num, own_set hO9 (w.heap.size + 2) 1 _ (by omega), hB9.setCell (show w.heap.size ≤ w.heap.size + 2 by omega) _, R1.blk (below_set w1 (w.heap.size + 2) 1 _) (by omega), R2.blk (below_set w1 (w.heap.size + 2) 1 _) (by omega), R3.set1 _, by simp [World.setCell]; omega⟩, by simp [intOf]; omega⟩
    · obtain ⟨a2, n2, c2, rfl⟩ := own_slice hO
      rw [List.take_of_length_le (by omega)] at hO
      have c30 := P3.c0
      have c31 := P3.c1
      have c32 := P3.c2
      have c20 := P2.c0
      have c21 := P2.c1
      have c22 := P2.c2
      have z0 := P2.fz 0
      have z1 := P2.fz 1
      have z2 := P2.fz 2
      go_wp2
      refine copied_ret w wr _ (w.heap.size + 1) (w.heap.size + 3) i f any (.slice a2 n2 c2) _ _ _ (by omega) hB P2 hO (by omega) (by omega) ?_ ?_ <;> rfl
end Go.Proofs.YtmgfikfcnhhnhaaGreatDoor
