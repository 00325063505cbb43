/- match: Parts. -/
import Derived.Test.YtmgfikfcnhhnhaaGreatDoorFitsW
import Derived.RangeFuncBox
namespace Go.Proofs.YtmgfikfcnhhnhaaGreatDoor
open Go.RowKit

def KindAt (i : Nat) (t : TypeId) (w : World) : Prop := w.cell? ⟨0, i, none⟩ = some (.iface t (.agg #[]))
theorem KindAt.below {i : Nat} {t : TypeId} {w w1 : World} (h : KindAt i t w) (hb : Below w.heap.size w w1) : KindAt i t w1 := (hb.cell (World.block_lt_of_cell? w _ h)).trans h

set_option maxRecDepth 100000 in
theorem of_k (k : Nat) (T : TypeId) (w : World) (hk : k < 15) (h : KindAt k T w) : Calls Tryz.prog 28 #[.int .i64 (k : Int)] w fun e w' => e = .returned (.iface T (.agg #[])) ∧ w = w' := by
  unfold KindAt at h
  go_enter Tryz.func28, Tryz.ntmps28
  go_wp2
  go_ret
  exact ⟨rfl, rfl⟩

/-- A pattern's box: a block of three cells. -/
def Pbox (W : World) (B : Nat) (a b c : Value) : Prop := W.heap[B]? = some (.cells #[a, b, c] 24 (0, 0))
section
variable {W W1 : World} {B N : Nat} {a b c : Value}
theorem Pbox.lt (h : Pbox W B a b c) : B < W.heap.size := (Array.getElem?_eq_some_iff.1 h).1
theorem Pbox.c0 (h : Pbox W B a b c) : W.cell? ⟨B, 0, none⟩ = some a := by simp [World.cell?, show W.heap[B]? = _ from h]
theorem Pbox.c1 (h : Pbox W B a b c) : W.cell? ⟨B, 1, none⟩ = some b := by simp [World.cell?, show W.heap[B]? = _ from h]
theorem Pbox.c2 (h : Pbox W B a b c) : W.cell? ⟨B, 2, none⟩ = some c := by simp [World.cell?, show W.heap[B]? = _ from h]
theorem Pbox.fz (h : Pbox W B a b c) (i : Nat) : W.frozen? ⟨B, i, none⟩ = false := by simp [World.frozen?, show W.heap[B]? = _ from h]
theorem Pbox.new (W : World) (a b c : Value) : Pbox (W.alloc (.cells #[a, b, c] 24)) W.heap.size a b c := World.alloc_heap_new W _
theorem Pbox.blk (h : Pbox W B a b c) (hb : Below N W W1) (hn : B < N) : Pbox W1 B a b c := (hb.block B hn).trans h
theorem Pbox.below (h : Pbox W B a b c) (hb : Below W.heap.size W W1) : Pbox W1 B a b c := h.blk hb h.lt
theorem Pbox.set (h : Pbox W B a b c) (i : Nat) (v : Value) : (W.setCell ⟨B, i, none⟩ v).heap[B]? = some (.cells (#[a, b, c].setIfInBounds i v) 24 (0, 0)) := by
  simp [World.setCell, Array.getElem?_modify, show W.heap[B]? = _ from h]
theorem Pbox.set0 (h : Pbox W B a b c) (v : Value) : Pbox (W.setCell ⟨B, 0, none⟩ v) B v b c := h.set 0 v
theorem Pbox.set1 (h : Pbox W B a b c) (v : Value) : Pbox (W.setCell ⟨B, 1, none⟩ v) B a v c := h.set 1 v
theorem Pbox.set2 (h : Pbox W B a b c) (v : Value) : Pbox (W.setCell ⟨B, 2, none⟩ v) B a b v := h.set 2 v
end
theorem below_set (W : World) (b i : Nat) (v : Value) : Below b W (W.setCell ⟨b, i, none⟩ v) := (Below.refl b W).setCell (Nat.le_refl _) v

/-- What Parts and pattern give back. -/
def PatPost (q : Option Pat) (w : World) (e : Ending) (w' : World) : Prop := match q with
  | none => e = .returned (.tuple #[.agg #[.string ⟨#[]⟩, .slice none 0 0, .string ⟨#[]⟩], .bool false]) ∧ Below w.heap.size w w'
  | some p => ∃ v, e = .returned (.tuple #[.agg #[.string (mkB p.1), v, .string (mkB p.2.2)], .bool true]) ∧ RowS w' v p.2.1 ∧ Below w.heap.size w w'

theorem parts_empty {T : TypeId} (K : KindC T) : partsN K ([], [], []) = none := rfl
theorem parts_i {T : TypeId} (K : KindC T) (i f : List UInt8) (any : List (List UInt8)) (h : K.po i = false) : partsN K (i, any, f) = none := by
  unfold partsN
  split
  · rfl
  · rw [if_neg (by simp [h])]
theorem parts_f {T : TypeId} (K : KindC T) (i f : List UInt8) (any : List (List UInt8)) (h : K.po f = false) : partsN K (i, any, f) = none := by
  unfold partsN
  split
  · rfl
  · rw [if_neg (by simp [h])]
theorem parts_all {T : TypeId} (K : KindC T) (i f : List UInt8) (any : List (List UInt8)) (h0 : ¬ (i = [] ∧ f = [] ∧ any = [])) (h1 : K.po i = true) (h2 : K.po f = true) :
    partsN K (i, any, f) = if any.all K.po = true then some (K.t1 (K.pc i), any.map K.pc, K.t2 (K.pc f)) else none := by
  unfold partsN
  rw [if_neg h0]
  simp [h1, h2]

theorem info9 : (Tryz.prog.info? 9).map (fun i => (i.zero, i.size, i.bytes)) = some (some (.string ⟨#[]⟩), 1, 16) := by kernel_rfl
theorem parts_none (w wz : World) (a : Act) (B : Nat) (hw : w.heap.size ≤ B) (hB : Below w.heap.size w wz) (P4 : Pbox wz B (.string ⟨#[]⟩) (.slice none 0 0) (.string ⟨#[]⟩))
    (h4 : (a.tmps[4]?).getD undef = .pointer (some ⟨B, 0, none⟩)) (h5 : (a.tmps[5]?).getD undef = .bool false) (hd : a.defers = []) :
    bodyPost Tryz.prog Tryz.f12 (PatPost none w) Exit.ret a (((wz.setCell ⟨B, 0, none⟩ (.string ⟨#[]⟩)).setCell ⟨B, 1, none⟩ (.slice none 0 0)).setCell ⟨B, 2, none⟩ (.string ⟨#[]⟩)) := by
  have P5 := ((P4.set0 (.string ⟨#[]⟩)).set1 (.slice none 0 0)).set2 (.string ⟨#[]⟩)
  exact bodyPost_ret (v := .tuple #[.agg #[.string ⟨#[]⟩, .slice none 0 0, .string ⟨#[]⟩], .bool false]) (by simp [results, Tryz.results12, go_sem, P5.c0, P5.c1, P5.c2, h4, h5]) hd ⟨rfl, ((hB.setCell hw _).setCell hw _).setCell hw _⟩
theorem own_set {w : World} {base : Nat} {v : Value} {l : List ByteArray} (h : OwnS w base v l) (b i : Nat) (u : Value) (hb : b < base) : OwnS (w.setCell ⟨b, i, none⟩ u) base v l := by
  refine World.ownsRow.kept (row := some b) h ⟨rfl, rfl, rfl, (KeepsWalks.setCell w _ u).size, fun k _ hk => Below.heap_setCell _ _ _ k (fun e => hk (by rw [e]))⟩ ?_
  right
  intro e
  have := (own_block h b e).1
  omega
theorem OwnS.row {w : World} {base : Nat} {v : Value} {xs : List (List UInt8)} (h : OwnS w base v (xs.map mkB)) (hl : xs.length ≤ LIM) (hx : ∀ x ∈ xs, x.length ≤ LIM) : RowS w v xs := by
  rcases own_form h with ⟨rfl, hz⟩ | ⟨g, cap, rfl, _, hg, _, _⟩
  · rw [List.length_map] at hz
    obtain rfl := List.eq_nil_of_length_eq_zero hz
    exact ⟨none, 0, rfl, by simp, fun j x hj => by simp at hj⟩
  · refine ⟨some ⟨g, 0, none⟩, cap, by rw [List.length_map], hl, fun j x hj => ⟨hx x (List.mem_of_getElem? hj), g, 0, rfl, hg, ?_⟩⟩
    rw [Nat.zero_add]
    exact (own_cell h j (.string (mkB x)) (by simp only [strsV, List.getElem?_map, hj]; rfl)).1
theorem own_snoc {w : World} {base : Nat} {v : Value} {l : List ByteArray} {y : ByteArray} (h : OwnS w base v (l ++ [y])) : ∃ g n c, v = .slice (some ⟨g, 0, none⟩) n c := by
  rcases own_form h with ⟨_, hz⟩ | ⟨g, cap, rfl, _, _, _, _⟩
  · simp at hz
  · exact ⟨g, _, cap, rfl⟩
theorem own_slice {w : World} {base : Nat} {v : Value} {l : List ByteArray} (h : OwnS w base v l) : ∃ a n c, v = .slice a n c := by
  rcases own_form h with ⟨rfl, _⟩ | ⟨g, cap, rfl, _, _, _, _⟩
  · exact ⟨none, 0, 0, rfl⟩
  · exact ⟨_, _, cap, rfl⟩
theorem parts_some (w wz : World) (a : Act) (B base : Nat) (p : Pat) (v x0 x1 x2 : Value) (hw : w.heap.size ≤ B) (hB : Below w.heap.size w wz) (P4 : Pbox wz B x0 x1 x2) (hO : OwnS wz base v (p.2.1.map mkB)) (hb : B < base)
    (hl : p.2.1.length ≤ LIM) (hx : ∀ x ∈ p.2.1, x.length ≤ LIM) (h4 : (a.tmps[4]?).getD undef = .pointer (some ⟨B, 0, none⟩)) (h5 : (a.tmps[5]?).getD undef = .bool true) (hd : a.defers = []) :
    bodyPost Tryz.prog Tryz.f12 (PatPost (some p) w) Exit.ret a (((wz.setCell ⟨B, 0, none⟩ (.string (mkB p.1))).setCell ⟨B, 1, none⟩ v).setCell ⟨B, 2, none⟩ (.string (mkB p.2.2))) := by
  have P5 := ((P4.set0 (.string (mkB p.1))).set1 v).set2 (.string (mkB p.2.2))
  have hO2 := own_set (own_set (own_set hO B 0 (.string (mkB p.1)) hb) B 1 v hb) B 2 (.string (mkB p.2.2)) hb
  exact bodyPost_ret (v := .tuple #[.agg #[.string (mkB p.1), v, .string (mkB p.2.2)], .bool true]) (by simp [results, Tryz.results12, go_sem, P5.c0, P5.c1, P5.c2, h4, h5]) hd
    ⟨v, rfl, hO2.row hl hx, ((hB.setCell hw _).setCell hw _).setCell hw _⟩
theorem isE_ne {l : List UInt8} (h : l ≠ []) : (mkB l).toList.isEmpty = false := by rw [mkB_toList, List.isEmpty_eq_false_iff]; exact h
theorem isE_nil : (mkB []).toList.isEmpty = true := by rw [mkB_toList]; rfl

set_option maxRecDepth 100000 in
set_option maxHeartbeats 2000000 in
theorem match_Parts {T : TypeId} (K : KindC T) (s : Nat) (hs : s < 15) (i f : List UInt8) (any : List (List UInt8)) (v : Value) (w : World) (hi : i.length ≤ LIM) (hf : f.length ≤ LIM) (hx : MaxL w) (hk : KindAt s T w) (hR : RowS w v any) :
    Calls Tryz.prog 12 #[.int .i64 (s : Int), .agg #[.string (mkB i), v, .string (mkB f)]] w (PatPost (partsN K (i, any, f)) w) := by
  have HO := Lib.hid (fun W hW => of_k s T W hs hW)
  have hmp := K.mp
  have hep := K.ep
  have hec := K.ec
  have het := K.et
  have hmc := K.mc
  have hmt := K.mt
  by_cases h0 : i = [] ∧ f = [] ∧ any = []
  · obtain ⟨rfl, rfl, rfl⟩ := h0
    obtain ⟨a, cap, rfl, hal, hC⟩ := hR
    rw [parts_empty]
    go_enter Tryz.func12, Tryz.ntmps12
    go_wp2_with (fail)
    refine (HO.out _ (hk.below (((Below.refl _ _).alloc (Nat.le_refl _) _).alloc (by simp) _))).mono ?_
    rintro e w1 ⟨rfl, rfl⟩
    go_wp2_with (fail)
    refine (K.cp _).mono ?_
    rintro e w2 ⟨rfl, hb⟩
    have hB : Below w.heap.size w w2 := below_then (((Below.refl _ _).alloc (Nat.le_refl _) _).alloc (by simp) _) (by simp; omega) hb
    have P3 : Pbox w2 w.heap.size (.string (mkB [])) (.slice a 0 cap) (.string (mkB [])) := ((Pbox.new w _ _ _).below ((Below.refl _ _).alloc (Nat.le_refl _) _)).below hb
    have P4 : Pbox w2 (w.heap.size + 1) (.string ⟨#[]⟩) (.slice none 0 0) (.string ⟨#[]⟩) := by
      have h := (Pbox.new (w.alloc (.cells #[.string (mkB []), .slice a 0 cap, .string (mkB [])] 24)) (.string ⟨#[]⟩) (.slice none 0 0) (.string ⟨#[]⟩)).below hb
      simpa using h
    have c30 := P3.c0
    have c31 := P3.c1
    have c32 := P3.c2
    have c40 := P4.c0
    have c41 := P4.c1
    have c42 := P4.c2
    have z0 := P4.fz 0
    have z1 := P4.fz 1
    have z2 := P4.fz 2
    have hem : (mkB []).toList.isEmpty = true := by rw [mkB_toList]; rfl
    go_wp2
    exact parts_none w w2 _ (w.heap.size + 1) (by omega) hB P4 rfl rfl rfl
  · obtain ⟨a, cap, rfl, hal, hC⟩ := hR
    have HC := Lib.hid hC
    unfold LIM at hal
    clear hC
    have CI := Lib.hid (fun W hW => K.cc i W hi hW)
    have CF := Lib.hid (fun W hW => K.cc f W hf hW)
    have PA := Lib.hid (parts_all K i f any h0)
    have PI := Lib.hid (parts_i K i f any)
    have PF := Lib.hid (parts_f K i f any)
    have h3 : ((mkB i).toList.isEmpty = false) ∨ ((mkB i).toList.isEmpty = true ∧ (mkB f).toList.isEmpty = false) ∨ ((mkB i).toList.isEmpty = true ∧ (mkB f).toList.isEmpty = true ∧ 0 < any.length) := by
      by_cases h1 : i = []
      · by_cases h2 : f = []
        · exact .inr (.inr ⟨by rw [h1]; exact isE_nil, by rw [h2]; exact isE_nil, List.length_pos_iff.2 fun h => h0 ⟨h1, h2, h⟩⟩)
        · exact .inr (.inl ⟨by rw [h1]; exact isE_nil, isE_ne h2⟩)
      · exact .inl (isE_ne h1)
    clear h0
    rcases h3 with h3 | ⟨h3, h4⟩ | ⟨h3, h4, h5⟩
    all_goals
      go_enter Tryz.func12, Tryz.ntmps12
      go_wp2_with (fail)
      refine (HO.out _ (hk.below (((Below.refl _ _).alloc (Nat.le_refl _) _).alloc (by simp) _))).mono ?_
      rintro e w1 ⟨rfl, rfl⟩
      go_wp2_with (fail)
      refine (K.cp _).mono ?_
      rintro e w2 ⟨rfl, hb⟩
      have hB : Below w.heap.size w w2 := below_then (((Below.refl _ _).alloc (Nat.le_refl _) _).alloc (by simp) _) (by simp; omega) hb
      have P3 : Pbox w2 w.heap.size (.string (mkB i)) (.slice a any.length cap) (.string (mkB f)) := ((Pbox.new w _ _ _).below ((Below.refl _ _).alloc (Nat.le_refl _) _)).below hb
      have P4 : Pbox w2 (w.heap.size + 1) (.string ⟨#[]⟩) (.slice none 0 0) (.string ⟨#[]⟩) := by
        have h := (Pbox.new (w.alloc (.cells #[.string (mkB i), .slice a any.length cap, .string (mkB f)] 24)) (.string ⟨#[]⟩) (.slice none 0 0) (.string ⟨#[]⟩)).below hb
        simpa using h
      clear hb
      have c30 := P3.c0
      have c31 := P3.c1
      have c32 := P3.c2
      have k3 := P3.lt
      have k4 := P4.lt
      go_wp2_with (fail)
      refine (CI.out _ ((hx.below hB).below ((Below.refl _ _).alloc (Nat.le_refl _) _))).mono ?_
      rintro e w3 ⟨rfl, hb⟩
      have hB3 : Below w.heap.size w w3 := below_then (hB.alloc hB.size _) (by have := hB.size; simp; omega) hb
      have Q3 := (P3.below ((Below.refl _ _).alloc (Nat.le_refl _) _)).below hb
      have Q4 := (P4.below ((Below.refl _ _).alloc (Nat.le_refl _) _)).below hb
      have Q7 := (Pbox.new w2 (.string ⟨#[]⟩) (.slice none 0 0) (.string ⟨#[]⟩)).below hb
      have k7 := Q7.lt
      clear hb P3 P4 c30 c31 c32 hB k3
      generalize w2.heap.size = B7 at *
      have c32 := Q3.c2
      go_wp2_with (fail)
      refine (CF.out _ (hx.below hB3)).mono ?_
      rintro e w4 ⟨rfl, hb⟩
      have hB := below_then hB3 hB3.size hb
      have P3 := Q3.below hb
      have P4 := Q4.below hb
      have P7 := Q7.below hb
      have j7 := P7.lt
      clear hb Q3 Q4 Q7 c32 hB3 k7
      have c40 := P4.c0
      have c41 := P4.c1
      have c42 := P4.c2
      have z0 := P4.fz 0
      have z1 := P4.fz 1
      have z2 := P4.fz 2
      cases hpi : K.po i with
      | false =>
        have HE := Lib.hid (PI.out hpi)
        clear hpi PI PF PA
        go_wp2
        rw [HE.out]
        refine parts_none w w4 _ (w.heap.size + 1) (by omega) hB P4 ?_ ?_ ?_ <;> rfl
      | true =>
        cases hpf : K.po f with
        | false =>
          have HE := Lib.hid (PF.out hpf)
          clear hpi hpf PI PF PA
          go_wp2
          rw [HE.out]
          refine parts_none w w4 _ (w.heap.size + 1) (by omega) hB P4 ?_ ?_ ?_ <;> rfl
        | true =>
          have HE := Lib.hid (PA.out hpi hpf)
          have hl1 := Nat.le_trans (K.lc i) hi
          have hl2 := Nat.le_trans (K.lc f) hf
          have T1 := Lib.hid (fun W => K.ct (K.pc i) W hl1)
          have T2 := Lib.hid (fun W => K.ct (K.pc f) W hl2)
          clear hpi hpf PI PF PA c40 c41 c42 z0 z1 z2 hl1 hl2
          go_wp2_with (fail)
          refine (T1.out _).mono ?_
          rintro e w5 ⟨rfl, hb⟩
          have hB5 := below_then hB hB.size hb
          have Q3 := P3.below hb
          have Q4 := P4.below hb
          have Q7 := P7.below hb
          have j5 := hb.size
          clear hb P3 P4 P7 hB
          have c70 := Q7.c0
          have y0 := Q7.fz 0
          go_wp2_with (fail)
          refine (T2.out _).mono ?_
          rintro e w6 ⟨rfl, hb⟩
          have hS := below_set w5 B7 0 (.string (mkB (K.t1 (K.pc i))))
          have hB6 := below_then (hB5.setCell (show w.heap.size ≤ B7 by omega) _) (by have := hB5.size; simp; omega) hb
          have P3 := (Q3.blk hS (by omega)).below hb
          have P4 := (Q4.blk hS (by omega)).below hb
          have P7 := (Q7.set0 (.string (mkB (K.t1 (K.pc i))))).below hb
          have j6 := hb.size
          simp [World.setCell] at j6
          clear hb hS Q3 Q4 Q7 c70 y0 hB5
          have c72 := P7.c2
          have y2 := P7.fz 2
          have c31 := P3.c1
          go_wp2
          go_loopw [76] (fun j wr => ∃ (k : Nat) (v : Value), k ≤ any.length ∧ j = .int .i64 k ∧ Hid (any.all K.po = (any.drop k).all K.po) ∧ OwnS wr (B7 + 1) v (((any.take k).map K.pc).map mkB) ∧ Below w.heap.size w wr ∧ Pbox wr (w.heap.size + 1) (.string ⟨#[]⟩) (.slice none 0 0) (.string ⟨#[]⟩) ∧ Pbox wr B7 (.string (mkB (K.t1 (K.pc i)))) v (.string (mkB (K.t2 (K.pc f))))) (fun j _ => any.length - (intOf j).toNat)
          case atStart => exact ⟨0, _, Nat.zero_le _, rfl, Lib.hid rfl, OwnS.nil _ _, hB6.setCell (show w.heap.size ≤ B7 by omega) _, P4.blk (below_set w6 B7 2 _) (by omega), P7.set2 _⟩
          case round =>
            obtain ⟨k, v, hk1, rfl, HA, hO, hB, P4, P7⟩ := hrel
            have ha := HA.out
            clear HA
            have jr := P7.lt
            by_cases hlt : k < any.length
            · obtain ⟨x, hxk⟩ : ∃ x, any[k]? = some x := ⟨_, List.getElem?_eq_getElem hlt⟩
              have hd : any.drop k = x :: any.drop (k + 1) := by
                rw [List.drop_eq_getElem_cons hlt]
                rw [List.getElem?_eq_getElem hlt] at hxk
                rw [Option.some.inj hxk]
              have ht : any.take (k + 1) = any.take k ++ [x] := by
                rw [List.take_succ_eq_append_getElem hlt]
                rw [List.getElem?_eq_getElem hlt] at hxk
                rw [Option.some.inj hxk]
              obtain ⟨hxl, b, o, rfl, hb, hc⟩ := HC.out k x hxk
              have hcell : wr.cell? ⟨b, o + k, none⟩ = some (.string (mkB x)) := (hB.cell hb).trans hc
              have CX := Lib.hid (fun W hW => K.cc x W hxl hW)
              have hlo : ((((any.take k).map K.pc).map mkB)).length + 1 ≤ 8796093022208 := by
                rw [List.length_map, List.length_map, List.length_take]
                omega
              rw [hd, List.all_cons] at ha
              have HT := Lib.hid ht
              clear hd hxk ht hc
              cases hq : K.po x with
              | false =>
                rw [hq, Bool.false_and] at ha
                rw [hq] at CX
                have HA := Lib.hid ha
                clear ha hq
                go_wp2_with (fail)
                refine (CX.out _ (hx.below hB)).mono ?_
                rintro e w7 ⟨rfl, hb7⟩
                have hB7 := below_then hB hB.size hb7
                have R4 := P4.below hb7
                have c40 := R4.c0
                have c41 := R4.c1
                have c42 := R4.c2
                have z0 := R4.fz 0
                have z1 := R4.fz 1
                have z2 := R4.fz 2
                clear P4 P7 hb7 hB hO
                go_wp2
                rw [HE.out, if_neg (by rw [HA.out]; simp)]
                refine parts_none w w7 _ (w.heap.size + 1) (by omega) hB7 R4 ?_ ?_ ?_ <;> rfl
              | true =>
                rw [hq, Bool.true_and] at ha
                rw [hq] at CX
                have HA := Lib.hid ha
                clear ha hq
                go_wp2_with (fail)
                refine (CX.out _ (hx.below hB)).mono ?_
                rintro e w7 ⟨rfl, hb7⟩
                have hB7 := below_then hB hB.size hb7
                have R4 := P4.below hb7
                have R7 := P7.below hb7
                have hO7 := hO.below hb7
                have j7 := hb7.size
                clear P4 P7 hb7 hB hO
                have c71 := R7.c1
                have hbs : B7 + 1 ≤ w7.heap.size := by omega
                go_wp2_with (at_builtin; refine append_str (w0 := w7) (B7 + 1) rfl (.tmp 90) (.tmp 92) 22 rfl Tryz.underlying22 info9 _ (((any.take k).map K.pc).map mkB) (mkB (K.pc x)) rfl rfl hO7 (Below.refl _ _) hbs hlo ?_; intro v1 w8 hO8 hB8; obtain ⟨g1, n1, p1, rfl⟩ := own_snoc hO8; have S7 := R7.blk hB8 (Nat.lt_succ_self B7); have c71 := S7.c1; have y1 := S7.fz 1)
                refine ⟨⟨k + 1, _, by omega, by go_num, Lib.hid HA.out, ?_, ((hB7.trans (hB8.mono (by omega))).setCell (show w.heap.size ≤ B7 by omega) _), (R4.blk hB8 (by omega)).blk (below_set w8 B7 1 _) (by omega), S7.set1 _⟩, by simp [intOf]; omega⟩
                rw [HT.out, List.map_append, List.map_append]
                exact own_set hO8 B7 1 _ (Nat.lt_succ_self B7)
            · have hbnd : ∀ x ∈ any.map K.pc, x.length ≤ LIM := by
                intro x hxm
                obtain ⟨y, hy, rfl⟩ := List.mem_map.1 hxm
                obtain ⟨j, hj⟩ := List.mem_iff_getElem?.1 hy
                exact Nat.le_trans (K.lc y) (HC.out j y hj).1
              have hall : any.all K.po = true := by rw [ha, List.drop_eq_nil_of_le (by omega)]; rfl
              rw [List.take_of_length_le (by omega)] at hO
              obtain ⟨a2, n2, c2, rfl⟩ := own_slice hO
              have HA := Lib.hid hall
              have HB := Lib.hid hbnd
              clear ha hall hbnd
              have c70 := P7.c0
              have c71 := P7.c1
              have c72 := P7.c2
              have c40 := P4.c0
              have c41 := P4.c1
              have c42 := P4.c2
              have z0 := P4.fz 0
              have z1 := P4.fz 1
              have z2 := P4.fz 2
              go_wp2
              rw [HE.out, if_pos HA.out]
              refine parts_some w wr _ (w.heap.size + 1) (B7 + 1) _ (.slice a2 n2 c2) _ _ _ (by omega) hB P4 hO (by omega) (by rw [List.length_map]; exact hal) HB.out ?_ ?_ ?_ <;> rfl
end Go.Proofs.YtmgfikfcnhhnhaaGreatDoor
