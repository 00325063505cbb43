/- MatchByPieces: the law's own walk. -/
import Derived.Test.YtmgfikfcnhhnhaaGreatDoorSixW
import Derived.Test.YtmgfikfcnhhnhaaGreatDoorCopyW
import Derived.Test.YtmgfikfcnhhnhaaGreatDoorStar
import Derived.Deep.RegionHeld3
namespace Go.Proofs.YtmgfikfcnhhnhaaGreatDoor
open Go.RowKit

theorem mk_app (a b : List UInt8) : mkB a ++ mkB b = mkB (a ++ b) := by
  apply ByteArray.ext
  apply Array.toList_inj.1
  rw [ByteArray.data_append, Array.toList_append]
  rfl
theorem mk_end (a : List UInt8) (c : UInt8) : mkB a ++ (⟨#[c]⟩ : ByteArray) = mkB (a ++ [c]) := mk_app a [c]
theorem mk_end2 (a : List UInt8) (c d : UInt8) : mkB a ++ (⟨#[c, d]⟩ : ByteArray) = mkB (a ++ [c, d]) := mk_app a [c, d]
attribute [local go_sem] mk_app mk_end mk_end2 mkB_size

/-- A block whose first cells are these strings. -/
def GBox (w : World) (g : Nat) (l : List (List UInt8)) : Prop := ∃ cs, w.heap[g]? = some (.cells cs 9 (0, 0)) ∧ ∀ (j : Nat) (x : List UInt8), l[j]? = some x → cs[j]? = some (.string (mkB x))
section
variable {w w1 : World} {g N : Nat} {l : List (List UInt8)}
theorem GBox.lt (h : GBox w g l) : g < w.heap.size := by
  obtain ⟨cs, h1, _⟩ := h
  exact (Array.getElem?_eq_some_iff.1 h1).1
theorem GBox.cell (h : GBox w g l) (j : Nat) (x : List UInt8) (hx : l[j]? = some x) : w.cell? ⟨g, j, none⟩ = some (.string (mkB x)) := by
  obtain ⟨cs, h1, h2⟩ := h
  rw [← h2 j x hx]
  simp [World.cell?, h1]
theorem GBox.fz (h : GBox w g l) (j : Nat) : w.frozen? ⟨g, j, none⟩ = false := by
  obtain ⟨cs, h1, _⟩ := h
  simp [World.frozen?, h1]
theorem GBox.blk (h : GBox w g l) (hb : Below N w w1) (hn : g < N) : GBox w1 g l := by
  obtain ⟨cs, h1, h2⟩ := h
  exact ⟨cs, (hb.block g hn).trans h1, h2⟩
theorem GBox.below (h : GBox w g l) (hb : Below w.heap.size w w1) : GBox w1 g l := h.blk hb h.lt
theorem GBox.set (h : GBox w g l) (k : Nat) (y : List UInt8) (hk : k < l.length) : GBox (w.setCell ⟨g, k, none⟩ (.string (mkB y))) g (l.set k y) := by
  obtain ⟨cs, h1, h2⟩ := h
  refine ⟨cs.setIfInBounds k (.string (mkB y)), by simp [World.setCell, Array.getElem?_modify, h1], fun j x hx => ?_⟩
  have hkc : k < cs.size := by
    obtain ⟨z, hz⟩ : ∃ z, l[k]? = some z := ⟨_, List.getElem?_eq_getElem hk⟩
    exact (Array.getElem?_eq_some_iff.1 (h2 k z hz)).1
  by_cases e : k = j
  · subst e
    rw [List.getElem?_set_self hk] at hx
    cases hx
    rw [Array.getElem?_setIfInBounds_self_of_lt hkc]
  · rw [List.getElem?_set_ne e] at hx
    rw [Array.getElem?_setIfInBounds_ne e]
    exact h2 j x hx
end
/-- The row of a copied pattern: nothing, or a block of its own. -/
def WR (w : World) (a : Option Addr) (base B : Nat) (l : List (List UInt8)) : Prop := l = [] ∨ ∃ g, a = some ⟨g, 0, none⟩ ∧ base ≤ g ∧ g ≠ B ∧ GBox w g l
theorem WR.below {w w1 : World} {a : Option Addr} {base B : Nat} {l : List (List UInt8)} (h : WR w a base B l) (hb : Below w.heap.size w w1) : WR w1 a base B l := by
  rcases h with h | ⟨g, h1, h2, h3, h4⟩
  · exact .inl h
  · exact .inr ⟨g, h1, h2, h3, h4.below hb⟩
theorem WR.of_own {w : World} {base B n c : Nat} {a : Option Addr} {l : List (List UInt8)} (h : OwnS w base (.slice a n c) (l.map mkB)) (hB : w.heap.size ≤ B) : WR w a base B l := by
  rcases h.2 with ⟨h1, h2⟩ | ⟨g, cap, cur, h0, h1, h2, _, _⟩
  · left
    rw [List.length_map] at h2
    exact List.eq_nil_of_length_eq_zero h2
  · right
    cases h0
    have hg : g < w.heap.size := (Array.getElem?_eq_some_iff.1 h2).1
    refine ⟨g, rfl, h1, by omega, cur, h2, fun j x hx => ?_⟩
    have hc := (own_cell h j (.string (mkB x)) (by simp only [strsV, List.getElem?_map, hx]; rfl)).1
    simpa [World.cell?, h2] using hc
theorem WR.row {w : World} {a : Option Addr} {base B c : Nat} {l : List (List UInt8)} (h : WR w a base B l) (hl : l.length ≤ LIM) (hx : ∀ x ∈ l, x.length ≤ LIM) : RowS w (.slice a l.length c) l := by
  refine ⟨a, c, rfl, hl, fun j x hj => ⟨hx x (List.mem_of_getElem? hj), ?_⟩⟩
  rcases h with h | ⟨g, h1, _, _, h4⟩
  · subst h
    simp at hj
  · exact ⟨g, 0, h1, h4.lt, by rw [Nat.zero_add]; exact h4.cell j x hj⟩

/-- An empty piece is written as a star. -/
def fx (x : List UInt8) : List UInt8 := if x = [] then [42] else x
theorem fx_ne (x : List UInt8) : fx x ≠ [] := by
  unfold fx
  split
  · simp
  · assumption
theorem mid_at (any : List (List UInt8)) (k : Nat) (x : List UInt8) (hk : any[k]? = some x) : ((any.map fx).take k ++ any.drop k)[k]? = some x := by
  have hlt := (List.getElem?_eq_some_iff.1 hk).1
  rw [List.getElem?_append_right (by simp; omega)]
  rw [List.length_take, List.length_map, Nat.min_eq_left (by omega), Nat.sub_self, List.getElem?_drop]
  exact hk
theorem mid_set (any : List (List UInt8)) (k : Nat) (x : List UInt8) (hk : any[k]? = some x) : ((any.map fx).take k ++ any.drop k).set k (fx x) = (any.map fx).take (k + 1) ++ any.drop (k + 1) := by
  obtain ⟨hlt, he⟩ := List.getElem?_eq_some_iff.1 hk
  rw [List.take_succ_eq_append_getElem (by rw [List.length_map]; exact hlt), List.getElem_map, he, List.drop_eq_getElem_cons hlt, he, List.set_append_right _ _ (by simp; omega)]
  have e : k - ((any.map fx).take k).length = 0 := by rw [List.length_take, List.length_map]; omega
  rw [e]
  simp
theorem set_same (l : List (List UInt8)) (k : Nat) (x : List UInt8) (h : l[k]? = some x) : l.set k x = l := by
  apply List.ext_getElem?
  intro j
  by_cases e : k = j
  · subst e
    rw [List.getElem?_set_self (List.getElem?_eq_some_iff.1 h).1, h]
  · rw [List.getElem?_set_ne e]
theorem front_len (i : List UInt8) (l : List (List UInt8)) (k : Nat) : (frontL i (l.take k)).length ≤ (frontL i l).length := by
  conv => rhs; rw [← List.take_append_drop k l]
  unfold frontL
  rw [List.flatMap_append, List.length_append, List.length_append, List.length_append]
  omega
theorem star_call (x : List UInt8) (hx : x.length ≤ LIM) (W : World) : Calls Tryz.prog 5 #[.string (mkB x)] W fun e w' => e = .returned (.string (mkB (starL x))) ∧ Below W.heap.size W w' := by
  have h := law_starred (mkB x) W (by rw [mkB_size]; unfold LIM at hx; omega)
  rwa [mkB_data] at h

theorem keep5 {wr W W' : World} {a b c d e : Addr} {v1 v2 v3 v4 v5 : Value} (hb : Below W.heap.size W W') (h : W.cell? a = some v1 ∧ W.cell? b = some v2 ∧ W.cell? c = some v3 ∧ W.cell? d = some v4 ∧ W.cell? e = some v5 ∧ Below wr.heap.size wr W) :
    W'.cell? a = some v1 ∧ W'.cell? b = some v2 ∧ W'.cell? c = some v3 ∧ W'.cell? d = some v4 ∧ W'.cell? e = some v5 ∧ Below wr.heap.size wr W' :=
  ⟨(hb.cell (World.block_lt_of_cell? W a h.1)).trans h.1, (hb.cell (World.block_lt_of_cell? W b h.2.1)).trans h.2.1, (hb.cell (World.block_lt_of_cell? W c h.2.2.1)).trans h.2.2.1, (hb.cell (World.block_lt_of_cell? W d h.2.2.2.1)).trans h.2.2.2.1, (hb.cell (World.block_lt_of_cell? W e h.2.2.2.2.1)).trans h.2.2.2.2.1, below_then h.2.2.2.2.2 h.2.2.2.2.2.size hb⟩
theorem drew5 {wr W : World} {a b c d e : Addr} {v1 v2 v3 v4 v5 : Value} (h : W.cell? a = some v1 ∧ W.cell? b = some v2 ∧ W.cell? c = some v3 ∧ W.cell? d = some v4 ∧ W.cell? e = some v5 ∧ Below wr.heap.size wr W) :
    W.drew.cell? a = some v1 ∧ W.drew.cell? b = some v2 ∧ W.drew.cell? c = some v3 ∧ W.drew.cell? d = some v4 ∧ W.drew.cell? e = some v5 ∧ Below wr.heap.size wr W.drew :=
  ⟨h.1, h.2.1, h.2.2.1, h.2.2.2.1, h.2.2.2.2.1, h.2.2.2.2.2.drew⟩
theorem s6 {A B C D E F : Prop} (h : A ∧ B ∧ C ∧ D ∧ E ∧ F) : F := h.2.2.2.2.2
theorem ints_at (W : World) (cs : List Int) (t j : Nat) (n : Int) (h : cs[j]? = some n) : (W.alloc (.cells (cs.map (Value.int .i64)).toArray t)).cell? ⟨W.heap.size, j, none⟩ = some (.int .i64 n) := by
  rw [cell_of_row (W.alloc (.cells (cs.map (Value.int .i64)).toArray t)) W.heap.size j (cs.map (Value.int .i64)).toArray t (0, 0) (heap_alloc_new W _)]
  simp [h]
theorem r_at (j : Nat) (hj : j < 6) : ([24, 25, 26, 27, 28, 29] : List Int)[j]? = some (24 + (j : Int)) := by
  match j, hj with
  | 0, _ | 1, _ | 2, _ | 3, _ | 4, _ | 5, _ => rfl
theorem s_at (j : Nat) (hj : j < 6) : ([1, 2, 3, 5, 6, 9] : List Int)[j]? = some (sOf j) := by
  match j, hj with
  | 0, _ | 1, _ | 2, _ | 3, _ | 4, _ | 5, _ => rfl

theorem SixAt.ass {v t i f : List UInt8} {any : List (List UInt8)} {r s n : Int} (X : SixAt v t i f any r s n) (u : ByteArray) (W : World) (hu : u = ⟨#[97]⟩ ∨ u = ⟨#[49, 42, 42, 50]⟩) (h : Six W) :
    Calls Tryz.prog 8 #[.int .i64 r, .string u] W fun e w' => e = .returned (.bool false) ∧ Below W.heap.size W w' := by
  rcases hu with rfl | rfl
  · exact X.asA W h
  · exact X.as12 W h

set_option maxRecDepth 100000 in
set_option maxHeartbeats 4000000 in
theorem law_pieces (v i f : List UInt8) (any : List (List UInt8)) (r : Value) (w : World) (hv : v.length ≤ 268435456) (hi : i.length ≤ 268435456) (hf : f.length ≤ 268435456) (hxl : ∀ x ∈ any, x.length ≤ 268435456)
    (ht : (textL i (any.map fx) f).length ≤ 268435456) (hS : Six w) (hR : RowS w r any) :
    Calls Tryz.prog 3 #[.string (mkB v), .agg #[.string (mkB i), r, .string (mkB f)]] w fun e w' => e = .returned (.bool true) ∧ Below w.heap.size w w' := by
  have SI := Lib.hid (star_call i (by unfold LIM; omega))
  have SF := Lib.hid (star_call f (by unfold LIM; omega))
  have HX := Lib.hid (six_all v i f (any.map fx) (by unfold LIM; omega) (by unfold LIM; omega) (by unfold LIM; omega) ht (fun a ha => by obtain ⟨x, _, rfl⟩ := List.mem_map.1 ha; exact fx_ne x))
  have HL := Lib.hid (last_call v (by unfold LIM; omega))
  have HXL := Lib.hid hxl
  obtain ⟨a0, c0, rfl⟩ := hR.slice
  have HC := Lib.hid (fun W hW => law_copied i f any (.slice a0 any.length c0) W hW)
  have hal : any.length ≤ LIM := by obtain ⟨_, _, _, h, _⟩ := hR; exact h
  unfold LIM at hal
  have hft : (frontL i (any.map fx)).length + 1 + (starL f).length = (textL i (any.map fx) f).length := by
    unfold textL
    rw [List.length_append, List.length_cons]
    omega
  have HT := Lib.hid ht
  have HF := Lib.hid hft
  clear hxl ht hft
  go_enter Tryz.func3, Tryz.ntmps3
  have hB0 := (Below.refl w.heap.size w).alloc (Nat.le_refl _) (.cells #[.string (mkB i), .slice a0 any.length c0, .string (mkB f)] 24)
  go_wp2_with (fail)
  refine (HC.out _ (hR.below hB0)).mono ?_
  rintro e w1 ⟨v1, rfl, hO1, hb⟩
  obtain ⟨a1, n1, c1, rfl⟩ := own_slice hO1
  have hn1 : n1 = any.length := by
    rcases own_form hO1 with ⟨h1, h2⟩ | ⟨g, cap, h1, _⟩
    · cases h1
      rw [List.length_map] at h2
      exact h2.symm
    · cases h1
      rw [List.length_map]
  subst hn1
  have hB1 := below_then hB0 hB0.size hb
  have W1 : WR w1 a1 _ w1.heap.size any := WR.of_own hO1 (Nat.le_refl _)
  have hbase : w.heap.size ≤ (w.alloc (.cells #[.string (mkB i), .slice a0 any.length c0, .string (mkB f)] 24)).heap.size := hB0.size
  clear hO1 hb HC
  generalize (w.alloc (.cells #[.string (mkB i), .slice a0 any.length c0, .string (mkB f)] 24)).heap.size = base at W1 hbase
  have P5 := Pbox.new w1 (.string (mkB i)) (.slice a1 any.length c1) (.string (mkB f))
  have hb2 := (Below.refl w1.heap.size w1).alloc (Nat.le_refl _) (.cells #[.string (mkB i), .slice a1 any.length c1, .string (mkB f)] 24)
  have hB2 := below_then hB1 hB1.size hb2
  have W2 := W1.below hb2
  have hB5 : w.heap.size ≤ w1.heap.size := hB1.size
  clear W1 hb2 hB1 hB0
  go_wp2_with (fail)
  refine (SI.out _).mono ?_
  rintro e w3 ⟨rfl, hb⟩
  have Q5 := P5.below hb
  have hB3 := below_then hB2 hB2.size hb
  have W3 := W2.below hb
  clear P5 hB2 W2 hb SI
  generalize w1.heap.size = B5 at Q5 W3 hB5 ⊢
  go_wp2
  go_loopw [6, 7] (fun t j wr => ∃ k : Nat, k ≤ any.length ∧ t = .string (mkB (frontL i ((any.map fx).take k))) ∧ j = .int .i64 k ∧ WR wr a1 base B5 ((any.map fx).take k ++ any.drop k) ∧ Pbox wr B5 (.string (mkB i)) (.slice a1 any.length c1) (.string (mkB f)) ∧ Below w.heap.size w wr) (fun _ j _ => any.length - (intOf j).toNat)
  case atStart => exact ⟨0, Nat.zero_le _, by simp [frontL_nil], rfl, by simpa using W3, Q5, hB3⟩
  case round =>
    obtain ⟨k, hk, rfl, rfl, W, P5, hB⟩ := hrel
    have c51 := P5.c1
    by_cases hlt : k < any.length
    · obtain ⟨x, hxk⟩ : ∃ x, any[k]? = some x := ⟨_, List.getElem?_eq_getElem hlt⟩
      have hm := mid_at any k x hxk
      rcases W with h0 | ⟨g, rfl, hg1, hg2, G⟩
      · rw [h0] at hm
        simp at hm
      have hcell := G.cell k x hm
      have hms := mid_set any k x hxk
      have hsnoc : frontL i ((any.map fx).take (k + 1)) = frontL i ((any.map fx).take k) ++ [42] ++ starL (fx x) := by
        rw [List.take_succ_eq_append_getElem (by rw [List.length_map]; exact hlt), List.getElem_map, (List.getElem?_eq_some_iff.1 hxk).2, frontL_snoc]
        simp
      have hbl : (frontL i ((any.map fx).take k)).length + 1 + (starL (fx x)).length ≤ 268435456 := by
        have h1 := congrArg List.length hsnoc
        rw [List.length_append, List.length_append, List.length_singleton] at h1
        have h2 := front_len i (any.map fx) (k + 1)
        have h3 := HF.out
        have h4 := HT.out
        omega
      have hxx := HXL.out x (List.mem_of_getElem? hxk)
      have HM := Lib.hid hms
      have HN := Lib.hid hsnoc
      have hkl : k < ((any.map fx).take k ++ any.drop k).length := (List.getElem?_eq_some_iff.1 hm).1
      by_cases hx0 : x = []
      · have hem : (mkB x).toList.isEmpty = true := by rw [hx0]; exact isE_nil
        have hfe : fx x = [42] := by rw [hx0]; rfl
        have G2 := G.set k [42] hkl
        have hfz := G.fz k
        have P52 := P5.other (i := k) (v := .string (mkB [42])) (Ne.symm hg2)
        have hB2 := hB.setCell (show w.heap.size ≤ (⟨g, k, none⟩ : Addr).block by show _ ≤ g; omega) (.string (mkB [42]))
        have SX := Lib.hid (star_call [42] (by simp [LIM]))
        rw [hfe] at hbl
        have HFE := Lib.hid hfe
        clear hms hsnoc hm hxk hx0 hfe
        go_wp2_with (fail)
        refine (SX.out _).mono ?_
        rintro e w4 ⟨rfl, hb⟩
        go_wp2
        exact ⟨⟨k + 1, by omega, by rw [HN.out, HFE.out]; simp, by go_num, .inr ⟨g, rfl, hg1, hg2, by rw [← HM.out, HFE.out]; exact G2.below hb⟩, P52.below hb, below_then hB2 hB2.size hb⟩, by simp [intOf]; omega⟩
      · have hem := isE_ne hx0
        have hfe : fx x = x := by unfold fx; rw [if_neg hx0]
        have SX := Lib.hid (star_call x (by unfold LIM; omega))
        rw [hfe] at hbl
        have hss := set_same _ k x hm
        have HFE := Lib.hid hfe
        have HSS := Lib.hid hss
        clear hms hsnoc hm hxk hx0 hfe hss
        go_wp2_with (fail)
        refine (SX.out _).mono ?_
        rintro e w4 ⟨rfl, hb⟩
        go_wp2
        exact ⟨⟨k + 1, by omega, by rw [HN.out, HFE.out]; simp, by go_num, .inr ⟨g, rfl, hg1, hg2, by rw [← HM.out, HFE.out, HSS.out]; exact G.below hb⟩, P5.below hb, below_then hB hB.size hb⟩, by simp [intOf]; omega⟩
    · have hk2 : k = any.length := by omega
      subst hk2
      rw [List.take_of_length_le (by rw [List.length_map]; exact Nat.le_refl _), List.drop_eq_nil_of_le (Nat.le_refl _), List.append_nil] at W
      have c52 := P5.c2
      have hbl : (frontL i (any.map fx)).length + 1 + (starL f).length ≤ 268435456 := by have h1 := HF.out; have h2 := HT.out; omega
      have htk : (any.map fx).take any.length = any.map fx := List.take_of_length_le (by rw [List.length_map]; exact Nat.le_refl _)
      rw [htk]
      clear htk
      go_wp2_with (fail)
      refine (SF.out _).mono ?_
      rintro e w4 ⟨rfl, hb⟩
      have hB4 := below_then hB hB.size hb
      have W4 := W.below hb
      have Q5 := P5.below hb
      clear hB W P5 hb
      have HR := Lib.hid (fun j hj => ints_at w4 [24, 25, 26, 27, 28, 29] 27 j _ (r_at j hj))
      have b1 := (Below.refl w4.heap.size w4).alloc (Nat.le_refl _) (.cells (([24, 25, 26, 27, 28, 29] : List Int).map (Value.int .i64)).toArray 27)
      have hB5' := below_then hB4 hB4.size b1
      have W5 := W4.below b1
      have R5 := Q5.below b1
      have hw5 : w4.alloc (.cells #[.int .i64 24, .int .i64 25, .int .i64 26, .int .i64 27, .int .i64 28, .int .i64 29] 27) = w4.alloc (.cells (([24, 25, 26, 27, 28, 29] : List Int).map (Value.int .i64)).toArray 27) := rfl
      have z5 : (w4.alloc (.cells (([24, 25, 26, 27, 28, 29] : List Int).map (Value.int .i64)).toArray 27)).heap.size = w4.heap.size + 1 := by simp
      have lR : w4.heap.size < (w4.alloc (.cells (([24, 25, 26, 27, 28, 29] : List Int).map (Value.int .i64)).toArray 27)).heap.size := by rw [z5]; omega
      clear b1 hB4 W4 Q5
      go_wp2_with (fail)
      generalize w4.alloc (.cells (([24, 25, 26, 27, 28, 29] : List Int).map (Value.int .i64)).toArray 27) = w5 at *
      clear hw5
      have HS := Lib.hid (fun j hj => ints_at w5 [1, 2, 3, 5, 6, 9] 29 j _ (s_at j hj))
      have b1 := (Below.refl w5.heap.size w5).alloc (Nat.le_refl _) (.cells (([1, 2, 3, 5, 6, 9] : List Int).map (Value.int .i64)).toArray 29)
      have hB6 := below_then hB5' hB5'.size b1
      have W6 := W5.below b1
      have R6 := R5.below b1
      change Code.wp _ _ _ _ (w5.alloc (.cells (([1, 2, 3, 5, 6, 9] : List Int).map (Value.int .i64)).toArray 29))
      have HR6 : Hid (∀ j, j < 6 → (w5.alloc (.cells (([1, 2, 3, 5, 6, 9] : List Int).map (Value.int .i64)).toArray 29)).cell? ⟨w4.heap.size, j, none⟩ = some (.int .i64 (24 + (j : Int)))) := Lib.hid (fun j hj => (b1.cell (p := ⟨w4.heap.size, j, none⟩) lR).trans (HR.out j hj))
      clear b1 HR hB5' W5 R5
      generalize w5.alloc (.cells (([1, 2, 3, 5, 6, 9] : List Int).map (Value.int .i64)).toArray 29) = w6 at *
      rw [z5] at HS
      clear z5 lR
      generalize w4.heap.size = R at *
      have hS6 := Lib.hid (hS.below hB6)
      go_loopw [10] (fun j wr => ∃ k : Nat, k ≤ 6 ∧ j = .int .i64 k ∧ Below w6.heap.size w6 wr) (fun j _ => 6 - (intOf j).toNat)
      case atStart => exact ⟨0, by omega, rfl, Below.refl _ _⟩
      case round =>
        obtain ⟨k, hk6, rfl, hBr⟩ := hrel
        have hSr : Hid (Six wr) := Lib.hid (hS6.out.below hBr)
        by_cases hlt6 : k < 6
        · obtain ⟨n, X⟩ := HX.out k hlt6
          have hrow : RowS wr (.slice a1 any.length c1) (any.map fx) := by
            have h := (W6.below hBr).row (c := c1) (by rw [List.length_map]; unfold LIM; exact hal) (fun x hx => by
              obtain ⟨y, hy, rfl⟩ := List.mem_map.1 hx
              have := HXL.out y hy
              unfold fx LIM
              split
              · simp
              · omega)
            rwa [List.length_map] at h
          have cR : wr.cell? ⟨R, k, none⟩ = some (.int .i64 (24 + (k : Int))) := by
            have h := HR6.out k hlt6
            exact (hBr.cell (World.block_lt_of_cell? _ _ h)).trans h
          have cS : wr.cell? ⟨R + 1, k, none⟩ = some (.int .i64 (sOf k)) := by
            have h := HS.out k hlt6
            exact (hBr.cell (World.block_lt_of_cell? _ _ h)).trans h
          have P6 := R6.below hBr
          have S0 : wr.drew.cell? ⟨R, k, none⟩ = some (.int .i64 (24 + (k : Int))) ∧ wr.drew.cell? ⟨R + 1, k, none⟩ = some (.int .i64 (sOf k)) ∧ wr.drew.cell? ⟨B5, 0, none⟩ = some (.string (mkB i)) ∧ wr.drew.cell? ⟨B5, 1, none⟩ = some (.slice a1 any.length c1) ∧ wr.drew.cell? ⟨B5, 2, none⟩ = some (.string (mkB f)) ∧ Below wr.heap.size wr wr.drew :=
            ⟨cR, cS, P6.c0, P6.c1, P6.c2, (Below.refl _ _).drew⟩
          have HROW := Lib.hid hrow
          have HS0 := Lib.hid S0
          clear hrow S0 cR cS P6
          go_wp2_with (fail)
          go_region_held3 (fun W => W.cell? ⟨R, k, none⟩ = some (.int .i64 (24 + (k : Int))) ∧ W.cell? ⟨R + 1, k, none⟩ = some (.int .i64 (sOf k)) ∧ W.cell? ⟨B5, 0, none⟩ = some (.string (mkB i)) ∧ W.cell? ⟨B5, 1, none⟩ = some (.slice a1 any.length c1) ∧ W.cell? ⟨B5, 2, none⟩ = some (.string (mkB f)) ∧ Below wr.heap.size wr W)
            (first | exact HS0.out | exact keep5 (by assumption) (by assumption))
            (first | (go_at_call 6; refine (X.rule _ (hSr.out.below (s6 (by assumption)))).mono ?_; rintro e w7 ⟨rfl, hb⟩) | (go_at_call 7; refine (X.cont _ _ (hSr.out.below (s6 (by assumption))) (HROW.out.below (s6 (by assumption)))).mono ?_; rintro e w7 ⟨rfl, hb⟩))
          all_goals
            go_wp2_with (fail)
            go_region_held3 (fun W => W.cell? ⟨R, k, none⟩ = some (.int .i64 (24 + (k : Int))) ∧ W.cell? ⟨R + 1, k, none⟩ = some (.int .i64 (sOf k)) ∧ W.cell? ⟨B5, 0, none⟩ = some (.string (mkB i)) ∧ W.cell? ⟨B5, 1, none⟩ = some (.slice a1 any.length c1) ∧ W.cell? ⟨B5, 2, none⟩ = some (.string (mkB f)) ∧ Below wr.heap.size wr W)
              (first | exact keep5 (by assumption) (by assumption) | exact drew5 (by assumption))
              (first | (go_at_call 6; refine (X.by1 _ (hSr.out.below (s6 (by assumption)))).mono ?_; rintro e w8 ⟨rfl, hb⟩) | (go_at_call 8; refine (X.ass _ _ (by first | exact .inl rfl | exact .inr rfl) (hSr.out.below (s6 (by assumption)))).mono ?_; rintro e w8 ⟨rfl, hb⟩))
          all_goals
            have hBz := below_then hBr hBr.size (s6 (by assumption))
            go_wp2
            exact ⟨⟨k + 1, by omega, by go_num, hBz⟩, by simp [intOf]; omega⟩
        · have hb6 := hB6
          go_wp2_with (fail)
          refine (HL.out _ hSr.out).mono ?_
          rintro e w7 ⟨rfl, hb⟩
          go_wp2
          go_ret
          exact ⟨rfl, below_then (hB6.trans (hBr.mono hB6.size)) (Nat.le_trans hB6.size hBr.size) hb⟩
end Go.Proofs.YtmgfikfcnhhnhaaGreatDoor
