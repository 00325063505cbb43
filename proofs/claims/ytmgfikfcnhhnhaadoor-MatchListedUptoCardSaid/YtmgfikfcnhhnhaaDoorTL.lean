/- match: list.normal. -/
import Derived.Test.YtmgfikfcnhhnhaaDoorTK
import Derived.Test.YtmgfikfcnhhnhaaDoorShelg
namespace Go.Proofs.YtmgfikfcnhhnhaaDoor
open Go.RowKit

/-- The library's variable MaxLen holds a number. -/
def MaxL (w : World) : Prop := ∃ m : Int, w.cell? ⟨1, 0, none⟩ = some (.int .i64 m)
theorem MaxL.below {w w1 : World} (h : MaxL w) (hb : Below w.heap.size w w1) : MaxL w1 := by
  obtain ⟨m, hm⟩ := h
  exact ⟨m, (hb.cell (World.block_lt_of_cell? w _ hm)).trans hm⟩
theorem MaxL.gt {w : World} (h : MaxL w) : 1 < w.heap.size := by
  obtain ⟨m, hm⟩ := h
  exact World.block_lt_of_cell? w _ hm

theorem split_at (c : UInt8) (n : List UInt8) (w : World) (hn : n.length ≤ 1073741824) (hm : MaxL w) :
    Calls Tryd.prog 173 #[.string (mkB n), .string ⟨#[c]⟩] w fun e w' => e = .returned (.slice (some ⟨w.heap.size, 0, none⟩) (cutAt c n).length (cutAt c n).length) ∧ w' = w.alloc (.cells (strsV ((cutAt c n).map mkB)).toArray 9) := by
  obtain ⟨m, hm⟩ := hm
  have h := Tryd.strings_Split (mkB n) ⟨#[c]⟩ m w (by rw [mkB_size]; omega) hm (by simp [ByteArray.size])
  rw [split_list, countB_one, mkB_data, ← cutAt_length] at h
  exact h
theorem strs_cell (zs : List ByteArray) (w : World) (j : Nat) (x : ByteArray) (hx : zs[j]? = some x) : (w.alloc (.cells (strsV zs).toArray 9)).cell? ⟨w.heap.size, j, none⟩ = some (.string x) := by
  rw [cell_of_row (w.alloc (.cells (strsV zs).toArray 9)) w.heap.size j (strsV zs).toArray 9 (0, 0) (heap_alloc_new w _)]
  simp [strsV, hx]
theorem replace_at (c : UInt8) (a b : UInt8) (d : UInt8) (n : List UInt8) (w : World) (hn : n.length ≤ 1073741824) (hm : MaxL w) :
    Calls Tryd.prog 63 #[.string (mkB n), .string ⟨#[c]⟩, .string ⟨#[a, b, d]⟩] w fun e w' => e = .returned (.string (mkB (repl c [a, b, d] n))) ∧ Below w.heap.size w w' := by
  obtain ⟨m, hm⟩ := hm
  have hc := countB_one c (mkB n)
  have hle := List.count_le_length (l := n) (a := c)
  rw [mkB_data] at hc
  have h := Tryd.strings_ReplaceAll (mkB n) ⟨#[c]⟩ ⟨#[a, b, d]⟩ m w (by rw [mkB_size]; omega) hm (by simp [ByteArray.size]) (by rw [hc, mkB_size, show (ByteArray.mk #[a, b, d]).size = 3 from rfl]; omega)
  have e := replaceAll_one c [a, b, d] (by simp) (mkB n)
  rw [mkB_data] at e
  refine h.mono ?_
  rintro x w' ⟨rfl, hb⟩
  refine ⟨?_, hb⟩
  show Ending.returned (.string ⟨(Lib.replaceAll n [c] [a, b, d]).toArray⟩) = _
  rw [e]
  rfl

theorem info9 : (Tryd.prog.info? 9).map (fun i => (i.zero, i.size, i.bytes)) = some (some (.string ⟨#[]⟩), 1, 16) := by kernel_rfl

theorem join_own (xs : List (List UInt8)) (v : Value) (base : Nat) (w : World) (h : OwnS w base v (xs.map mkB)) (h0 : xs ≠ []) (hl : tot xs + xs.length ≤ 140737488355328) :
    Calls Tryd.prog 103 #[v, .string ⟨#[36]⟩] w fun e w' => e = .returned (.string (mkB (Lib.join xs [36]))) ∧ Below w.heap.size w w' := by
  have hp := List.length_pos_iff.2 h0
  have hj := join_length xs
  have hm : (xs.map mkB).map (·.data.toList) = xs := by
    rw [List.map_map]
    exact List.map_id xs
  rcases own_form h with ⟨_, hz⟩ | ⟨g, cap, rfl, _, hg, hcap, _⟩
  · rw [List.length_map] at hz
    omega
  · have hj2 := Tryd.strings_Join g 0 cap (xs.map mkB) ⟨#[36]⟩ w (fun j x hx => by
      rw [Nat.zero_add]
      exact (own_cell h j (.string x) (by simp only [strsV, List.getElem?_map, hx]; rfl)).1) hg (by rw [List.length_map]; omega) hcap (by rw [hm]; show (Lib.join xs [36]).length ≤ _; omega)
    rw [hm] at hj2
    exact hj2

theorem tot_mem (l : List UInt8) : ∀ ls : List (List UInt8), l ∈ ls → l.length ≤ tot ls := by
  intro ls
  induction ls with
  | nil => intro h; cases h
  | cons x r ih =>
    intro h
    rw [tot_cons]
    rcases List.mem_cons.1 h with rfl | h
    · omega
    · have := ih h
      omega
theorem UEv_none : UEv none = .tuple #[.string ⟨#[]⟩, .bool false] := rfl
theorem UEv_some (l : List UInt8) : UEv (some l) = .tuple #[.string (mkB l), .bool true] := rfl
theorem linesN_cons (l : List UInt8) (r : List (List UInt8)) : linesN (l :: r) = (lineN l).bind fun x => (linesN r).map (x :: ·) := rfl

set_option maxRecDepth 100000 in
set_option maxHeartbeats 1000000 in
theorem list_normal (s : ByteArray) (w : World) (hs : s.size ≤ 100000000) (hx : MaxL w) :
    Calls Tryd.prog 214 #[.agg #[], .string s] w fun e w' => e = .returned (NRv (listN s.data.toList)) ∧ Below w.heap.size w w' := by
  have HU := Lib.hid (fun W => match_utf s W (by omega))
  have HS := Lib.hid (fun W hW => split_at 36 s.data.toList W (by rw [dlen]; omega) hW)
  have hlen := cutAt_length 36 s.data.toList
  have hcl := List.count_le_length (l := s.data.toList) (a := 36)
  have htot := cutAt_tot 36 s.data.toList
  rw [dlen] at hcl htot
  rw [mkB_self] at HS
  unfold listN
  cases hu : (utfBad s.data.toList).isNone with
  | false =>
    rw [hu] at HU
    clear hu
    rw [if_neg (by simp)]
    go_enter Tryd.func214, Tryd.ntmps214
    go_wp2_with (fail)
    refine (HU.out _).mono ?_
    rintro e w1 ⟨rfl, hb⟩
    go_wp2
    go_ret2
    exact ⟨rfl, below_then ((Below.refl _ _).alloc (Nat.le_refl _) _) (by simp) hb⟩
  | true =>
    rw [hu] at HU
    clear hu
    rw [if_pos rfl]
    generalize cutAt 36 s.data.toList = ls at HS hlen htot ⊢
    have hn0 : 0 < ls.length := by omega
    have hn1 : ls.length ≤ 100000001 := by omega
    have hsz : ∀ (j : Nat) (l : List UInt8), ls[j]? = some l → l.length ≤ 100000000 := by
      intro j l hl
      have h1 := tot_mem l ls (List.mem_of_getElem? hl)
      omega
    generalize hN : ls.length = N at HS hn0 hn1
    have HN := Lib.hid hN
    have HZ := Lib.hid hsz
    have HT := Lib.hid htot
    clear hN hlen hcl htot hsz
    go_enter Tryd.func214, Tryd.ntmps214
    go_wp2_with (fail)
    refine (HU.out _).mono ?_
    rintro e w1 ⟨rfl, hb⟩
    have hB1 : Below w.heap.size w w1 := below_then ((Below.refl _ _).alloc (Nat.le_refl _) _) (by simp) hb
    clear hb HU
    go_wp2_with (fail)
    refine (HS.out _ (hx.below hB1)).mono ?_
    rintro e w2 ⟨rfl, rfl⟩
    clear HS
    have HC := Lib.hid (strs_cell (ls.map mkB) w1)
    have hB2 := hB1.alloc hB1.size (.cells (strsV (ls.map mkB)).toArray 9)
    have hM2 : MaxL (w1.alloc (.cells (strsV (ls.map mkB)).toArray 9)) := hx.below hB2
    generalize hw2 : w1.alloc (.cells (strsV (ls.map mkB)).toArray 9) = w2 at HC hB2 hM2 ⊢
    have hbk : w1.heap.size < w2.heap.size := by rw [← hw2]; simp
    generalize w1.heap.size = B at HC hbk ⊢
    clear hw2 hB1
    go_wp2
    go_loopw [6, 18] (fun v i wr => ∃ (k : Nat) (outs : List (List UInt8)), k ≤ N ∧ outs.length = k ∧ i = .int .i64 k ∧ Hid (linesN ls = (linesN (ls.drop k)).map (outs ++ ·)) ∧ OwnS wr w2.heap.size v (outs.map mkB) ∧ Below w2.heap.size w2 wr) (fun _ i _ => N - (intOf i).toNat)
    case atStart => exact ⟨0, [], Nat.zero_le _, rfl, rfl, Lib.hid (by simp), OwnS.nil _ _, Below.refl _ _⟩
    case round =>
      obtain ⟨k, outs, hk, hol, rfl, HE, hO, hB⟩ := hrel
      have he := HE.out
      clear HE
      have hBf : ∀ {wz : World}, Below w2.heap.size w2 wz → Below w.heap.size w wz := fun h => below_then hB2 hB2.size h
      by_cases hlt : k < N
      · have hkl : k < ls.length := by rw [HN.out]; exact hlt
        obtain ⟨l, hl⟩ : ∃ l, ls[k]? = some l := ⟨_, List.getElem?_eq_getElem hkl⟩
        have hd : ls.drop k = l :: ls.drop (k + 1) := by
          rw [List.drop_eq_getElem_cons hkl]
          rw [List.getElem?_eq_getElem hkl] at hl
          rw [Option.some.inj hl]
        have hls := HZ.out k l hl
        have hcell : wr.cell? ⟨B, k, none⟩ = some (.string (mkB l)) := by
          rw [hB.cell hbk]
          exact HC.out k (mkB l) (by rw [List.getElem?_map, hl]; rfl)
        rw [hd, linesN_cons] at he
        have hun := fun W => match_unescaped (mkB l) ⟨#[50, 52]⟩ 36 W (by rw [mkB_size]; omega)
        rw [mkB_data, show (ByteArray.mk #[50, 52]).data.toList = [50, 52] from rfl] at hun
        clear hd hl hkl
        cases hue : unE 36 [50, 52] l with
        | none =>
          have hln : lineN l = none := by unfold lineN; rw [hue]; split <;> rfl
          rw [hln] at he
          simp only [hue, UEv_none] at hun
          have HUN := Lib.hid hun
          have HE := Lib.hid he
          clear he hun hue hln
          go_wp2_with (go_at_call 215; refine (HUN.out _).mono ?_; rintro e w3 ⟨rfl, hb3⟩)
          all_goals
            go_ret2
            exact ⟨by rw [HE.out]; rfl, hBf (below_then hB hB.size hb3)⟩
        | some mm =>
          simp only [hue, UEv_some] at hun
          by_cases hl0 : l = []
          · have hln : lineN l = none := by unfold lineN; rw [if_pos hl0]
            rw [hln] at he
            have HUN := Lib.hid hun
            have HE := Lib.hid he
            have hem : (mkB l).toList = [] := by rw [mkB_toList, hl0]
            clear he hun hue hln hl0
            go_wp2_with (go_at_call 215; refine (HUN.out _).mono ?_; rintro e w3 ⟨rfl, hb3⟩)
            go_ret2
            exact ⟨by rw [HE.out]; rfl, hBf (below_then hB hB.size hb3)⟩
          · have hln : lineN l = some (escN (normalT mm)) := by unfold lineN; rw [if_neg hl0, hue]; rfl
            have hml := unE_length 36 [50, 52] l.length l mm (Nat.le_refl _) hue
            have hnl := normalT_length mm
            have hrl := repl_length 92 [92, 53, 99] rfl (normalT mm)
            have hno := fun W => text_Normal (mkB mm) W (by rw [mkB_size]; omega)
            rw [mkB_data] at hno
            have hr1 := fun W hW => replace_at 92 92 53 99 (normalT mm) W (by omega) hW
            have hr2 := fun W hW => replace_at 36 92 50 52 (repl 92 [92, 53, 99] (normalT mm)) W (by omega) hW
            rw [hln, Option.bind_some, Option.map_map] at he
            have HUN := Lib.hid hun
            have HE := Lib.hid he
            have HNO := Lib.hid hno
            have HR1 := Lib.hid hr1
            have HR2 := Lib.hid hr2
            have hem : ((mkB l).toList == []) = false := by rw [mkB_toList, beq_eq_false_iff_ne]; exact hl0
            have hem2 : ¬ (mkB l).toList = [] := by rw [mkB_toList]; exact hl0
            have hem3 : (mkB l).toList.isEmpty = false := by rw [mkB_toList, List.isEmpty_eq_false_iff]; exact hl0
            clear he hun hue hln hl0 hno hr1 hr2 hml hnl hrl
            have hM : MaxL wr := hM2.below hB
            have hbs : w2.heap.size ≤ wr.heap.size := hB.size
            have hol2 : (outs.map mkB).length + 1 ≤ 8796093022208 := by rw [List.length_map]; omega
            go_wp2_with (fail)
            refine (HUN.out _).mono ?_
            rintro e w3 ⟨rfl, hb3⟩
            replace hB := below_then hB hbs hb3
            replace hO := hO.below hb3
            clear hbs hb3
            go_wp2_with (fail)
            refine (HNO.out _).mono ?_
            rintro e w4 ⟨rfl, hb4⟩
            replace hB := below_then hB hB.size hb4
            replace hO := hO.below hb4
            clear hb4
            go_wp2_with (fail)
            refine (HR1.out _ (hM2.below hB)).mono ?_
            rintro e w5 ⟨rfl, hb5⟩
            replace hB := below_then hB hB.size hb5
            replace hO := hO.below hb5
            clear hb5
            go_wp2_with (fail)
            refine (HR2.out _ (hM2.below hB)).mono ?_
            rintro e w6 ⟨rfl, hb6⟩
            replace hB := below_then hB hB.size hb6
            replace hO := hO.below hb6
            clear hb6
            go_wp2_with (at_builtin; refine append_str w2.heap.size rfl (.tmp 36) (.tmp 39) 25 rfl Tryd.underlying25 info9 _ (outs.map mkB) (mkB (escN (normalT mm))) rfl rfl hO hB hB.size hol2 ?_; intro v1 w7 hO1 hB7)
            exact ⟨⟨k + 1, outs ++ [escN (normalT mm)], by omega, by simp [hol], by go_num, Lib.hid (by rw [HE.out]; congr 1; funext x; simp), by rw [List.map_append]; exact hO1, hB7⟩, by simp [intOf]; omega⟩
      · have hkN : k = N := by omega
        rw [List.drop_eq_nil_of_le (by rw [HN.out]; omega)] at he
        have hE : linesN ls = some outs := by rw [he]; simp [linesN]
        have ht := linesN_tot ls outs hE
        have htt := HT.out
        have HE := Lib.hid hE
        have HJ := Lib.hid (join_own outs _ w2.heap.size wr hO (by intro h; rw [h] at hol; simp at hol; omega) (by omega))
        clear he hE ht htt
        go_wp2_with (fail)
        refine HJ.out.mono ?_
        rintro e w3 ⟨rfl, hb3⟩
        go_wp2
        go_ret2
        exact ⟨by rw [HE.out]; rfl, hBf (below_then hB hB.size hb3)⟩
end Go.Proofs.YtmgfikfcnhhnhaaDoor
