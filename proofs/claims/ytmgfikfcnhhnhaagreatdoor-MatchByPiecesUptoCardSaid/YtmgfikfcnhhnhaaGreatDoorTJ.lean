/- match: unescaped. -/
import Derived.Test.YtmgfikfcnhhnhaaGreatDoorT4
namespace Go.Proofs.YtmgfikfcnhhnhaaGreatDoor
open Go.RowKit

/-- What unescaped reads; mark m is written as a backslash and the code. -/
def unE (m : UInt8) (code : List UInt8) : List UInt8 → Option (List UInt8)
  | [] => some []
  | b :: r => if b = 92 then (match r with
      | x :: y :: r2 => if fold [x, y] = code then (unE m code r2).map (m :: ·) else if fold [x, y] = [53, 99] then (unE m code r2).map (92 :: ·) else none
      | _ => none) else (unE m code r).map (b :: ·)
theorem unE_plain (m : UInt8) (code : List UInt8) (b : UInt8) (r : List UInt8) (h : b ≠ 92) : unE m code (b :: r) = (unE m code r).map (b :: ·) := by
  rw [unE.eq_def]
  simp [h]
theorem unE_short (m : UInt8) (code : List UInt8) (r : List UInt8) (h : r.length < 2) : unE m code (92 :: r) = none := by
  match r, h with
  | [], _ => simp [unE]
  | [x], _ => simp [unE]
theorem unE_esc (m : UInt8) (code : List UInt8) (x y : UInt8) (r : List UInt8) : unE m code (92 :: x :: y :: r) = if fold [x, y] = code then (unE m code r).map (m :: ·) else if fold [x, y] = [53, 99] then (unE m code r).map (92 :: ·) else none := by
  conv => lhs; rw [unE.eq_def]
  simp
def UEv : Option (List UInt8) → Value
  | some l => .tuple #[.string (mkB l), .bool true]
  | none => .tuple #[.string ⟨#[]⟩, .bool false]

theorem ext_two (s : ByteArray) (k : Nat) (h : k + 2 < s.size) : (s.extract (k + 1) (k + 3)).data.toList = [s[k + 1], s[k + 2]] := by
  rw [Lib.extract_data, List.drop_eq_getElem_cons (by rw [dlen]; omega), List.drop_eq_getElem_cons (by rw [dlen]; omega)]
  rw [show k + 3 - (k + 1) = 2 by omega]
  rfl

set_option maxRecDepth 100000 in
theorem match_unescaped (s code : ByteArray) (m : UInt8) (w : World) (hs : s.size ≤ 1099511627776) :
    Calls Tryz.prog 35 #[.string s, .int .u8 (m.toNat : Int), .string code] w fun e w' => e = .returned (UEv (unE m code.data.toList s.data.toList)) ∧ Below w.heap.size w w' := by
  go_enter Tryz.func35, Tryz.ntmps35
  go_wp2
  go_loopw [8, 9] (fun v i wr => ∃ (k : Nat) (acc : List UInt8), k ≤ s.size + 2 ∧ acc.length ≤ k ∧ i = .int .i64 k ∧ Hid (k ≤ s.size ∧ unE m code.data.toList s.data.toList = (unE m code.data.toList (s.data.toList.drop k)).map (acc ++ ·)) ∧ OwnB wr w.heap.size v acc ∧ Below w.heap.size w wr) (fun _ i _ => s.size + 2 - (intOf i).toNat)
  case atStart => exact ⟨0, [], Nat.zero_le _, Nat.le_refl _, rfl, Lib.hid ⟨Nat.zero_le _, by simp⟩, OwnB.nil _ _, Below.refl _ _⟩
  case round =>
    obtain ⟨k, acc, hk0, hacc, rfl, HE, hO, hB⟩ := hrel
    obtain ⟨hk, he⟩ := HE.out
    clear HE
    by_cases hlt : k < s.size
    · have hd : s.data.toList.drop k = s[k] :: s.data.toList.drop (k + 1) := List.drop_eq_getElem_cons (by rw [dlen]; exact hlt)
      rw [hd] at he
      by_cases h1 : s[k] = 92
      · have hc : (s[k].toNat : Int) = 92 := by rw [h1]; rfl
        rw [h1] at he
        by_cases h2 : k + 3 ≤ s.size
        · have hd2 : s.data.toList.drop (k + 1) = s[k + 1] :: s[k + 2] :: s.data.toList.drop (k + 3) := by
            rw [List.drop_eq_getElem_cons (by rw [dlen]; omega), List.drop_eq_getElem_cons (by rw [dlen]; omega)]
            rfl
          have hx := ext_two s k (by omega)
          rw [hd2, unE_esc, ← hx] at he
          have hf := fun W => text_Fold (s.extract (k + 1) (k + 3)) W (by rw [ByteArray.size_extract]; omega)
          generalize fold (s.extract (k + 1) (k + 3)).data.toList = q at he hf
          have HF := Lib.hid hf
          clear hf hx hd2 hd
          have hlacc : acc.length + 1 ≤ 140737488355328 := by omega
          by_cases hq : q = code.data.toList
          · rw [if_pos hq, Option.map_map] at he
            have HE := Lib.hid he
            have hqt : ((mkB q).toList == code.toList) = true := by rw [mkB_toList, toL, hq, beq_self_eq_true]
            clear he hq
            go_wp2_with (first | (go_at_call 51; refine (HF.out _).mono ?_; rintro e w1 ⟨rfl, hb⟩; replace hB := below_then hB hB.size hb; replace hO := hO.below hb) | (at_builtin; refine append_byte w.heap.size rfl (.tmp 41) (.tmp 43) 36 rfl Tryz.underlying36 info5 _ _ m _ rfl rfl rfl hO hB hB.size (by omega) ?_; intro v1 w1 hO1 hB1))
            exact ⟨⟨k + 3, acc ++ [m], by omega, by simp; omega, by go_num, Lib.hid ⟨h2, by rw [HE.out]; congr 1; funext x; simp⟩, hO1, hB1⟩, by simp [intOf]; omega⟩
          · rw [if_neg hq] at he
            have hqf : ((mkB q).toList == code.toList) = false := by rw [mkB_toList, toL, beq_eq_false_iff_ne]; exact hq
            clear hq
            by_cases h5 : q = [53, 99]
            · rw [if_pos h5, Option.map_map] at he
              have HE := Lib.hid he
              have hqg : ((mkB q).toList == [53, 99]) = true := by rw [mkB_toList, h5, beq_self_eq_true]
              clear he h5
              go_wp2_with (first | (go_at_call 51; refine (HF.out _).mono ?_; rintro e w1 ⟨rfl, hb⟩; replace hB := below_then hB hB.size hb; replace hO := hO.below hb) | (at_builtin; refine append_byte w.heap.size rfl (.tmp 47) (.tmp 48) 36 rfl Tryz.underlying36 info5 _ _ 92 _ rfl rfl rfl hO hB hB.size (by omega) ?_; intro v1 w1 hO1 hB1))
              exact ⟨⟨k + 3, acc ++ [92], by omega, by simp; omega, by go_num, Lib.hid ⟨h2, by rw [HE.out]; congr 1; funext x; simp⟩, hO1, hB1⟩, by simp [intOf]; omega⟩
            · rw [if_neg h5] at he
              have HE := Lib.hid he
              have hqg : ((mkB q).toList == [53, 99]) = false := by rw [mkB_toList, beq_eq_false_iff_ne]; exact h5
              clear he h5
              go_wp2_with (first | (go_at_call 51; refine (HF.out _).mono ?_; rintro e w1 ⟨rfl, hb⟩; replace hB := below_then hB hB.size hb; replace hO := hO.below hb))
              go_ret2
              exact ⟨by rw [HE.out]; rfl, hB⟩
        · have hsh := unE_short m code.data.toList (s.data.toList.drop (k + 1)) (by rw [List.length_drop, dlen]; omega)
          rw [hsh] at he
          have HE := Lib.hid he
          clear he hsh hd
          go_wp2
          go_ret2
          exact ⟨by rw [HE.out]; rfl, hB⟩
      · have hc : ¬ (s[k].toNat : Int) = 92 := fun h => h1 (by rw [← UInt8.toNat_inj]; simp; omega)
        rw [unE_plain _ _ _ _ h1, Option.map_map] at he
        have HE := Lib.hid he
        clear he hd h1
        go_wp2_with (first | (at_builtin; refine append_byte w.heap.size rfl (.tmp 20) (.tmp 24) 36 rfl Tryz.underlying36 info5 _ _ s[k] _ rfl rfl rfl hO hB hB.size (by omega) ?_; intro v1 w1 hO1 hB1))
        exact ⟨⟨k + 1, acc ++ [s[k]], by omega, by simp; omega, by go_num, Lib.hid ⟨by omega, by rw [HE.out]; congr 1; funext x; simp⟩, hO1, hB1⟩, by simp [intOf]; omega⟩
    · rw [List.drop_eq_nil_of_le (by rw [dlen]; omega)] at he
      have hE : unE m code.data.toList s.data.toList = some acc := by rw [he]; simp [unE]
      have HE := Lib.hid hE
      clear he hE
      have hconv := hO.string (P := Tryz.prog) (src := 36) (dst := 9) Tryz.underlying36 Tryz.underlying5 Tryz.underlying9
      go_wp2
      go_ret2
      exact ⟨by rw [HE.out]; rfl, hB⟩
end Go.Proofs.YtmgfikfcnhhnhaaGreatDoor
