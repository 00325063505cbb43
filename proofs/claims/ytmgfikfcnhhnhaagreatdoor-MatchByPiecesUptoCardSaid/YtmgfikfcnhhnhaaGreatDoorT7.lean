/- text.sequence as one function; text.Check. -/
import Derived.Test.YtmgfikfcnhhnhaaGreatDoorT6
namespace Go.Proofs.YtmgfikfcnhhnhaaGreatDoor
open Go.RowKit

theorem ret_int {k : IntKind} {a b : Int} (h : a = b) : Ending.returned (.int k a) = Ending.returned (.int k b) := by rw [h]

theorem text_sequence (s : ByteArray) (w : World) (hp : 0 < s.size) (hs : s.size ≤ 1099511627776) :
    Calls Tryz.prog 87 #[.string s] w fun e w' => e = .returned (.int .i64 (seqI s.data.toList)) ∧ Below w.heap.size w w' := by
  unfold seqI
  have h3 := missI_n (gI s.data.toList 0)
  have hg0 := gI_at s 0 hp
  rw [hg0] at h3 ⊢
  rw [dlen]
  rcases hm : missI (s[0].toNat : Int) with ⟨n, lo, hi, ok⟩
  rw [hm] at h3
  simp only at h3 ⊢
  have hc := missCall _ _ _ _ _ hm
  clear hm hg0
  cases ok with
  | false =>
    rw [if_pos (Or.inl rfl)]
    exact seq_bad s w hp hs n lo hi hc
  | true =>
    by_cases hn : (s.size : Int) < n + 1
    · rw [if_pos (Or.inr hn)]
      exact seq_short s w hp hs n lo hi hc (by omega) (by omega) hn
    · rw [if_neg (by simp only [Bool.true_eq_false, false_or]; exact hn)]
      rcases h3 with rfl | rfl | rfl | rfl
      · rw [if_neg (by omega), if_neg (by omega), if_neg (by omega)]
        exact seq_0 s w hp hs lo hi hc
      · rw [if_neg (by omega), if_neg (by omega), gI_at s 1 (by omega)]
        by_cases hl : (s[1].toNat : Int) < lo
        · rw [if_pos (by omega)]
          exact seq_1_lo s w hp hs lo hi hc (by omega) hl
        · by_cases hh : hi < (s[1].toNat : Int)
          · rw [if_pos (by omega)]
            exact seq_1_hi s w hp hs lo hi hc (by omega) (by omega) hh
          · rw [if_neg (by omega)]
            exact seq_1_ok s w hp hs lo hi hc (by omega) (by omega) (by omega)
      · rw [if_neg (by omega), gI_at s 1 (by omega), gI_at s 2 (by omega)]
        cases g2 : goesI (s[2].toNat : Int) with
        | false =>
          rw [if_pos ⟨by omega, rfl⟩]
          exact seq_2_2 s w hp hs lo hi hc (by omega) g2
        | true =>
          rw [if_neg (by simp)]
          by_cases hl : (s[1].toNat : Int) < lo
          · rw [if_pos (by omega)]
            exact seq_2_lo s w hp hs lo hi hc (by omega) g2 hl
          · by_cases hh : hi < (s[1].toNat : Int)
            · rw [if_pos (by omega)]
              exact seq_2_hi s w hp hs lo hi hc (by omega) g2 (by omega) hh
            · rw [if_neg (by omega)]
              exact seq_2_ok s w hp hs lo hi hc (by omega) g2 (by omega) (by omega)
      · rw [gI_at s 1 (by omega), gI_at s 2 (by omega), gI_at s 3 (by omega)]
        cases g3 : goesI (s[3].toNat : Int) with
        | false =>
          rw [if_pos ⟨by omega, rfl⟩]
          exact seq_3_3 s w hp hs lo hi hc (by omega) g3
        | true =>
          rw [if_neg (by simp)]
          cases g2 : goesI (s[2].toNat : Int) with
          | false =>
            rw [if_pos ⟨by omega, rfl⟩]
            exact seq_3_2 s w hp hs lo hi hc (by omega) g3 g2
          | true =>
            rw [if_neg (by simp)]
            by_cases hl : (s[1].toNat : Int) < lo
            · rw [if_pos (by omega)]
              exact seq_3_lo s w hp hs lo hi hc (by omega) g3 g2 hl
            · by_cases hh : hi < (s[1].toNat : Int)
              · rw [if_pos (by omega)]
                exact seq_3_hi s w hp hs lo hi hc (by omega) g3 g2 (by omega) hh
              · rw [if_neg (by omega)]
                exact seq_3_ok s w hp hs lo hi hc (by omega) g3 g2 (by omega) (by omega)

theorem seqI_le (l : List UInt8) : 0 ≤ seqI l ∧ seqI l ≤ l.length := by
  unfold seqI
  have := missI_n (gI l 0)
  split
  · omega
  split
  · omega
  split
  · omega
  split
  · omega
  rename_i h _ _ _
  omega

def utfAt (s : List UInt8) : Nat → Nat → Option Nat
  | 0, _ => none
  | f + 1, i => if i < s.length then (if seqI (s.drop i) = 0 then some i else utfAt s f (i + (seqI (s.drop i)).toNat)) else none
/-- The place of the first byte of the first sequence that is none. -/
def utfBad (s : List UInt8) : Option Nat := utfAt s (s.length + 1) 0
def utfV (s : List UInt8) : Value := match utfBad s with
  | some i => .tuple #[.int .i64 10, .int .i64 (i : Int)]
  | none => .tuple #[.int .i64 0, .int .i64 (s.length : Int)]

theorem utfAt_succ (s : List UInt8) (f i : Nat) : utfAt s (f + 1) i = if i < s.length then (if seqI (s.drop i) = 0 then some i else utfAt s f (i + (seqI (s.drop i)).toNat)) else none := rfl
theorem utfV_some (s : ByteArray) (i : Nat) (h : utfAt s.data.toList (s.size + 1) 0 = some i) : utfV s.data.toList = .tuple #[.int .i64 10, .int .i64 (i : Int)] := by
  unfold utfV utfBad
  rw [dlen, h]
theorem utfV_none (s : ByteArray) (h : utfAt s.data.toList (s.size + 1) 0 = none) : utfV s.data.toList = .tuple #[.int .i64 0, .int .i64 (s.size : Int)] := by
  unfold utfV utfBad
  rw [dlen, h]

set_option maxRecDepth 100000 in
theorem text_Check (s : ByteArray) (w : World) (hs : s.size ≤ 1099511627776) :
    Calls Tryz.prog 71 #[.string s] w fun e w' => e = .returned (utfV s.data.toList) ∧ Below w.heap.size w w' := by
  go_enter Tryz.func71, Tryz.ntmps71
  go_wp2
  go_loopw [4] (fun i wr => ∃ (k f : Nat), k ≤ s.size ∧ s.size < k + f ∧ i = .int .i64 k ∧ Hid (utfAt s.data.toList (s.size + 1) 0 = utfAt s.data.toList f k) ∧ Below w.heap.size w wr) (fun i _ => s.size - (intOf i).toNat)
  case atStart => exact ⟨0, s.size + 1, Nat.zero_le _, by omega, rfl, rfl, Below.refl _ _⟩
  case round =>
    obtain ⟨k, f, hk, hf, rfl, HE, hB⟩ := hrel
    by_cases hlt : k < s.size
    · obtain ⟨f, rfl⟩ : ∃ m, f = m + 1 := ⟨f - 1, by omega⟩
      have hu : (s.extract k s.size).data.toList = s.data.toList.drop k := by
        rw [Lib.extract_data, List.take_of_length_le (by rw [List.length_drop, dlen]; omega)]
      have hus : (s.extract k s.size).size = s.size - k := by rw [ByteArray.size_extract]; omega
      have hq := text_sequence (s.extract k s.size) (hp := by omega) (hs := by omega)
      rw [hu] at hq
      have hle := seqI_le (s.data.toList.drop k)
      rw [List.length_drop, dlen] at hle
      have he := HE.out
      have hs1 := utfAt_succ s.data.toList f k
      rw [dlen, if_pos hlt] at hs1
      rw [hs1] at he
      clear hs1
      clear HE hus hu
      generalize seqI (s.data.toList.drop k) = q at hq hle he
      have HQ := Lib.hid hq
      clear hq
      by_cases h0 : q = 0
      · subst h0
        rw [if_pos rfl] at he
        have HE := Lib.hid he
        clear he
        go_wp2_with (go_at_call 87; refine (HQ.out _).mono ?_; rintro e w1 ⟨rfl, hb⟩)
        go_ret2
        exact ⟨by rw [utfV_some s k HE.out]; rfl, below_then hB hB.size hb⟩
      · rw [if_neg h0] at he
        have HE := Lib.hid he
        clear he
        obtain ⟨qn, rfl⟩ := Int.eq_ofNat_of_zero_le hle.1
        rw [Int.toNat_natCast] at HE
        go_wp2_with (go_at_call 87; refine (HQ.out _).mono ?_; rintro e w1 ⟨rfl, hb⟩)
        exact ⟨⟨k + qn, f, by omega, by omega, by go_num, HE, below_then hB hB.size hb⟩, by simp [intOf]; omega⟩
    · have he := HE.out
      have hn : utfAt s.data.toList f k = none := by
        cases f with
        | zero => rfl
        | succ f =>
          unfold utfAt
          rw [dlen, if_neg hlt]
      rw [hn] at he
      have HE2 := Lib.hid he
      clear he hn HE
      go_wp2
      go_ret2
      exact ⟨by rw [utfV_none s HE2.out]; rfl, hB⟩
end Go.Proofs.YtmgfikfcnhhnhaaGreatDoor
