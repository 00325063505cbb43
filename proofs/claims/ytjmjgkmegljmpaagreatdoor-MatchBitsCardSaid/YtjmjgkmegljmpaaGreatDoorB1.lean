/- MatchBits: contracts of the small functions. -/
import Derived.Test.YtjmjgkmegljmpaaGreatDoorProg
import Derived.Test.YtjmjgkmegljmpaaGreatDoorShelf
import Derived.WalkKit
import Derived.Below
import Derived.Outline
import Derived.Lib.Hide
import Derived.WalkLawsBesides
import Derived.WalkSpells
import Derived.Laws.EntriesVeiled
import Derived.Deep.QuietTactic
import Derived.BigQuiet
namespace Go.Proofs.YtjmjgkmegljmpaaGreatDoor
open Go.RowKit

theorem known23 (w : World) : Calls Tryz.prog 21 #[.int .i64 23] w fun e w' => e = .returned (.bool true) ∧ w = w' := by
  go_enter Tryz.func21, Tryz.ntmps21
  go_wp2
  go_ret
  exact ⟨rfl, rfl⟩

theorem kindOf23 (w : World) : Calls Tryz.prog 22 #[.int .i64 23] w fun e w' => e = .returned (.int .i64 1) ∧ w = w' := by
  go_enter Tryz.func22, Tryz.ntmps22
  go_wp2
  go_ret
  exact ⟨rfl, rfl⟩


set_option maxRecDepth 100000 in
theorem ruleRows23 (w : World) : Calls Tryz.prog 17 #[.int .i64 23] w fun e w' => e = .returned (.agg #[.string ⟨#[98, 105, 116, 115, 116, 114, 105, 110, 103, 109, 97, 116, 99, 104]⟩, .string ⟨#[50, 46, 53, 46, 49, 51, 46, 49, 54]⟩, .int .i64 14, .func (.func 29) #[] #[]]) ∧ Below w.heap.size w w' := by
  go_enter Tryz.func17, Tryz.ntmps17
  go_wp2
  exact bodyPost_ret (v := .agg #[.string ⟨#[98, 105, 116, 115, 116, 114, 105, 110, 103, 109, 97, 116, 99, 104]⟩, .string ⟨#[50, 46, 53, 46, 49, 51, 46, 49, 54]⟩, .int .i64 14, .func (.func 29) #[] #[]]) (by simp [results, Tryz.results17, go_sem]) rfl ⟨rfl, (Below.refl _ _).alloc (Nat.le_refl _) _⟩

theorem family14 (w : World) : Calls Tryz.prog 28 #[.int .i64 14] w fun e w' => e = .returned (.int .i64 14) ∧ w = w' := by
  go_enter Tryz.func28, Tryz.ntmps28
  go_wp2
  go_ret
  exact ⟨rfl, rfl⟩

theorem field44_2 (a b d : Value) (c : Int) (w : World) : (Instr.field 44 (.agg #[a, b, .int .i64 c, d]) 2).run Tryz.prog w = .ok (.int .i64 c) w := by kernel_rfl
theorem field44_3 (a b c : Value) (f : Fn) (x : Array Value) (w : World) : (Instr.field 44 (.agg #[a, b, c, .func f x #[]]) 3).run Tryz.prog w = .ok (.func f x #[]) w := by kernel_rfl
attribute [local go_sem] field44_2 field44_3

set_option maxRecDepth 100000 in
theorem suits (w : World) : Calls Tryz.prog 15 #[.int .i64 23, .int .i64 14] w fun e w' => e = .returned (.bool true) ∧ Below w.heap.size w w' := by
  go_enter Tryz.func15, Tryz.ntmps15
  go_wp2_with (first | (go_at_call 21; refine (known23 _).mono ?_; rintro e w1 ⟨rfl, rfl⟩) | (go_at_call 17; refine (ruleRows23 _).mono ?_; rintro e w1 ⟨rfl, hb⟩) | (go_at_call 28; refine (family14 _).mono ?_; rintro e w2 ⟨rfl, rfl⟩))
  go_ret
  exact ⟨rfl, hb⟩

theorem closure277 (c : Int) (w : World) : Calls Tryz.prog 277 #[.int .u8 c] w fun e w' => e = .returned (.bool (c == 48 || c == 49)) ∧ w = w' := by
  go_enter Tryz.func277, Tryz.ntmps277
  go_wp2
  all_goals go_ret
  · rename_i h; subst h; exact ⟨rfl, rfl⟩
  · exact ⟨rfl, rfl⟩

theorem closure27 (a b : ByteArray) (w : World) : Calls Tryz.prog 27 #[.string a, .string b] w fun e w' => e = .returned (.bool (a.toList == b.toList)) ∧ w = w' := by
  go_enter Tryz.func27, Tryz.ntmps27
  go_wp2
  all_goals go_ret
  all_goals exact ⟨rfl, rfl⟩

def bit01 (b : UInt8) : Bool := b == 48 || b == 49
def bits01 (l : List UInt8) : Bool := l.all bit01
theorem bit01_int (b : UInt8) : ((b.toNat : Int) == 48 || (b.toNat : Int) == 49) = bit01 b := by
  unfold bit01
  rw [Bool.eq_iff_iff]
  simp [← UInt8.toNat_inj]
  omega

theorem all_take_succ (p : UInt8 → Bool) (s : ByteArray) (k : Nat) (h : k < s.size) : (s.data.toList.take (k + 1)).all p = ((s.data.toList.take k).all p && p s[k]) := by
  rw [List.take_succ_eq_append_getElem (by simpa using h), List.all_append]
  simp
  rfl
theorem all_at (p : UInt8 → Bool) (s : ByteArray) (k : Nat) (h : k < s.size) (hp : p s[k] = false) : s.data.toList.all p = false := by
  rw [List.all_eq_false]
  exact ⟨s[k], Array.mem_toList_iff.2 (Array.getElem_mem (xs := s.data) h), by rw [hp]; simp⟩
theorem ret_bool {a b : Bool} (h : a = b) : Ending.returned (.bool a) = Ending.returned (.bool b) := by rw [h]

theorem all277 (s : ByteArray) (w : World) (hs : s.size ≤ 9223372036854775807) : Calls Tryz.prog 53 #[.string s, .func (.func 277) #[] #[]] w fun e w' => e = .returned (.bool (bits01 s.data.toList)) ∧ w = w' := by
  go_enter Tryz.func53, Tryz.ntmps53
  go_wp2
  go_loop [4, 5, 8] (fun r j i => ∃ k : Nat, k ≤ s.size ∧ i = .int .i64 k ∧ Hid (bits01 (s.data.toList.take k) = true)) (fun _ _ i => s.size - (intOf i).toNat)
  case atStart => exact ⟨0, Nat.zero_le _, rfl, rfl⟩
  case round =>
    obtain ⟨k, hk, rfl, HB⟩ := hrel
    by_cases hlt : k < s.size
    · go_wp2_with (go_at_call 277; refine (closure277 _ _).mono ?_; rintro e w1 ⟨rfl, rfl⟩)
      · rename_i h
        go_ret
        refine ⟨ret_bool ?_, rfl⟩
        symm
        refine all_at _ s k hlt ?_
        rw [← bit01_int]
        simpa using h
      · rename_i h
        refine ⟨⟨k + 1, by omega, by go_num, ?_⟩, by simp [intOf]; omega⟩
        show bits01 (List.take (k + 1) s.data.toList) = true
        unfold bits01
        rw [all_take_succ _ _ _ hlt, ← bit01_int]
        rw [show (List.take k s.data.toList).all bit01 = true from HB.out, Bool.true_and]
        rcases h with h | h <;> simp at h <;> simp [h]
    · go_wp2
      go_ret
      refine ⟨ret_bool ?_, rfl⟩
      have h := HB.out
      rw [List.take_of_length_le (by simp; omega)] at h
      exact h.symm

def isBits (l : List UInt8) : Bool := Lib.hasPrefix l [39] && Lib.hasSuffix (Lib.trimPrefix l [39]) [39, 66] && bits01 (Lib.trimSuffix (Lib.trimPrefix l [39]) [39, 66])

theorem size_mk (l : List UInt8) : (⟨l.toArray⟩ : ByteArray).size = l.length := by simp [ByteArray.size]
/-- What 'normal' answers. -/
def NR : Option ByteArray → Value
  | some s => .tuple #[.string s, .bool true]
  | none => .tuple #[.string ⟨#[]⟩, .bool false]
def bitsN (v : ByteArray) : Option ByteArray := if isBits v.data.toList = true then some v else none

theorem bits_normal (v : ByteArray) (w : World) (hs : v.size ≤ 1152921504606846976) : Calls Tryz.prog 274 #[.agg #[], .string v] w fun e w' => e = .returned (NR (bitsN v)) ∧ Below w.heap.size w w' := by
  have l1 : (Lib.trimPrefix v.data.toList [39]).length ≤ v.size := by
    unfold Lib.trimPrefix
    split <;> simp
  have l2 : (Lib.trimSuffix (Lib.trimPrefix v.data.toList [39]) [39, 66]).length ≤ v.size := by
    unfold Lib.trimSuffix
    split
    · simp only [List.length_take]; omega
    · exact l1
  go_enter Tryz.func274, Tryz.ntmps274
  go_wp2_with (first | (go_at_call 275; refine (Tryz.strings_CutPrefix _ _ _).mono ?_; rintro e w1 ⟨rfl, rfl⟩) | (go_at_call 276; refine (Tryz.strings_CutSuffix _ _ _ ?_).mono ?_; rotate_left; rintro e w1 ⟨rfl, rfl⟩) | (go_at_call 53; refine (all277 _ _ ?_).mono ?_; rotate_left; rintro e w1 ⟨rfl, rfl⟩))
  case refine_1 => rw [size_mk]; omega
  case isTrue.refine_1 => rw [size_mk]; omega
  all_goals (go_ret2; refine ⟨?_, (Below.refl _ _).alloc (Nat.le_refl _) _⟩)
  all_goals simp_all [NR, bitsN, isBits]

end Go.Proofs.YtjmjgkmegljmpaaGreatDoor
