/- text.missing, goesOn, sequence, Check. -/
import Derived.Test.YtmgfikfcnhhnhaaGreatDoorT4
import Derived.RegionTactic
import Derived.ChangeAlike
import Derived.BigRegion
namespace Go.Proofs.YtmgfikfcnhhnhaaGreatDoor
open Go.RowKit

structure Miss where
  n : Int
  lo : Int
  hi : Int
  ok : Bool
def missI (c : Int) : Miss :=
  if c < 128 then ⟨0, 128, 191, true⟩ else if 194 ≤ c ∧ c ≤ 223 then ⟨1, 128, 191, true⟩ else if c = 224 then ⟨2, 160, 191, true⟩ else if c = 237 then ⟨2, 128, 159, true⟩
  else if 225 ≤ c ∧ c ≤ 239 then ⟨2, 128, 191, true⟩ else if c = 240 then ⟨3, 144, 191, true⟩ else if 241 ≤ c ∧ c ≤ 243 then ⟨3, 128, 191, true⟩ else if c = 244 then ⟨3, 128, 143, true⟩ else ⟨0, 128, 191, false⟩
def missV (m : Miss) : Value := .tuple #[.int .i64 m.n, .agg #[.int .u8 m.lo, .int .u8 m.hi], .bool m.ok]

set_option maxRecDepth 100000 in
theorem miss0 (c : Int) (w : World) (h : c < 128) : Calls Tryz.prog 100 #[.int .u8 c] w fun e w' => e = .returned (missV ⟨0, 128, 191, true⟩) ∧ Below w.heap.size w w' := by
  go_enter Tryz.func100, Tryz.ntmps100
  go_wp2
  all_goals (try (go_region; all_goals go_wp2))
  all_goals exact bodyPost_ret (v := missV ⟨0, 128, 191, true⟩) (by simp [results, Tryz.results100, go_sem, missV]) rfl ⟨rfl, by repeat (first | exact Below.refl _ _ | apply Below.drew | (refine Below.setCell ?_ (by simp) _) | (refine Below.alloc ?_ (by simp; try omega) _))⟩

set_option maxRecDepth 100000 in
theorem miss1 (c : Int) (w : World) (h : 194 ≤ c ∧ c ≤ 223) : Calls Tryz.prog 100 #[.int .u8 c] w fun e w' => e = .returned (missV ⟨1, 128, 191, true⟩) ∧ Below w.heap.size w w' := by
  obtain ⟨h1, h2⟩ := h
  go_enter Tryz.func100, Tryz.ntmps100
  go_wp2
  all_goals (try (go_region; all_goals go_wp2))
  all_goals exact bodyPost_ret (v := missV ⟨1, 128, 191, true⟩) (by simp [results, Tryz.results100, go_sem, missV]) rfl ⟨rfl, by repeat (first | exact Below.refl _ _ | apply Below.drew | (refine Below.setCell ?_ (by simp) _) | (refine Below.alloc ?_ (by simp; try omega) _))⟩

set_option maxRecDepth 100000 in
theorem miss2 (c : Int) (w : World) (h : c = 224) : Calls Tryz.prog 100 #[.int .u8 c] w fun e w' => e = .returned (missV ⟨2, 160, 191, true⟩) ∧ Below w.heap.size w w' := by
  subst h
  go_enter Tryz.func100, Tryz.ntmps100
  go_wp2
  all_goals (try (go_region; all_goals go_wp2))
  all_goals exact bodyPost_ret (v := missV ⟨2, 160, 191, true⟩) (by simp [results, Tryz.results100, go_sem, missV]) rfl ⟨rfl, by repeat (first | exact Below.refl _ _ | apply Below.drew | (refine Below.setCell ?_ (by simp) _) | (refine Below.alloc ?_ (by simp; try omega) _))⟩

set_option maxRecDepth 100000 in
theorem miss3 (c : Int) (w : World) (h : c = 237) : Calls Tryz.prog 100 #[.int .u8 c] w fun e w' => e = .returned (missV ⟨2, 128, 159, true⟩) ∧ Below w.heap.size w w' := by
  subst h
  go_enter Tryz.func100, Tryz.ntmps100
  go_wp2
  all_goals (try (go_region; all_goals go_wp2))
  all_goals exact bodyPost_ret (v := missV ⟨2, 128, 159, true⟩) (by simp [results, Tryz.results100, go_sem, missV]) rfl ⟨rfl, by repeat (first | exact Below.refl _ _ | apply Below.drew | (refine Below.setCell ?_ (by simp) _) | (refine Below.alloc ?_ (by simp; try omega) _))⟩

set_option maxRecDepth 100000 in
theorem miss4 (c : Int) (w : World) (h : 225 ≤ c ∧ c ≤ 239 ∧ c ≠ 237) : Calls Tryz.prog 100 #[.int .u8 c] w fun e w' => e = .returned (missV ⟨2, 128, 191, true⟩) ∧ Below w.heap.size w w' := by
  obtain ⟨h1, h2, h3⟩ := h
  go_enter Tryz.func100, Tryz.ntmps100
  go_wp2
  all_goals (try (go_region; all_goals go_wp2))
  all_goals exact bodyPost_ret (v := missV ⟨2, 128, 191, true⟩) (by simp [results, Tryz.results100, go_sem, missV]) rfl ⟨rfl, by repeat (first | exact Below.refl _ _ | apply Below.drew | (refine Below.setCell ?_ (by simp) _) | (refine Below.alloc ?_ (by simp; try omega) _))⟩

set_option maxRecDepth 100000 in
theorem miss5 (c : Int) (w : World) (h : c = 240) : Calls Tryz.prog 100 #[.int .u8 c] w fun e w' => e = .returned (missV ⟨3, 144, 191, true⟩) ∧ Below w.heap.size w w' := by
  subst h
  go_enter Tryz.func100, Tryz.ntmps100
  go_wp2
  all_goals (try (go_region; all_goals go_wp2))
  all_goals exact bodyPost_ret (v := missV ⟨3, 144, 191, true⟩) (by simp [results, Tryz.results100, go_sem, missV]) rfl ⟨rfl, by repeat (first | exact Below.refl _ _ | apply Below.drew | (refine Below.setCell ?_ (by simp) _) | (refine Below.alloc ?_ (by simp; try omega) _))⟩

set_option maxRecDepth 100000 in
theorem miss6 (c : Int) (w : World) (h : 241 ≤ c ∧ c ≤ 243) : Calls Tryz.prog 100 #[.int .u8 c] w fun e w' => e = .returned (missV ⟨3, 128, 191, true⟩) ∧ Below w.heap.size w w' := by
  obtain ⟨h1, h2⟩ := h
  go_enter Tryz.func100, Tryz.ntmps100
  go_wp2
  all_goals (try (go_region; all_goals go_wp2))
  all_goals exact bodyPost_ret (v := missV ⟨3, 128, 191, true⟩) (by simp [results, Tryz.results100, go_sem, missV]) rfl ⟨rfl, by repeat (first | exact Below.refl _ _ | apply Below.drew | (refine Below.setCell ?_ (by simp) _) | (refine Below.alloc ?_ (by simp; try omega) _))⟩

set_option maxRecDepth 100000 in
theorem miss7 (c : Int) (w : World) (h : c = 244) : Calls Tryz.prog 100 #[.int .u8 c] w fun e w' => e = .returned (missV ⟨3, 128, 143, true⟩) ∧ Below w.heap.size w w' := by
  subst h
  go_enter Tryz.func100, Tryz.ntmps100
  go_wp2
  all_goals (try (go_region; all_goals go_wp2))
  all_goals exact bodyPost_ret (v := missV ⟨3, 128, 143, true⟩) (by simp [results, Tryz.results100, go_sem, missV]) rfl ⟨rfl, by repeat (first | exact Below.refl _ _ | apply Below.drew | (refine Below.setCell ?_ (by simp) _) | (refine Below.alloc ?_ (by simp; try omega) _))⟩

set_option maxRecDepth 100000 in
theorem miss8 (c : Int) (w : World) (h : 128 ≤ c ∧ c < 194) : Calls Tryz.prog 100 #[.int .u8 c] w fun e w' => e = .returned (missV ⟨0, 128, 191, false⟩) ∧ Below w.heap.size w w' := by
  obtain ⟨h1, h2⟩ := h
  go_enter Tryz.func100, Tryz.ntmps100
  go_wp2
  all_goals (try (go_region; all_goals go_wp2))
  all_goals exact bodyPost_ret (v := missV ⟨0, 128, 191, false⟩) (by simp [results, Tryz.results100, go_sem, missV]) rfl ⟨rfl, by repeat (first | exact Below.refl _ _ | apply Below.drew | (refine Below.setCell ?_ (by simp) _) | (refine Below.alloc ?_ (by simp; try omega) _))⟩

set_option maxRecDepth 100000 in
theorem miss9 (c : Int) (w : World) (h : 244 < c) : Calls Tryz.prog 100 #[.int .u8 c] w fun e w' => e = .returned (missV ⟨0, 128, 191, false⟩) ∧ Below w.heap.size w w' := by
  go_enter Tryz.func100, Tryz.ntmps100
  go_wp2
  all_goals (try (go_region; all_goals go_wp2))
  all_goals exact bodyPost_ret (v := missV ⟨0, 128, 191, false⟩) (by simp [results, Tryz.results100, go_sem, missV]) rfl ⟨rfl, by repeat (first | exact Below.refl _ _ | apply Below.drew | (refine Below.setCell ?_ (by simp) _) | (refine Below.alloc ?_ (by simp; try omega) _))⟩

theorem text_missing (c : Int) (w : World) : Calls Tryz.prog 100 #[.int .u8 c] w fun e w' => e = .returned (missV (missI c)) ∧ Below w.heap.size w w' := by
  unfold missI
  split
  · exact miss0 c w ‹_›
  split
  · exact miss1 c w ‹_›
  split
  · exact miss2 c w ‹_›
  split
  · exact miss3 c w ‹_›
  split
  · exact miss4 c w ⟨by omega, by omega, by omega⟩
  split
  · exact miss5 c w ‹_›
  split
  · exact miss6 c w ‹_›
  split
  · exact miss7 c w ‹_›
  by_cases h : c < 194
  · exact miss8 c w ⟨by omega, h⟩
  · exact miss9 c w (by omega)

def goesI (c : Int) : Bool := decide (128 ≤ c) && decide (c ≤ 191)
theorem text_goesOn (c : Int) (w : World) : Calls Tryz.prog 101 #[.int .u8 c] w fun e w' => e = .returned (.bool (goesI c)) ∧ w = w' := by
  have hb : (decide (128 ≤ c) && decide (c ≤ 191)) = goesI c := rfl
  have HB := Lib.hid hb
  clear hb
  go_enter Tryz.func101, Tryz.ntmps101
  go_wp2
  all_goals go_ret
  all_goals refine ⟨ret_bool ?_, rfl⟩
  all_goals rw [← HB.out]
  all_goals simp [*]
  all_goals omega

def gI (l : List UInt8) (i : Nat) : Int := ((l.getD i 0).toNat : Int)
theorem gI_at (s : ByteArray) (i : Nat) (h : i < s.size) : gI s.data.toList i = (s[i].toNat : Int) := by
  unfold gI
  rw [List.getD, List.getElem?_eq_getElem (by rw [dlen]; exact h)]
  rfl
def seqI (l : List UInt8) : Int :=
  if (missI (gI l 0)).ok = false ∨ (l.length : Int) < (missI (gI l 0)).n + 1 then 0
  else if (missI (gI l 0)).n = 3 ∧ goesI (gI l 3) = false then 0
  else if 2 ≤ (missI (gI l 0)).n ∧ goesI (gI l 2) = false then 0
  else if 1 ≤ (missI (gI l 0)).n ∧ (gI l 1 < (missI (gI l 0)).lo ∨ (missI (gI l 0)).hi < gI l 1) then 0
  else (missI (gI l 0)).n + 1
theorem missI_n (c : Int) : (missI c).n = 0 ∨ (missI c).n = 1 ∨ (missI c).n = 2 ∨ (missI c).n = 3 := by
  unfold missI
  repeat' split
  all_goals simp

/-- What sequence asks missing, its answer opened. -/
def MissCall (c n lo hi : Int) (ok : Bool) : Prop := ∀ W : World, Calls Tryz.prog 100 #[.int .u8 c] W fun e w' => e = .returned (.tuple #[.int .i64 n, .agg #[.int .u8 lo, .int .u8 hi], .bool ok]) ∧ Below W.heap.size W w'
theorem missCall (c n lo hi : Int) (ok : Bool) (h : missI c = ⟨n, lo, hi, ok⟩) : MissCall c n lo hi ok := fun W => by
  have := text_missing c W
  rw [h] at this
  exact this

end Go.Proofs.YtmgfikfcnhhnhaaGreatDoor
