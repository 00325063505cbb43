/- text.sequence. -/
import Derived.Test.YtmgfikfcnhhnhaaGreatDoorT5
namespace Go.Proofs.YtmgfikfcnhhnhaaGreatDoor
open Go.RowKit

theorem idx1 (s : ByteArray) (h : 1 < s.size) (W : World) : (Instr.index 9 (.string s) (.int .i64 1)).run Tryz.prog W = .ok (.int .u8 (s[1].toNat : Int)) W := by
  rw [run_index_string W 9 s .i64 1 Tryz.underlying9]
  have h1 : (0 : Int) ≤ 1 ∧ (1 : Int) < (s.size : Int) := by omega
  rw [dif_pos h1]
  rfl

theorem below_drewN {B : Nat} {w W : World} (h : Below B w W) (n : Nat) : Below B w (W.drewN n) := ⟨h.os, h.tape, h.output, h.size, h.block⟩

set_option maxRecDepth 100000 in
theorem seq_bad (s : ByteArray) (w : World) (hp : 0 < s.size) (_hs : s.size ≤ 1099511627776) (n lo hi : Int) (hc : MissCall (s[0].toNat : Int) n lo hi false) :
    Calls Tryz.prog 87 #[.string s] w fun e w' => e = .returned (.int .i64 0) ∧ Below w.heap.size w w' := by
  go_enter Tryz.func87, Tryz.ntmps87
  go_wp2_with (first | (go_at_call 100; refine (hc _).mono ?_; rintro e w1 ⟨rfl, hb⟩; have hz := hb.size))
  go_ret
  exact ⟨rfl, by repeat (first | exact hb | apply Below.drew | apply below_drewN | (refine Below.alloc ?_ (by first | exact hb.size | (simp; exact hb.size) | (simp; omega)) _))⟩

set_option maxRecDepth 100000 in
theorem seq_short (s : ByteArray) (w : World) (hp : 0 < s.size) (_hs : s.size ≤ 1099511627776) (n lo hi : Int) (hc : MissCall (s[0].toNat : Int) n lo hi true) (h0 : 0 ≤ n) (h3 : n ≤ 3) (hn : (s.size : Int) < n + 1) :
    Calls Tryz.prog 87 #[.string s] w fun e w' => e = .returned (.int .i64 0) ∧ Below w.heap.size w w' := by
  go_enter Tryz.func87, Tryz.ntmps87
  go_wp2_with (first | (go_at_call 100; refine (hc _).mono ?_; rintro e w1 ⟨rfl, hb⟩; have hz := hb.size))
  go_ret
  exact ⟨rfl, by repeat (first | exact hb | apply Below.drew | apply below_drewN | (refine Below.alloc ?_ (by first | exact hb.size | (simp; exact hb.size) | (simp; omega)) _))⟩

set_option maxRecDepth 100000 in
theorem seq_0 (s : ByteArray) (w : World) (hp : 0 < s.size) (hs : s.size ≤ 1099511627776) (lo hi : Int) (hc : MissCall (s[0].toNat : Int) 0 lo hi true) :
    Calls Tryz.prog 87 #[.string s] w fun e w' => e = .returned (.int .i64 1) ∧ Below w.heap.size w w' := by
  go_enter Tryz.func87, Tryz.ntmps87
  go_wp2_with (first | (go_at_call 100; refine (hc _).mono ?_; rintro e w1 ⟨rfl, hb⟩; have hz := hb.size))
  go_ret
  exact ⟨rfl, by repeat (first | exact hb | apply Below.drew | apply below_drewN | (refine Below.alloc ?_ (by first | exact hb.size | (simp; exact hb.size) | (simp; omega)) _))⟩

set_option maxRecDepth 100000 in
theorem seq_1_lo (s : ByteArray) (w : World) (hp : 0 < s.size) (hs : s.size ≤ 1099511627776) (lo hi : Int) (hc : MissCall (s[0].toNat : Int) 1 lo hi true) (hn : 1 < s.size) (hl : (s[1].toNat : Int) < lo) :
    Calls Tryz.prog 87 #[.string s] w fun e w' => e = .returned (.int .i64 0) ∧ Below w.heap.size w w' := by
  have hx := idx1 s (by omega)
  go_enter Tryz.func87, Tryz.ntmps87
  go_wp2_with (first | (go_at_call 100; refine (hc _).mono ?_; rintro e w1 ⟨rfl, hb⟩; have hz := hb.size))
  go_quiet (fail)
  go_wp2
  go_ret
  exact ⟨rfl, by repeat (first | exact hb | apply Below.drew | apply below_drewN | (refine Below.alloc ?_ (by first | exact hb.size | (simp; exact hb.size) | (simp; omega)) _))⟩

set_option maxRecDepth 100000 in
theorem seq_1_hi (s : ByteArray) (w : World) (hp : 0 < s.size) (hs : s.size ≤ 1099511627776) (lo hi : Int) (hc : MissCall (s[0].toNat : Int) 1 lo hi true) (hn : 1 < s.size) (hl : lo ≤ (s[1].toNat : Int)) (hh : hi < (s[1].toNat : Int)) :
    Calls Tryz.prog 87 #[.string s] w fun e w' => e = .returned (.int .i64 0) ∧ Below w.heap.size w w' := by
  have hx := idx1 s (by omega)
  go_enter Tryz.func87, Tryz.ntmps87
  go_wp2_with (first | (go_at_call 100; refine (hc _).mono ?_; rintro e w1 ⟨rfl, hb⟩; have hz := hb.size))
  go_quiet (fail)
  go_wp2
  go_ret
  exact ⟨rfl, by repeat (first | exact hb | apply Below.drew | apply below_drewN | (refine Below.alloc ?_ (by first | exact hb.size | (simp; exact hb.size) | (simp; omega)) _))⟩

set_option maxRecDepth 100000 in
theorem seq_1_ok (s : ByteArray) (w : World) (hp : 0 < s.size) (hs : s.size ≤ 1099511627776) (lo hi : Int) (hc : MissCall (s[0].toNat : Int) 1 lo hi true) (hn : 1 < s.size) (hl : lo ≤ (s[1].toNat : Int)) (hh : (s[1].toNat : Int) ≤ hi) :
    Calls Tryz.prog 87 #[.string s] w fun e w' => e = .returned (.int .i64 2) ∧ Below w.heap.size w w' := by
  have hx := idx1 s (by omega)
  go_enter Tryz.func87, Tryz.ntmps87
  go_wp2_with (first | (go_at_call 100; refine (hc _).mono ?_; rintro e w1 ⟨rfl, hb⟩; have hz := hb.size))
  go_quiet (fail)
  go_wp2
  go_ret
  exact ⟨rfl, by repeat (first | exact hb | apply Below.drew | apply below_drewN | (refine Below.alloc ?_ (by first | exact hb.size | (simp; exact hb.size) | (simp; omega)) _))⟩

set_option maxRecDepth 100000 in
theorem seq_2_2 (s : ByteArray) (w : World) (hp : 0 < s.size) (hs : s.size ≤ 1099511627776) (lo hi : Int) (hc : MissCall (s[0].toNat : Int) 2 lo hi true) (hn : 2 < s.size) (g2 : goesI (s[2].toNat : Int) = false) :
    Calls Tryz.prog 87 #[.string s] w fun e w' => e = .returned (.int .i64 0) ∧ Below w.heap.size w w' := by
  go_enter Tryz.func87, Tryz.ntmps87
  go_wp2_with (first | (go_at_call 100; refine (hc _).mono ?_; rintro e w1 ⟨rfl, hb⟩; have hz := hb.size) | (go_at_call 101; refine (text_goesOn _ _).mono ?_; rintro e w2 ⟨rfl, rfl⟩))
  go_ret
  exact ⟨rfl, by repeat (first | exact hb | apply Below.drew | apply below_drewN | (refine Below.alloc ?_ (by first | exact hb.size | (simp; exact hb.size) | (simp; omega)) _))⟩

set_option maxRecDepth 100000 in
theorem seq_2_lo (s : ByteArray) (w : World) (hp : 0 < s.size) (hs : s.size ≤ 1099511627776) (lo hi : Int) (hc : MissCall (s[0].toNat : Int) 2 lo hi true) (hn : 2 < s.size) (g2 : goesI (s[2].toNat : Int) = true) (hl : (s[1].toNat : Int) < lo) :
    Calls Tryz.prog 87 #[.string s] w fun e w' => e = .returned (.int .i64 0) ∧ Below w.heap.size w w' := by
  have hx := idx1 s (by omega)
  go_enter Tryz.func87, Tryz.ntmps87
  go_wp2_with (first | (go_at_call 100; refine (hc _).mono ?_; rintro e w1 ⟨rfl, hb⟩; have hz := hb.size) | (go_at_call 101; refine (text_goesOn _ _).mono ?_; rintro e w2 ⟨rfl, rfl⟩))
  go_quiet (fail)
  go_wp2
  go_ret
  exact ⟨rfl, by repeat (first | exact hb | apply Below.drew | apply below_drewN | (refine Below.alloc ?_ (by first | exact hb.size | (simp; exact hb.size) | (simp; omega)) _))⟩

set_option maxRecDepth 100000 in
theorem seq_2_hi (s : ByteArray) (w : World) (hp : 0 < s.size) (hs : s.size ≤ 1099511627776) (lo hi : Int) (hc : MissCall (s[0].toNat : Int) 2 lo hi true) (hn : 2 < s.size) (g2 : goesI (s[2].toNat : Int) = true) (hl : lo ≤ (s[1].toNat : Int)) (hh : hi < (s[1].toNat : Int)) :
    Calls Tryz.prog 87 #[.string s] w fun e w' => e = .returned (.int .i64 0) ∧ Below w.heap.size w w' := by
  have hx := idx1 s (by omega)
  go_enter Tryz.func87, Tryz.ntmps87
  go_wp2_with (first | (go_at_call 100; refine (hc _).mono ?_; rintro e w1 ⟨rfl, hb⟩; have hz := hb.size) | (go_at_call 101; refine (text_goesOn _ _).mono ?_; rintro e w2 ⟨rfl, rfl⟩))
  go_quiet (fail)
  go_wp2
  go_ret
  exact ⟨rfl, by repeat (first | exact hb | apply Below.drew | apply below_drewN | (refine Below.alloc ?_ (by first | exact hb.size | (simp; exact hb.size) | (simp; omega)) _))⟩

set_option maxRecDepth 100000 in
theorem seq_2_ok (s : ByteArray) (w : World) (hp : 0 < s.size) (hs : s.size ≤ 1099511627776) (lo hi : Int) (hc : MissCall (s[0].toNat : Int) 2 lo hi true) (hn : 2 < s.size) (g2 : goesI (s[2].toNat : Int) = true) (hl : lo ≤ (s[1].toNat : Int)) (hh : (s[1].toNat : Int) ≤ hi) :
    Calls Tryz.prog 87 #[.string s] w fun e w' => e = .returned (.int .i64 3) ∧ Below w.heap.size w w' := by
  have hx := idx1 s (by omega)
  go_enter Tryz.func87, Tryz.ntmps87
  go_wp2_with (first | (go_at_call 100; refine (hc _).mono ?_; rintro e w1 ⟨rfl, hb⟩; have hz := hb.size) | (go_at_call 101; refine (text_goesOn _ _).mono ?_; rintro e w2 ⟨rfl, rfl⟩))
  go_quiet (fail)
  go_wp2
  go_ret
  exact ⟨rfl, by repeat (first | exact hb | apply Below.drew | apply below_drewN | (refine Below.alloc ?_ (by first | exact hb.size | (simp; exact hb.size) | (simp; omega)) _))⟩

set_option maxRecDepth 100000 in
theorem seq_3_3 (s : ByteArray) (w : World) (hp : 0 < s.size) (hs : s.size ≤ 1099511627776) (lo hi : Int) (hc : MissCall (s[0].toNat : Int) 3 lo hi true) (hn : 3 < s.size) (g3 : goesI (s[3].toNat : Int) = false) :
    Calls Tryz.prog 87 #[.string s] w fun e w' => e = .returned (.int .i64 0) ∧ Below w.heap.size w w' := by
  go_enter Tryz.func87, Tryz.ntmps87
  go_wp2_with (first | (go_at_call 100; refine (hc _).mono ?_; rintro e w1 ⟨rfl, hb⟩; have hz := hb.size) | (go_at_call 101; refine (text_goesOn _ _).mono ?_; rintro e w2 ⟨rfl, rfl⟩))
  go_ret
  exact ⟨rfl, by repeat (first | exact hb | apply Below.drew | apply below_drewN | (refine Below.alloc ?_ (by first | exact hb.size | (simp; exact hb.size) | (simp; omega)) _))⟩

set_option maxRecDepth 100000 in
theorem seq_3_2 (s : ByteArray) (w : World) (hp : 0 < s.size) (hs : s.size ≤ 1099511627776) (lo hi : Int) (hc : MissCall (s[0].toNat : Int) 3 lo hi true) (hn : 3 < s.size) (g3 : goesI (s[3].toNat : Int) = true) (g2 : goesI (s[2].toNat : Int) = false) :
    Calls Tryz.prog 87 #[.string s] w fun e w' => e = .returned (.int .i64 0) ∧ Below w.heap.size w w' := by
  go_enter Tryz.func87, Tryz.ntmps87
  go_wp2_with (first | (go_at_call 100; refine (hc _).mono ?_; rintro e w1 ⟨rfl, hb⟩; have hz := hb.size) | (go_at_call 101; refine (text_goesOn _ _).mono ?_; rintro e w2 ⟨rfl, rfl⟩))
  go_ret
  exact ⟨rfl, by repeat (first | exact hb | apply Below.drew | apply below_drewN | (refine Below.alloc ?_ (by first | exact hb.size | (simp; exact hb.size) | (simp; omega)) _))⟩

set_option maxRecDepth 100000 in
theorem seq_3_lo (s : ByteArray) (w : World) (hp : 0 < s.size) (hs : s.size ≤ 1099511627776) (lo hi : Int) (hc : MissCall (s[0].toNat : Int) 3 lo hi true) (hn : 3 < s.size) (g3 : goesI (s[3].toNat : Int) = true) (g2 : goesI (s[2].toNat : Int) = true) (hl : (s[1].toNat : Int) < lo) :
    Calls Tryz.prog 87 #[.string s] w fun e w' => e = .returned (.int .i64 0) ∧ Below w.heap.size w w' := by
  have hx := idx1 s (by omega)
  go_enter Tryz.func87, Tryz.ntmps87
  go_wp2_with (first | (go_at_call 100; refine (hc _).mono ?_; rintro e w1 ⟨rfl, hb⟩; have hz := hb.size) | (go_at_call 101; refine (text_goesOn _ _).mono ?_; rintro e w2 ⟨rfl, rfl⟩))
  go_quiet (fail)
  go_wp2
  go_ret
  exact ⟨rfl, by repeat (first | exact hb | apply Below.drew | apply below_drewN | (refine Below.alloc ?_ (by first | exact hb.size | (simp; exact hb.size) | (simp; omega)) _))⟩

set_option maxRecDepth 100000 in
theorem seq_3_hi (s : ByteArray) (w : World) (hp : 0 < s.size) (hs : s.size ≤ 1099511627776) (lo hi : Int) (hc : MissCall (s[0].toNat : Int) 3 lo hi true) (hn : 3 < s.size) (g3 : goesI (s[3].toNat : Int) = true) (g2 : goesI (s[2].toNat : Int) = true) (hl : lo ≤ (s[1].toNat : Int)) (hh : hi < (s[1].toNat : Int)) :
    Calls Tryz.prog 87 #[.string s] w fun e w' => e = .returned (.int .i64 0) ∧ Below w.heap.size w w' := by
  have hx := idx1 s (by omega)
  go_enter Tryz.func87, Tryz.ntmps87
  go_wp2_with (first | (go_at_call 100; refine (hc _).mono ?_; rintro e w1 ⟨rfl, hb⟩; have hz := hb.size) | (go_at_call 101; refine (text_goesOn _ _).mono ?_; rintro e w2 ⟨rfl, rfl⟩))
  go_quiet (fail)
  go_wp2
  go_ret
  exact ⟨rfl, by repeat (first | exact hb | apply Below.drew | apply below_drewN | (refine Below.alloc ?_ (by first | exact hb.size | (simp; exact hb.size) | (simp; omega)) _))⟩

set_option maxRecDepth 100000 in
theorem seq_3_ok (s : ByteArray) (w : World) (hp : 0 < s.size) (hs : s.size ≤ 1099511627776) (lo hi : Int) (hc : MissCall (s[0].toNat : Int) 3 lo hi true) (hn : 3 < s.size) (g3 : goesI (s[3].toNat : Int) = true) (g2 : goesI (s[2].toNat : Int) = true) (hl : lo ≤ (s[1].toNat : Int)) (hh : (s[1].toNat : Int) ≤ hi) :
    Calls Tryz.prog 87 #[.string s] w fun e w' => e = .returned (.int .i64 4) ∧ Below w.heap.size w w' := by
  have hx := idx1 s (by omega)
  go_enter Tryz.func87, Tryz.ntmps87
  go_wp2_with (first | (go_at_call 100; refine (hc _).mono ?_; rintro e w1 ⟨rfl, hb⟩; have hz := hb.size) | (go_at_call 101; refine (text_goesOn _ _).mono ?_; rintro e w2 ⟨rfl, rfl⟩))
  go_quiet (fail)
  go_wp2
  go_ret
  exact ⟨rfl, by repeat (first | exact hb | apply Below.drew | apply below_drewN | (refine Below.alloc ?_ (by first | exact hb.size | (simp; exact hb.size) | (simp; omega)) _))⟩

end Go.Proofs.YtmgfikfcnhhnhaaGreatDoor
