/- match: what the six kinds with pieces answer, continued. -/
import Derived.Test.YtmgfikfcnhhnhaaGreatDoorKindW
namespace Go.Proofs.YtmgfikfcnhhnhaaGreatDoor
open Go.RowKit

set_option maxRecDepth 100000 in
theorem exact_partial (w : World) : Calls Tryz.prog 210 #[.agg #[]] w fun e w' => e = .returned (.bool true) ∧ Below w.heap.size w w' := by
  go_enter Tryz.func210, Tryz.ntmps210
  go_wp2
  go_ret
  exact ⟨rfl, (Below.refl _ _).alloc (Nat.le_refl _) _⟩
set_option maxRecDepth 100000 in
theorem low_partial (w : World) : Calls Tryz.prog 220 #[.agg #[]] w fun e w' => e = .returned (.bool true) ∧ Below w.heap.size w w' := by
  go_enter Tryz.func220, Tryz.ntmps220
  go_wp2
  go_ret
  exact ⟨rfl, (Below.refl _ _).alloc (Nat.le_refl _) _⟩
set_option maxRecDepth 100000 in
theorem numeric_partial (w : World) : Calls Tryz.prog 227 #[.agg #[]] w fun e w' => e = .returned (.bool true) ∧ Below w.heap.size w w' := by
  go_enter Tryz.func227, Tryz.ntmps227
  go_wp2
  go_ret
  exact ⟨rfl, (Below.refl _ _).alloc (Nat.le_refl _) _⟩
set_option maxRecDepth 100000 in
theorem phone_partial (w : World) : Calls Tryz.prog 233 #[.agg #[]] w fun e w' => e = .returned (.bool true) ∧ Below w.heap.size w w' := by
  go_enter Tryz.func233, Tryz.ntmps233
  go_wp2
  go_ret
  exact ⟨rfl, (Below.refl _ _).alloc (Nat.le_refl _) _⟩
set_option maxRecDepth 100000 in
theorem octet_partial (w : World) : Calls Tryz.prog 239 #[.agg #[]] w fun e w' => e = .returned (.bool true) ∧ Below w.heap.size w w' := by
  go_enter Tryz.func239, Tryz.ntmps239
  go_wp2
  go_ret
  exact ⟨rfl, (Below.refl _ _).alloc (Nat.le_refl _) _⟩
set_option maxRecDepth 100000 in
theorem octet_normal (l : List UInt8) (w : World) : Calls Tryz.prog 238 #[.agg #[], .string (mkB l)] w fun e w' => e = .returned (NRv (some l)) ∧ Below w.heap.size w w' := by
  go_enter Tryz.func238, Tryz.ntmps238
  go_wp2
  go_ret2
  exact ⟨rfl, (Below.refl _ _).alloc (Nat.le_refl _) _⟩
set_option maxRecDepth 100000 in
theorem octet_piece (l : List UInt8) (w : World) : Calls Tryz.prog 240 #[.agg #[], .string (mkB l)] w fun e w' => e = .returned (.tuple #[.string (mkB l), .bool true]) ∧ Below w.heap.size w w' := by
  go_enter Tryz.func240, Tryz.ntmps240
  go_wp2
  go_ret2
  exact ⟨rfl, (Below.refl _ _).alloc (Nat.le_refl _) _⟩

def ascB (c : UInt8) : Bool := decide ((c.toNat : Int) ≤ 127)
attribute [local go_sem] mkB_size
set_option maxRecDepth 100000 in
theorem match_ascii (l : List UInt8) (w : World) (hl : l.length ≤ LIM) : Calls Tryz.prog 223 #[.string (mkB l)] w fun e w' => e = .returned (.bool (l.all ascB)) ∧ w = w' := by
  unfold LIM at hl
  go_enter Tryz.func223, Tryz.ntmps223
  go_wp2
  go_loopw [6] (fun i wr => ∃ k : Nat, k ≤ l.length ∧ i = .int .i64 k ∧ Hid (l.all ascB = (l.drop k).all ascB) ∧ w = wr) (fun i _ => l.length - (intOf i).toNat)
  case atStart => exact ⟨0, Nat.zero_le _, rfl, Lib.hid rfl, rfl⟩
  case round =>
    obtain ⟨k, hk, rfl, HA, rfl⟩ := hrel
    have ha := HA.out
    clear HA
    by_cases hlt : k < l.length
    · rw [List.drop_eq_getElem_cons hlt, List.all_cons] at ha
      have hat := at_mkB l k hlt
      by_cases hg : (l[k].toNat : Int) ≤ 127
      · have hgb : ascB l[k] = true := decide_eq_true hg
        rw [hgb, Bool.true_and] at ha
        have HA := Lib.hid ha
        clear ha hgb
        go_wp2
        exact ⟨⟨k + 1, by omega, by go_num, Lib.hid HA.out, by first | rfl | trivial⟩, by simp [intOf]; omega⟩
      · have hgb : ascB l[k] = false := decide_eq_false hg
        rw [hgb, Bool.false_and] at ha
        have HA := Lib.hid ha
        have hg2 : 127 < (l[k].toNat : Int) := by omega
        clear ha hgb
        go_wp2
        go_ret
        exact ⟨ret_bool (by rw [HA.out]), rfl⟩
    · rw [List.drop_eq_nil_of_le (by omega)] at ha
      have HA := Lib.hid ha
      clear ha
      go_wp2
      go_ret
      exact ⟨ret_bool (by rw [HA.out]; rfl), rfl⟩

def loN (l : List UInt8) : Option (List UInt8) := if l.all ascB = true then some (squeeze l) else none
set_option maxRecDepth 100000 in
theorem low_normal (l : List UInt8) (w : World) (hl : l.length ≤ LIM) : Calls Tryz.prog 219 #[.agg #[], .string (mkB l)] w fun e w' => e = .returned (NRv (loN l)) ∧ Below w.heap.size w w' := by
  have A := Lib.hid (fun W => match_ascii l W hl)
  have Q := Lib.hid (fun W => text_Squeeze (mkB l) W (by rw [mkB_size]; unfold LIM at hl; omega))
  rw [mkB_data] at Q
  unfold loN
  cases h : l.all ascB with
  | false =>
    rw [h] at A
    rw [if_neg (by simp)]
    clear h
    go_enter Tryz.func219, Tryz.ntmps219
    go_wp2_with (fail)
    refine (A.out _).mono ?_
    rintro e w1 ⟨rfl, rfl⟩
    go_wp2
    go_ret2
    exact ⟨rfl, (Below.refl _ _).alloc (Nat.le_refl _) _⟩
  | true =>
    rw [h] at A
    rw [if_pos rfl]
    clear h
    go_enter Tryz.func219, Tryz.ntmps219
    go_wp2_with (fail)
    refine (A.out _).mono ?_
    rintro e w1 ⟨rfl, rfl⟩
    go_wp2_with (fail)
    refine (Q.out _).mono ?_
    rintro e w2 ⟨rfl, hb⟩
    go_wp2
    go_ret2
    exact ⟨rfl, below_then ((Below.refl _ _).alloc (Nat.le_refl _) _) (by simp) hb⟩
set_option maxRecDepth 100000 in
theorem low_piece (l : List UInt8) (w : World) (hl : l.length ≤ LIM) : Calls Tryz.prog 221 #[.agg #[], .string (mkB l)] w fun e w' => e = .returned (.tuple #[.string (mkB (collapse l)), .bool (l.all ascB)]) ∧ Below w.heap.size w w' := by
  have H1 := Lib.hid (fun W => text_Collapse (mkB l) W (by rw [mkB_size]; unfold LIM at hl; omega))
  have A := Lib.hid (fun W => match_ascii l W hl)
  simp only [mkB_data] at H1
  go_enter Tryz.func221, Tryz.ntmps221
  go_wp2_with (fail)
  refine (H1.out _).mono ?_
  rintro e w1 ⟨rfl, hb⟩
  go_wp2_with (fail)
  refine (A.out _).mono ?_
  rintro e w2 ⟨rfl, rfl⟩
  go_wp2
  go_ret2
  exact ⟨rfl, below_then ((Below.refl _ _).alloc (Nat.le_refl _) _) (by simp) hb⟩

set_option maxRecDepth 100000 in
theorem numeric_piece (l : List UInt8) (w : World) (hl : l.length ≤ LIM) (hx : MaxL w) : Calls Tryz.prog 228 #[.agg #[], .string (mkB l)] w fun e w' => e = .returned (.tuple #[.string (mkB (repl 32 [] l)), .bool (l.all spB)]) ∧ Below w.heap.size w w' := by
  have A := Lib.hid (fun W => match_all l 229 spB W hl (fun args w => by kernel_rfl) match_num1)
  have S := Lib.hid (fun W hW => strip_at 32 l W hl hW)
  go_enter Tryz.func228, Tryz.ntmps228
  go_wp2_with (fail)
  refine (A.out _).mono ?_
  rintro e w1 ⟨rfl, rfl⟩
  have hB := (Below.refl w.heap.size w).alloc (Nat.le_refl _) (.cells #[] 264)
  go_wp2_with (fail)
  refine (S.out _ (hx.below hB)).mono ?_
  rintro e w2 ⟨rfl, hb⟩
  go_wp2
  go_ret2
  exact ⟨rfl, below_then hB hB.size hb⟩
def nuN (l : List UInt8) : Option (List UInt8) := if l = [] then none else if l.all spB = true then some (repl 32 [] l) else none

set_option maxRecDepth 100000 in
theorem phone_piece (l : List UInt8) (w : World) (hl : l.length ≤ LIM) (hx : MaxL w) : Calls Tryz.prog 234 #[.agg #[], .string (mkB l)] w fun e w' => e = .returned (.tuple #[.string (mkB (repl 45 [] (repl 32 [] (fold l)))), .bool (l.all prB)]) ∧ Below w.heap.size w w' := by
  have hf := fold_length l
  have hr := repl_none_length 32 (fold l)
  have F := Lib.hid (fun W => text_Fold (mkB l) W (by rw [mkB_size]; unfold LIM at hl; omega))
  rw [mkB_data] at F
  have A := Lib.hid (fun W => match_all l 235 prB W hl (fun args w => by kernel_rfl) match_printable)
  have S1 := Lib.hid (fun W hW => strip_at 32 (fold l) W (by omega) hW)
  have S2 := Lib.hid (fun W hW => strip_at 45 (repl 32 [] (fold l)) W (by omega) hW)
  have hB := (Below.refl w.heap.size w).alloc (Nat.le_refl _) (.cells #[] 265)
  clear hf hr
  go_enter Tryz.func234, Tryz.ntmps234
  go_wp2_with (fail)
  refine (F.out _).mono ?_
  rintro e w1 ⟨rfl, hb⟩
  replace hB := below_then hB hB.size hb
  clear hb
  go_wp2_with (fail)
  refine (S1.out _ (hx.below hB)).mono ?_
  rintro e w2 ⟨rfl, hb⟩
  replace hB := below_then hB hB.size hb
  clear hb
  go_wp2_with (fail)
  refine (S2.out _ (hx.below hB)).mono ?_
  rintro e w3 ⟨rfl, hb⟩
  replace hB := below_then hB hB.size hb
  clear hb
  go_wp2_with (fail)
  refine (A.out _).mono ?_
  rintro e w4 ⟨rfl, rfl⟩
  go_wp2
  go_ret2
  exact ⟨rfl, hB⟩
end Go.Proofs.YtmgfikfcnhhnhaaGreatDoor
