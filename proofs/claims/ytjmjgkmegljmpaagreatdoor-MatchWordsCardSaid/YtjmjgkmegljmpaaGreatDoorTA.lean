/- match: the rule of words: Suits, Asserts, reads, aWord, ByRule. -/
import Derived.Test.YtjmjgkmegljmpaaGreatDoorT9
import Derived.Test.YtjmjgkmegljmpaaGreatDoorT8
import Derived.Test.YtjmjgkmegljmpaaGreatDoorShelg
namespace Go.Proofs.YtjmjgkmegljmpaaGreatDoor
open Go.RowKit

theorem methFolded (w : World) : (method 398 260 (.agg #[]) "roster/match.normal").run Tryz.prog w = .ok (222, .agg #[]) w := by kernel_rfl
theorem field_2 (a b d : Value) (c : Int) (w : World) : (Instr.field 44 (.agg #[a, b, .int .i64 c, d]) 2).run Tryz.prog w = .ok (.int .i64 c) w := by kernel_rfl
theorem field_3 (a b c : Value) (f : Fn) (x : Array Value) (w : World) : (Instr.field 44 (.agg #[a, b, c, .func f x #[]]) 3).run Tryz.prog w = .ok (.func f x #[]) w := by kernel_rfl
attribute [local go_sem] methFolded field_2 field_3

/-- kinds[1] is folded. -/
def KindsF (w : World) : Prop := w.cell? ⟨0, 1, none⟩ = some (.iface 260 (.agg #[]))
theorem KindsF.below {w w1 : World} (h : KindsF w) (hb : Below w.heap.size w w1) : KindsF w1 := (hb.cell (World.block_lt_of_cell? w _ h)).trans h

theorem of_1 (w : World) (hk : KindsF w) : Calls Tryz.prog 36 #[.int .i64 1] w fun e w' => e = .returned (.iface 260 (.agg #[])) ∧ w = w' := by
  unfold KindsF at hk
  go_enter Tryz.func36, Tryz.ntmps36
  go_wp2
  go_ret
  exact ⟨rfl, rfl⟩

set_option maxRecDepth 100000 in
theorem normal_1 (v : ByteArray) (w : World) (hs : v.size ≤ 1099511627776) (hk : KindsF w) : Calls Tryz.prog 19 #[.int .i64 1, .string v] w fun e w' => e = .returned (NRv (foN v.data.toList)) ∧ Below w.heap.size w w' := by
  have hf := fun W => folded_normal v W hs
  have HF := Lib.hid hf
  clear hf
  rcases hr : foN v.data.toList with _ | l
  all_goals
    rw [hr] at HF
    clear hr
    go_enter Tryz.func19, Tryz.ntmps19
    go_wp2_with (first | (go_at_call 36; refine (of_1 _ hk).mono ?_; rintro e w1 ⟨rfl, rfl⟩) | (go_at_call 222; refine (HF.out _).mono ?_; rintro e w1 ⟨rfl, hb⟩; simp only [NRv]))
    go_ret2
    exact ⟨rfl, hb⟩
theorem normal_1_some (v : ByteArray) (l : List UInt8) (w : World) (hs : v.size ≤ 1099511627776) (hk : KindsF w) (h : foN v.data.toList = some l) : Calls Tryz.prog 19 #[.int .i64 1, .string v] w fun e w' => e = .returned (.tuple #[.string (mkB l), .bool true]) ∧ Below w.heap.size w w' := by
  have := normal_1 v w hs hk
  rwa [h] at this
theorem normal_1_none (v : ByteArray) (w : World) (hs : v.size ≤ 1099511627776) (hk : KindsF w) (h : foN v.data.toList = none) : Calls Tryz.prog 19 #[.int .i64 1, .string v] w fun e w' => e = .returned (.tuple #[.string ⟨#[]⟩, .bool false]) ∧ Below w.heap.size w w' := by
  have := normal_1 v w hs hk
  rwa [h] at this

theorem known30 (w : World) : Calls Tryz.prog 21 #[.int .i64 30] w fun e w' => e = .returned (.bool true) ∧ w = w' := by
  go_enter Tryz.func21, Tryz.ntmps21
  go_wp2
  go_ret
  exact ⟨rfl, rfl⟩
theorem kindOf30 (w : World) : Calls Tryz.prog 22 #[.int .i64 30] w fun e w' => e = .returned (.int .i64 4) ∧ w = w' := by
  go_enter Tryz.func22, Tryz.ntmps22
  go_wp2
  go_ret
  exact ⟨rfl, rfl⟩
theorem family_1 (w : World) : Calls Tryz.prog 28 #[.int .i64 1] w fun e w' => e = .returned (.int .i64 1) ∧ w = w' := by
  go_enter Tryz.func28, Tryz.ntmps28
  go_wp2
  go_ret
  exact ⟨rfl, rfl⟩
theorem family_2 (w : World) : Calls Tryz.prog 28 #[.int .i64 2] w fun e w' => e = .returned (.int .i64 1) ∧ w = w' := by
  go_enter Tryz.func28, Tryz.ntmps28
  go_wp2
  go_ret
  exact ⟨rfl, rfl⟩
set_option maxRecDepth 100000 in
theorem ruleRows30 (w : World) : Calls Tryz.prog 17 #[.int .i64 30] w fun e w' => e = .returned (.agg #[.string ⟨#[119, 111, 114, 100, 109, 97, 116, 99, 104]⟩, .string ⟨#[50, 46, 53, 46, 49, 51, 46, 51, 50]⟩, .int .i64 1, .func (.func 35) #[] #[]]) ∧ Below w.heap.size w w' := by
  go_enter Tryz.func17, Tryz.ntmps17
  go_wp2
  exact bodyPost_ret (v := .agg #[.string ⟨#[119, 111, 114, 100, 109, 97, 116, 99, 104]⟩, .string ⟨#[50, 46, 53, 46, 49, 51, 46, 51, 50]⟩, .int .i64 1, .func (.func 35) #[] #[]]) (by simp [results, Tryz.results17, go_sem]) rfl ⟨rfl, (Below.refl _ _).alloc (Nat.le_refl _) _⟩
set_option maxRecDepth 100000 in
theorem suits30_1 (w : World) : Calls Tryz.prog 15 #[.int .i64 30, .int .i64 1] w fun e w' => e = .returned (.bool true) ∧ Below w.heap.size w w' := by
  go_enter Tryz.func15, Tryz.ntmps15
  go_wp2_with (first | (go_at_call 21; refine (known30 _).mono ?_; rintro e w1 ⟨rfl, rfl⟩) | (go_at_call 17; refine (ruleRows30 _).mono ?_; rintro e w1 ⟨rfl, hb⟩) | (go_at_call 28; refine (family_1 _).mono ?_; rintro e w2 ⟨rfl, rfl⟩))
  go_ret
  exact ⟨rfl, hb⟩
set_option maxRecDepth 100000 in
theorem suits30_2 (w : World) : Calls Tryz.prog 15 #[.int .i64 30, .int .i64 2] w fun e w' => e = .returned (.bool true) ∧ Below w.heap.size w w' := by
  go_enter Tryz.func15, Tryz.ntmps15
  go_wp2_with (fail)
  refine (known30 _).mono ?_
  rintro e w1 ⟨rfl, rfl⟩
  go_wp2_with (fail)
  refine (ruleRows30 _).mono ?_
  rintro e w1 ⟨rfl, hb⟩
  go_wp2_with (fail)
  refine (family_1 _).mono ?_
  rintro e w2 ⟨rfl, rfl⟩
  go_wp2_with (fail)
  refine (family_2 _).mono ?_
  rintro e w2 ⟨rfl, rfl⟩
  go_wp2
  go_ret
  exact ⟨rfl, hb⟩

theorem contains_32 (l : List UInt8) (w : World) : Calls Tryz.prog 25 #[.string (mkB l), .string ⟨#[32]⟩] w fun e w' => e = .returned (.bool (decide (0 ≤ Lib.indexByte l 32))) ∧ w' = w :=
  Tryz.strings_Contains_one (mkB l) 32 w
def assertW (l : List UInt8) : Bool := match foN l with
  | none => false
  | some n => if n.length = 0 then false else !(decide (0 ≤ Lib.indexByte n 32))

set_option maxRecDepth 100000 in
theorem asserts30 (a : ByteArray) (w : World) (hs : a.size ≤ 1099511627776) (hk : KindsF w) :
    Calls Tryz.prog 10 #[.int .i64 30, .string a] w fun e w' => e = .returned (.bool (assertW a.data.toList)) ∧ Below w.heap.size w w' := by
  unfold assertW
  rcases hr : foN a.data.toList with _ | n
  · have HN := Lib.hid (fun W hW => normal_1_none a W hs hW hr)
    clear hr
    go_enter Tryz.func10, Tryz.ntmps10
    go_wp2_with (first | (go_at_call 21; refine (known30 _).mono ?_; rintro e w1 ⟨rfl, rfl⟩) | (go_at_call 17; refine (ruleRows30 _).mono ?_; rintro e w1 ⟨rfl, hb⟩) | (go_at_call 19; refine (HN.out _ (hk.below hb)).mono ?_; rintro e w2 ⟨rfl, hb2⟩; have hB := below_then hb hb.size hb2) | (go_at_call 22; refine (kindOf30 _).mono ?_; rintro e w3 ⟨rfl, rfl⟩))
    go_ret
    exact ⟨rfl, hB⟩
  · have HN := Lib.hid (fun W hW => normal_1_some a n W hs hW hr)
    clear hr
    have es := mkB_size n
    by_cases h0 : n.length = 0
    · have e0 := eqE (s := mkB n) (by omega)
      simp only [h0, if_true]
      clear h0 es
      go_enter Tryz.func10, Tryz.ntmps10
      go_wp2_with (first | (go_at_call 21; refine (known30 _).mono ?_; rintro e w1 ⟨rfl, rfl⟩) | (go_at_call 17; refine (ruleRows30 _).mono ?_; rintro e w1 ⟨rfl, hb⟩) | (go_at_call 19; refine (HN.out _ (hk.below hb)).mono ?_; rintro e w2 ⟨rfl, hb2⟩; have hB := below_then hb hb.size hb2) | (go_at_call 22; refine (kindOf30 _).mono ?_; rintro e w3 ⟨rfl, rfl⟩))
      go_ret
      exact ⟨rfl, hB⟩
    · have m1 := isE (s := mkB n) (by omega)
      have m2 := neE (s := mkB n) (by omega)
      simp only [h0, if_false]
      have HC := Lib.hid (contains_32 n)
      generalize decide (0 ≤ Lib.indexByte n 32) = q at HC
      clear h0 es
      go_enter Tryz.func10, Tryz.ntmps10
      go_wp2_with (first | (go_at_call 21; refine (known30 _).mono ?_; rintro e w1 ⟨rfl, rfl⟩) | (go_at_call 17; refine (ruleRows30 _).mono ?_; rintro e w1 ⟨rfl, hb⟩) | (go_at_call 19; refine (HN.out _ (hk.below hb)).mono ?_; rintro e w2 ⟨rfl, hb2⟩; have hB := below_then hb hb.size hb2) | (go_at_call 22; refine (kindOf30 _).mono ?_; rintro e w3 ⟨rfl, rfl⟩) | (go_at_call 25; refine (HC.out _).mono ?_; rintro e w4 ⟨rfl, rfl⟩))
      go_ret
      exact ⟨rfl, hB⟩
end Go.Proofs.YtjmjgkmegljmpaaGreatDoor
