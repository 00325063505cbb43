/- match: the six rules of pieces: known, kindOf, ruleRows, Suits. -/
import Derived.Test.YtmgfikfcnhhnhaaGreatDoorT9
namespace Go.Proofs.YtmgfikfcnhhnhaaGreatDoor
open Go.RowKit

theorem field_2 (a b d : Value) (c : Int) (w : World) : (Instr.field 40 (.agg #[a, b, .int .i64 c, d]) 2).run Tryz.prog w = .ok (.int .i64 c) w := by kernel_rfl
theorem field_3 (a b c : Value) (f : Fn) (x : Array Value) (w : World) : (Instr.field 40 (.agg #[a, b, c, .func f x #[]]) 3).run Tryz.prog w = .ok (.func f x #[]) w := by kernel_rfl
attribute [local go_sem] field_2 field_3

/-- The rule r of the syntax s: what the table says of it. -/
structure RuleP (r s : Int) : Prop where
  known : ∀ w, Calls Tryz.prog 15 #[.int .i64 r] w fun e w' => e = .returned (.bool true) ∧ w = w'
  kind : ∀ w, Calls Tryz.prog 16 #[.int .i64 r] w fun e w' => e = .returned (.int .i64 3) ∧ w = w'
  row : ∀ w, Calls Tryz.prog 11 #[.int .i64 r] w fun e w' => (∃ a b, e = .returned (.agg #[.string a, .string b, .int .i64 s, .func (.func 26) #[] #[]])) ∧ Below w.heap.size w w'
  suits : ∀ w, Calls Tryz.prog 9 #[.int .i64 r, .int .i64 s] w fun e w' => e = .returned (.bool true) ∧ Below w.heap.size w w'
theorem family1 (w : World) : Calls Tryz.prog 20 #[.int .i64 1] w fun e w' => e = .returned (.int .i64 1) ∧ w = w' := by
  go_enter Tryz.func20, Tryz.ntmps20
  go_wp2
  go_ret
  exact ⟨rfl, rfl⟩
theorem family2 (w : World) : Calls Tryz.prog 20 #[.int .i64 2] w fun e w' => e = .returned (.int .i64 1) ∧ w = w' := by
  go_enter Tryz.func20, Tryz.ntmps20
  go_wp2
  go_ret
  exact ⟨rfl, rfl⟩
theorem family3 (w : World) : Calls Tryz.prog 20 #[.int .i64 3] w fun e w' => e = .returned (.int .i64 3) ∧ w = w' := by
  go_enter Tryz.func20, Tryz.ntmps20
  go_wp2
  go_ret
  exact ⟨rfl, rfl⟩
theorem family5 (w : World) : Calls Tryz.prog 20 #[.int .i64 5] w fun e w' => e = .returned (.int .i64 5) ∧ w = w' := by
  go_enter Tryz.func20, Tryz.ntmps20
  go_wp2
  go_ret
  exact ⟨rfl, rfl⟩
theorem family6 (w : World) : Calls Tryz.prog 20 #[.int .i64 6] w fun e w' => e = .returned (.int .i64 6) ∧ w = w' := by
  go_enter Tryz.func20, Tryz.ntmps20
  go_wp2
  go_ret
  exact ⟨rfl, rfl⟩
theorem family9 (w : World) : Calls Tryz.prog 20 #[.int .i64 9] w fun e w' => e = .returned (.int .i64 9) ∧ w = w' := by
  go_enter Tryz.func20, Tryz.ntmps20
  go_wp2
  go_ret
  exact ⟨rfl, rfl⟩
theorem known24 (w : World) : Calls Tryz.prog 15 #[.int .i64 24] w fun e w' => e = .returned (.bool true) ∧ w = w' := by
  go_enter Tryz.func15, Tryz.ntmps15
  go_wp2
  go_ret
  exact ⟨rfl, rfl⟩
theorem kindOf24 (w : World) : Calls Tryz.prog 16 #[.int .i64 24] w fun e w' => e = .returned (.int .i64 3) ∧ w = w' := by
  go_enter Tryz.func16, Tryz.ntmps16
  go_wp2
  go_ret
  exact ⟨rfl, rfl⟩
set_option maxRecDepth 100000 in
theorem ruleRows24 (w : World) : Calls Tryz.prog 11 #[.int .i64 24] w fun e w' => (∃ a b, e = .returned (.agg #[.string a, .string b, .int .i64 1, .func (.func 26) #[] #[]])) ∧ Below w.heap.size w w' := by
  go_enter Tryz.func11, Tryz.ntmps11
  go_wp2
  exact bodyPost_ret (v := .agg #[.string ⟨#[99, 97, 115, 101, 105, 103, 110, 111, 114, 101, 115, 117, 98, 115, 116, 114, 105, 110, 103, 115, 109, 97, 116, 99, 104]⟩, .string ⟨#[50, 46, 53, 46, 49, 51, 46, 52]⟩, .int .i64 1, .func (.func 26) #[] #[]]) (by simp [results, Tryz.results11, go_sem]) rfl ⟨⟨_, _, rfl⟩, (Below.refl _ _).alloc (Nat.le_refl _) _⟩
theorem suits24 (w : World) : Calls Tryz.prog 9 #[.int .i64 24, .int .i64 1] w fun e w' => e = .returned (.bool true) ∧ Below w.heap.size w w' := by
  have HR := Lib.hid ruleRows24
  go_enter Tryz.func9, Tryz.ntmps9
  go_wp2_with (fail)
  refine (known24 _).mono ?_
  rintro e w0 ⟨rfl, rfl⟩
  go_wp2_with (fail)
  refine (HR.out _).mono ?_
  rintro e w1 ⟨⟨a, b, rfl⟩, hb⟩
  go_wp2_with (fail)
  refine (family1 _).mono ?_
  rintro e w2 ⟨rfl, rfl⟩
  go_wp2_with (fail)
  refine (family1 _).mono ?_
  rintro e w3 ⟨rfl, rfl⟩
  go_wp2
  go_ret
  exact ⟨rfl, hb⟩
theorem rule24 : RuleP 24 1 := ⟨known24, kindOf24, ruleRows24, suits24⟩
theorem known25 (w : World) : Calls Tryz.prog 15 #[.int .i64 25] w fun e w' => e = .returned (.bool true) ∧ w = w' := by
  go_enter Tryz.func15, Tryz.ntmps15
  go_wp2
  go_ret
  exact ⟨rfl, rfl⟩
theorem kindOf25 (w : World) : Calls Tryz.prog 16 #[.int .i64 25] w fun e w' => e = .returned (.int .i64 3) ∧ w = w' := by
  go_enter Tryz.func16, Tryz.ntmps16
  go_wp2
  go_ret
  exact ⟨rfl, rfl⟩
set_option maxRecDepth 100000 in
theorem ruleRows25 (w : World) : Calls Tryz.prog 11 #[.int .i64 25] w fun e w' => (∃ a b, e = .returned (.agg #[.string a, .string b, .int .i64 2, .func (.func 26) #[] #[]])) ∧ Below w.heap.size w w' := by
  go_enter Tryz.func11, Tryz.ntmps11
  go_wp2
  exact bodyPost_ret (v := .agg #[.string ⟨#[99, 97, 115, 101, 101, 120, 97, 99, 116, 115, 117, 98, 115, 116, 114, 105, 110, 103, 115, 109, 97, 116, 99, 104]⟩, .string ⟨#[50, 46, 53, 46, 49, 51, 46, 55]⟩, .int .i64 2, .func (.func 26) #[] #[]]) (by simp [results, Tryz.results11, go_sem]) rfl ⟨⟨_, _, rfl⟩, (Below.refl _ _).alloc (Nat.le_refl _) _⟩
theorem suits25 (w : World) : Calls Tryz.prog 9 #[.int .i64 25, .int .i64 2] w fun e w' => e = .returned (.bool true) ∧ Below w.heap.size w w' := by
  have HR := Lib.hid ruleRows25
  go_enter Tryz.func9, Tryz.ntmps9
  go_wp2_with (fail)
  refine (known25 _).mono ?_
  rintro e w0 ⟨rfl, rfl⟩
  go_wp2_with (fail)
  refine (HR.out _).mono ?_
  rintro e w1 ⟨⟨a, b, rfl⟩, hb⟩
  go_wp2_with (fail)
  refine (family2 _).mono ?_
  rintro e w2 ⟨rfl, rfl⟩
  go_wp2_with (fail)
  refine (family2 _).mono ?_
  rintro e w3 ⟨rfl, rfl⟩
  go_wp2
  go_ret
  exact ⟨rfl, hb⟩
theorem rule25 : RuleP 25 2 := ⟨known25, kindOf25, ruleRows25, suits25⟩
theorem known26 (w : World) : Calls Tryz.prog 15 #[.int .i64 26] w fun e w' => e = .returned (.bool true) ∧ w = w' := by
  go_enter Tryz.func15, Tryz.ntmps15
  go_wp2
  go_ret
  exact ⟨rfl, rfl⟩
theorem kindOf26 (w : World) : Calls Tryz.prog 16 #[.int .i64 26] w fun e w' => e = .returned (.int .i64 3) ∧ w = w' := by
  go_enter Tryz.func16, Tryz.ntmps16
  go_wp2
  go_ret
  exact ⟨rfl, rfl⟩
set_option maxRecDepth 100000 in
theorem ruleRows26 (w : World) : Calls Tryz.prog 11 #[.int .i64 26] w fun e w' => (∃ a b, e = .returned (.agg #[.string a, .string b, .int .i64 3, .func (.func 26) #[] #[]])) ∧ Below w.heap.size w w' := by
  go_enter Tryz.func11, Tryz.ntmps11
  go_wp2
  exact bodyPost_ret (v := .agg #[.string ⟨#[99, 97, 115, 101, 105, 103, 110, 111, 114, 101, 105, 97, 53, 115, 117, 98, 115, 116, 114, 105, 110, 103, 115, 109, 97, 116, 99, 104]⟩, .string ⟨#[49, 46, 51, 46, 54, 46, 49, 46, 52, 46, 49, 46, 49, 52, 54, 54, 46, 49, 48, 57, 46, 49, 49, 52, 46, 51]⟩, .int .i64 3, .func (.func 26) #[] #[]]) (by simp [results, Tryz.results11, go_sem]) rfl ⟨⟨_, _, rfl⟩, (Below.refl _ _).alloc (Nat.le_refl _) _⟩
theorem suits26 (w : World) : Calls Tryz.prog 9 #[.int .i64 26, .int .i64 3] w fun e w' => e = .returned (.bool true) ∧ Below w.heap.size w w' := by
  have HR := Lib.hid ruleRows26
  go_enter Tryz.func9, Tryz.ntmps9
  go_wp2_with (fail)
  refine (known26 _).mono ?_
  rintro e w0 ⟨rfl, rfl⟩
  go_wp2_with (fail)
  refine (HR.out _).mono ?_
  rintro e w1 ⟨⟨a, b, rfl⟩, hb⟩
  go_wp2_with (fail)
  refine (family3 _).mono ?_
  rintro e w2 ⟨rfl, rfl⟩
  go_wp2_with (fail)
  refine (family3 _).mono ?_
  rintro e w3 ⟨rfl, rfl⟩
  go_wp2
  go_ret
  exact ⟨rfl, hb⟩
theorem rule26 : RuleP 26 3 := ⟨known26, kindOf26, ruleRows26, suits26⟩
theorem known27 (w : World) : Calls Tryz.prog 15 #[.int .i64 27] w fun e w' => e = .returned (.bool true) ∧ w = w' := by
  go_enter Tryz.func15, Tryz.ntmps15
  go_wp2
  go_ret
  exact ⟨rfl, rfl⟩
theorem kindOf27 (w : World) : Calls Tryz.prog 16 #[.int .i64 27] w fun e w' => e = .returned (.int .i64 3) ∧ w = w' := by
  go_enter Tryz.func16, Tryz.ntmps16
  go_wp2
  go_ret
  exact ⟨rfl, rfl⟩
set_option maxRecDepth 100000 in
theorem ruleRows27 (w : World) : Calls Tryz.prog 11 #[.int .i64 27] w fun e w' => (∃ a b, e = .returned (.agg #[.string a, .string b, .int .i64 5, .func (.func 26) #[] #[]])) ∧ Below w.heap.size w w' := by
  go_enter Tryz.func11, Tryz.ntmps11
  go_wp2
  exact bodyPost_ret (v := .agg #[.string ⟨#[110, 117, 109, 101, 114, 105, 99, 115, 116, 114, 105, 110, 103, 115, 117, 98, 115, 116, 114, 105, 110, 103, 115, 109, 97, 116, 99, 104]⟩, .string ⟨#[50, 46, 53, 46, 49, 51, 46, 49, 48]⟩, .int .i64 5, .func (.func 26) #[] #[]]) (by simp [results, Tryz.results11, go_sem]) rfl ⟨⟨_, _, rfl⟩, (Below.refl _ _).alloc (Nat.le_refl _) _⟩
theorem suits27 (w : World) : Calls Tryz.prog 9 #[.int .i64 27, .int .i64 5] w fun e w' => e = .returned (.bool true) ∧ Below w.heap.size w w' := by
  have HR := Lib.hid ruleRows27
  go_enter Tryz.func9, Tryz.ntmps9
  go_wp2_with (fail)
  refine (known27 _).mono ?_
  rintro e w0 ⟨rfl, rfl⟩
  go_wp2_with (fail)
  refine (HR.out _).mono ?_
  rintro e w1 ⟨⟨a, b, rfl⟩, hb⟩
  go_wp2_with (fail)
  refine (family5 _).mono ?_
  rintro e w2 ⟨rfl, rfl⟩
  go_wp2_with (fail)
  refine (family5 _).mono ?_
  rintro e w3 ⟨rfl, rfl⟩
  go_wp2
  go_ret
  exact ⟨rfl, hb⟩
theorem rule27 : RuleP 27 5 := ⟨known27, kindOf27, ruleRows27, suits27⟩
theorem known28 (w : World) : Calls Tryz.prog 15 #[.int .i64 28] w fun e w' => e = .returned (.bool true) ∧ w = w' := by
  go_enter Tryz.func15, Tryz.ntmps15
  go_wp2
  go_ret
  exact ⟨rfl, rfl⟩
theorem kindOf28 (w : World) : Calls Tryz.prog 16 #[.int .i64 28] w fun e w' => e = .returned (.int .i64 3) ∧ w = w' := by
  go_enter Tryz.func16, Tryz.ntmps16
  go_wp2
  go_ret
  exact ⟨rfl, rfl⟩
set_option maxRecDepth 100000 in
theorem ruleRows28 (w : World) : Calls Tryz.prog 11 #[.int .i64 28] w fun e w' => (∃ a b, e = .returned (.agg #[.string a, .string b, .int .i64 6, .func (.func 26) #[] #[]])) ∧ Below w.heap.size w w' := by
  go_enter Tryz.func11, Tryz.ntmps11
  go_wp2
  exact bodyPost_ret (v := .agg #[.string ⟨#[116, 101, 108, 101, 112, 104, 111, 110, 101, 110, 117, 109, 98, 101, 114, 115, 117, 98, 115, 116, 114, 105, 110, 103, 115, 109, 97, 116, 99, 104]⟩, .string ⟨#[50, 46, 53, 46, 49, 51, 46, 50, 49]⟩, .int .i64 6, .func (.func 26) #[] #[]]) (by simp [results, Tryz.results11, go_sem]) rfl ⟨⟨_, _, rfl⟩, (Below.refl _ _).alloc (Nat.le_refl _) _⟩
theorem suits28 (w : World) : Calls Tryz.prog 9 #[.int .i64 28, .int .i64 6] w fun e w' => e = .returned (.bool true) ∧ Below w.heap.size w w' := by
  have HR := Lib.hid ruleRows28
  go_enter Tryz.func9, Tryz.ntmps9
  go_wp2_with (fail)
  refine (known28 _).mono ?_
  rintro e w0 ⟨rfl, rfl⟩
  go_wp2_with (fail)
  refine (HR.out _).mono ?_
  rintro e w1 ⟨⟨a, b, rfl⟩, hb⟩
  go_wp2_with (fail)
  refine (family6 _).mono ?_
  rintro e w2 ⟨rfl, rfl⟩
  go_wp2_with (fail)
  refine (family6 _).mono ?_
  rintro e w3 ⟨rfl, rfl⟩
  go_wp2
  go_ret
  exact ⟨rfl, hb⟩
theorem rule28 : RuleP 28 6 := ⟨known28, kindOf28, ruleRows28, suits28⟩
theorem known29 (w : World) : Calls Tryz.prog 15 #[.int .i64 29] w fun e w' => e = .returned (.bool true) ∧ w = w' := by
  go_enter Tryz.func15, Tryz.ntmps15
  go_wp2
  go_ret
  exact ⟨rfl, rfl⟩
theorem kindOf29 (w : World) : Calls Tryz.prog 16 #[.int .i64 29] w fun e w' => e = .returned (.int .i64 3) ∧ w = w' := by
  go_enter Tryz.func16, Tryz.ntmps16
  go_wp2
  go_ret
  exact ⟨rfl, rfl⟩
set_option maxRecDepth 100000 in
theorem ruleRows29 (w : World) : Calls Tryz.prog 11 #[.int .i64 29] w fun e w' => (∃ a b, e = .returned (.agg #[.string a, .string b, .int .i64 9, .func (.func 26) #[] #[]])) ∧ Below w.heap.size w w' := by
  go_enter Tryz.func11, Tryz.ntmps11
  go_wp2
  exact bodyPost_ret (v := .agg #[.string ⟨#[111, 99, 116, 101, 116, 115, 116, 114, 105, 110, 103, 115, 117, 98, 115, 116, 114, 105, 110, 103, 115, 109, 97, 116, 99, 104]⟩, .string ⟨#[50, 46, 53, 46, 49, 51, 46, 49, 57]⟩, .int .i64 9, .func (.func 26) #[] #[]]) (by simp [results, Tryz.results11, go_sem]) rfl ⟨⟨_, _, rfl⟩, (Below.refl _ _).alloc (Nat.le_refl _) _⟩
theorem suits29 (w : World) : Calls Tryz.prog 9 #[.int .i64 29, .int .i64 9] w fun e w' => e = .returned (.bool true) ∧ Below w.heap.size w w' := by
  have HR := Lib.hid ruleRows29
  go_enter Tryz.func9, Tryz.ntmps9
  go_wp2_with (fail)
  refine (known29 _).mono ?_
  rintro e w0 ⟨rfl, rfl⟩
  go_wp2_with (fail)
  refine (HR.out _).mono ?_
  rintro e w1 ⟨⟨a, b, rfl⟩, hb⟩
  go_wp2_with (fail)
  refine (family9 _).mono ?_
  rintro e w2 ⟨rfl, rfl⟩
  go_wp2_with (fail)
  refine (family9 _).mono ?_
  rintro e w3 ⟨rfl, rfl⟩
  go_wp2
  go_ret
  exact ⟨rfl, hb⟩
theorem rule29 : RuleP 29 9 := ⟨known29, kindOf29, ruleRows29, suits29⟩
end Go.Proofs.YtmgfikfcnhhnhaaGreatDoor
