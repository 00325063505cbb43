/- MatchBits: of, holds, Equal, Normal, Asserts, reads, equal, ByRule at the syntax of bit strings. -/
import Derived.Test.YtjmjgkmegljmpaaGreatDoorB1
import Derived.Deep.RegionWith
namespace Go.Proofs.YtjmjgkmegljmpaaGreatDoor
open Go.RowKit

theorem meth274 (w : World) : (method 398 274 (.agg #[]) "roster/match.normal").run Tryz.prog w = .ok (274, .agg #[]) w := by kernel_rfl
attribute [local go_sem] meth274 field44_2 field44_3

theorem NR_some (s : ByteArray) : NR (some s) = .tuple #[.string s, .bool true] := rfl
theorem NR_none : NR none = .tuple #[.string ⟨#[]⟩, .bool false] := rfl

def Kinds14 (w : World) : Prop := w.cell? ⟨0, 14, none⟩ = some (.iface 274 (.agg #[]))
theorem Kinds14.below {w w1 : World} (h : Kinds14 w) (hb : Below w.heap.size w w1) : Kinds14 w1 := (hb.cell (World.block_lt_of_cell? w _ h)).trans h

theorem of14 (w : World) (hk : Kinds14 w) : Calls Tryz.prog 36 #[.int .i64 14] w fun e w' => e = .returned (.iface 274 (.agg #[])) ∧ w = w' := by
  unfold Kinds14 at hk
  go_enter Tryz.func36, Tryz.ntmps36
  go_wp2
  go_ret
  exact ⟨rfl, rfl⟩

theorem normal_some (v s : ByteArray) (w : World) (hs : v.size ≤ 1152921504606846976) (h : bitsN v = some s) : Calls Tryz.prog 274 #[.agg #[], .string v] w fun e w' => e = .returned (.tuple #[.string s, .bool true]) ∧ Below w.heap.size w w' := by
  have := bits_normal v w hs
  rwa [h, NR_some] at this
theorem normal_none (v : ByteArray) (w : World) (hs : v.size ≤ 1152921504606846976) (h : bitsN v = none) : Calls Tryz.prog 274 #[.agg #[], .string v] w fun e w' => e = .returned (.tuple #[.string ⟨#[]⟩, .bool false]) ∧ Below w.heap.size w w' := by
  have := bits_normal v w hs
  rwa [h, NR_none] at this

set_option maxRecDepth 100000 in
theorem normal14_some (v s : ByteArray) (w : World) (hs : v.size ≤ 1152921504606846976) (h : Hid (bitsN v = some s)) (hk : Kinds14 w) : Calls Tryz.prog 19 #[.int .i64 14, .string v] w fun e w' => e = .returned (.tuple #[.string s, .bool true]) ∧ Below w.heap.size w w' := by
  go_enter Tryz.func19, Tryz.ntmps19
  go_wp2_with (first | (go_at_call 36; refine (of14 _ hk).mono ?_; rintro e w1 ⟨rfl, rfl⟩) | (go_at_call 274; refine (normal_some v s _ hs h.out).mono ?_; rintro e w1 ⟨rfl, hb⟩))
  go_ret2
  exact ⟨rfl, hb⟩
set_option maxRecDepth 100000 in
theorem normal14_none (v : ByteArray) (w : World) (hs : v.size ≤ 1152921504606846976) (h : Hid (bitsN v = none)) (hk : Kinds14 w) : Calls Tryz.prog 19 #[.int .i64 14, .string v] w fun e w' => e = .returned (.tuple #[.string ⟨#[]⟩, .bool false]) ∧ Below w.heap.size w w' := by
  go_enter Tryz.func19, Tryz.ntmps19
  go_wp2_with (first | (go_at_call 36; refine (of14 _ hk).mono ?_; rintro e w1 ⟨rfl, rfl⟩) | (go_at_call 274; refine (normal_none v _ hs h.out).mono ?_; rintro e w1 ⟨rfl, hb⟩))
  go_ret2
  exact ⟨rfl, hb⟩

/-- holds, with the closure of Equal. -/
theorem holds_undef (v a : ByteArray) (w : World) (ha : a.size ≤ 1152921504606846976) (h : Hid (bitsN a = none)) (hk : Kinds14 w) :
    Calls Tryz.prog 26 #[.int .i64 14, .string v, .string a, .func (.func 27) #[] #[]] w fun e w' => e = .returned (.int .i64 1) ∧ Below w.heap.size w w' := by
  go_enter Tryz.func26, Tryz.ntmps26
  go_wp2_with (first | (go_at_call 36; refine (of14 _ hk).mono ?_; rintro e w1 ⟨rfl, rfl⟩) | (go_at_call 274; refine (normal_none a _ ha h.out).mono ?_; rintro e w1 ⟨rfl, hb⟩))
  go_ret
  exact ⟨rfl, hb⟩
theorem holds_no (v a sa : ByteArray) (w : World) (hv : v.size ≤ 1152921504606846976) (ha : a.size ≤ 1152921504606846976) (h : Hid (bitsN a = some sa)) (h2 : Hid (bitsN v = none)) (hk : Kinds14 w) :
    Calls Tryz.prog 26 #[.int .i64 14, .string v, .string a, .func (.func 27) #[] #[]] w fun e w' => e = .returned (.int .i64 0) ∧ Below w.heap.size w w' := by
  go_enter Tryz.func26, Tryz.ntmps26
  go_wp2_with (fail)
  refine (of14 _ hk).mono ?_
  rintro e w1 ⟨rfl, rfl⟩
  go_wp2_with (fail)
  refine (normal_some a sa _ ha h.out).mono ?_
  rintro e w1 ⟨rfl, hb⟩
  go_wp2_with (fail)
  refine (normal_none v _ hv h2.out).mono ?_
  rintro e w2 ⟨rfl, hb2⟩
  go_wp2
  go_ret
  exact ⟨rfl, hb.trans (hb2.mono hb.size)⟩
theorem holds_yes (v a sa sv : ByteArray) (w : World) (hv : v.size ≤ 1152921504606846976) (ha : a.size ≤ 1152921504606846976) (h : Hid (bitsN a = some sa)) (h2 : Hid (bitsN v = some sv)) (hk : Kinds14 w) :
    Calls Tryz.prog 26 #[.int .i64 14, .string v, .string a, .func (.func 27) #[] #[]] w fun e w' => e = .returned (.int .i64 (if sv.toList == sa.toList then 2 else 0)) ∧ Below w.heap.size w w' := by
  go_enter Tryz.func26, Tryz.ntmps26
  go_wp2_with (fail)
  refine (of14 _ hk).mono ?_
  rintro e w1 ⟨rfl, rfl⟩
  go_wp2_with (fail)
  refine (normal_some a sa _ ha h.out).mono ?_
  rintro e w1 ⟨rfl, hb⟩
  go_wp2_with (fail)
  refine (normal_some v sv _ hv h2.out).mono ?_
  rintro e w2 ⟨rfl, hb2⟩
  have hB := hb.trans (hb2.mono hb.size)
  go_wp2_with (go_at_call 27; refine (closure27 _ _ _).mono ?_; rintro e w3 ⟨rfl, rfl⟩)
  all_goals go_ret
  all_goals simp_all

/-- What Equal answers of bit strings. -/
def eqT (v a : ByteArray) : Int := match bitsN a, bitsN v with
  | none, _ => 1
  | some _, none => 0
  | some sa, some sv => if sv.toList == sa.toList then 2 else 0

theorem holds14 (v a : ByteArray) (w : World) (hv : v.size ≤ 1152921504606846976) (ha : a.size ≤ 1152921504606846976) (hk : Kinds14 w) :
    Calls Tryz.prog 26 #[.int .i64 14, .string v, .string a, .func (.func 27) #[] #[]] w fun e w' => e = .returned (.int .i64 (eqT v a)) ∧ Below w.heap.size w w' := by
  unfold eqT
  rcases h : bitsN a with _ | sa
  · exact holds_undef v a w ha h hk
  · rcases h2 : bitsN v with _ | sv
    · exact holds_no v a sa w hv ha h h2 hk
    · exact holds_yes v a sa sv w hv ha h h2 hk

theorem equal14 (v a : ByteArray) (w : World) (hv : v.size ≤ 1152921504606846976) (ha : a.size ≤ 1152921504606846976) (hk : Kinds14 w) :
    Calls Tryz.prog 14 #[.int .i64 14, .string v, .string a] w fun e w' => e = .returned (.int .i64 (eqT v a)) ∧ Below w.heap.size w w' := by
  go_enter Tryz.func14, Tryz.ntmps14
  go_wp2_with (go_at_call 26; refine (holds14 v a _ hv ha hk).mono ?_; rintro e w1 ⟨rfl, hb⟩)
  go_ret
  exact ⟨rfl, hb⟩

theorem equalB14 (v a : ByteArray) (w : World) (hv : v.size ≤ 1152921504606846976) (ha : a.size ≤ 1152921504606846976) (hk : Kinds14 w) :
    Calls Tryz.prog 29 #[.int .i64 14, .string v, .string a] w fun e w' => e = .returned (.bool (eqT v a == 2)) ∧ Below w.heap.size w w' := by
  go_enter Tryz.func29, Tryz.ntmps29
  go_wp2_with (go_at_call 14; refine (equal14 v a _ hv ha hk).mono ?_; rintro e w1 ⟨rfl, hb⟩)
  go_ret
  exact ⟨rfl, hb⟩

set_option maxRecDepth 100000 in
theorem asserts_yes (a s : ByteArray) (w : World) (ha : a.size ≤ 1152921504606846976) (h : Hid (bitsN a = some s)) (hk : Kinds14 w) :
    Calls Tryz.prog 10 #[.int .i64 23, .string a] w fun e w' => e = .returned (.bool true) ∧ Below w.heap.size w w' := by
  go_enter Tryz.func10, Tryz.ntmps10
  go_wp2_with (fail)
  refine (known23 _).mono ?_
  rintro e w1 ⟨rfl, rfl⟩
  go_wp2_with (fail)
  refine (ruleRows23 _).mono ?_
  rintro e w1 ⟨rfl, hb⟩
  go_wp2_with (fail)
  refine (normal14_some a s _ ha h (hk.below hb)).mono ?_
  rintro e w2 ⟨rfl, hb2⟩
  have hB := hb.trans (hb2.mono hb.size)
  go_wp2_with (fail)
  refine (kindOf23 _).mono ?_
  rintro e w3 ⟨rfl, rfl⟩
  go_wp2
  go_ret
  exact ⟨rfl, hB⟩

set_option maxRecDepth 100000 in
theorem reads_yes (v s : ByteArray) (w : World) (hv : v.size ≤ 1152921504606846976) (h : Hid (bitsN v = some s)) (hk : Kinds14 w) :
    Calls Tryz.prog 16 #[.int .i64 23, .string v] w fun e w' => e = .returned (.bool true) ∧ Below w.heap.size w w' := by
  go_enter Tryz.func16, Tryz.ntmps16
  go_wp2_with (fail)
  refine (kindOf23 _).mono ?_
  rintro e w1 ⟨rfl, rfl⟩
  go_wp2_with (fail)
  refine (ruleRows23 _).mono ?_
  rintro e w1 ⟨rfl, hb⟩
  go_wp2_with (fail)
  refine (normal14_some v s _ hv h (hk.below hb)).mono ?_
  rintro e w2 ⟨rfl, hb2⟩
  have hB := hb.trans (hb2.mono hb.size)
  go_wp2
  go_ret
  exact ⟨rfl, hB⟩

set_option maxRecDepth 100000 in
theorem byRule_yes (v a sv sa : ByteArray) (w : World) (hv : v.size ≤ 1152921504606846976) (ha : a.size ≤ 1152921504606846976) (h : Hid (bitsN v = some sv)) (h2 : Hid (bitsN a = some sa)) (he : Hid (eqT v a = 2)) (hk : Kinds14 w) :
    Calls Tryz.prog 8 #[.int .i64 23, .int .i64 14, .string v, .string a] w fun e w' => e = .returned (.int .i64 2) ∧ Below w.heap.size w w' := by
  have hq : ∀ W, Kinds14 W → Calls Tryz.prog 29 #[.int .i64 14, .string v, .string a] W fun e w' => e = .returned (.bool true) ∧ Below W.heap.size W w' := fun W hK => by
    have := equalB14 v a W hv ha hK
    rwa [he.out] at this
  have HQ := Lib.hid hq
  clear hq
  go_enter Tryz.func8, Tryz.ntmps8
  go_wp2_with (fail)
  refine (suits _).mono ?_
  rintro e w1 ⟨rfl, hb⟩
  go_wp2_with (fail)
  refine (asserts_yes a sa _ ha h2 (hk.below hb)).mono ?_
  rintro e w2 ⟨rfl, hb2⟩
  have hB := hb.trans (hb2.mono hb.size)
  clear hb hb2
  go_wp2_with (fail)
  refine (reads_yes v sv _ hv h (hk.below hB)).mono ?_
  rintro e w3 ⟨rfl, hb3⟩
  have hC := hB.trans (hb3.mono hB.size)
  clear hB hb3
  go_wp2_with (fail)
  refine (ruleRows23 _).mono ?_
  rintro e w4 ⟨rfl, hb4⟩
  have hD := hC.trans (hb4.mono hC.size)
  clear hC hb4
  go_wp2_with (fail)
  refine (ruleRows23 _).mono ?_
  rintro e w5 ⟨rfl, hb5⟩
  have hE := hD.trans (hb5.mono hD.size)
  clear hD hb5
  go_wp2_with (fail)
  refine (HQ.out _ (hk.below hE)).mono ?_
  rintro e w6 ⟨rfl, hb6⟩
  have hF := hE.trans (hb6.mono hE.size)
  clear hE hb6
  go_wp2
  go_ret
  exact ⟨rfl, hF⟩

end Go.Proofs.YtjmjgkmegljmpaaGreatDoor
