/- match: Equal at the syntaxes of text and of lists. -/
import Derived.Test.YtmgfikfcnhhnhaaDoorTL
namespace Go.Proofs.YtmgfikfcnhhnhaaDoor
open Go.RowKit

/-- What Equal answers of two normal forms. -/
def eqT (v a : Option (List UInt8)) : Int := match a with
  | none => 1
  | some a => match v with
    | some v => if v = a then 2 else 0
    | none => 0

def KindAt (i : Nat) (t : TypeId) (w : World) : Prop := w.cell? ⟨0, i, none⟩ = some (.iface t (.agg #[]))
theorem KindAt.below {i : Nat} {t : TypeId} {w w1 : World} (h : KindAt i t w) (hb : Below w.heap.size w w1) : KindAt i t w1 := (hb.cell (World.block_lt_of_cell? w _ h)).trans h

set_option maxRecDepth 100000 in
theorem equal_fn (x y : List UInt8) (w : World) : Calls Tryd.prog 8 #[.string (mkB x), .string (mkB y)] w fun e w' => e = .returned (.bool (decide (x = y))) ∧ w = w' := by
  have hd : ((mkB x).toList == (mkB y).toList) = decide (x = y) := by
    rw [mkB_toList, mkB_toList, Bool.eq_iff_iff, beq_iff_eq, decide_eq_true_eq]
  have HD := Lib.hid hd
  clear hd
  go_enter Tryd.func8, Tryd.ntmps8
  go_wp2
  go_ret
  refine ⟨ret_bool ?_, rfl⟩
  rw [← HD.out]

theorem meth1 (w : World) : (method 357 65 (.agg #[]) "roster/match.normal").run Tryd.prog w = .ok (46, .agg #[]) w := by kernel_rfl
set_option maxRecDepth 100000 in
theorem of1 (w : World) (hk : KindAt 1 65 w) : Calls Tryd.prog 9 #[.int .i64 1] w fun e w' => e = .returned (.iface 65 (.agg #[])) ∧ w = w' := by
  unfold KindAt at hk
  go_enter Tryd.func9, Tryd.ntmps9
  go_wp2
  go_ret
  exact ⟨rfl, rfl⟩
section
attribute [local go_sem] meth1
set_option maxRecDepth 100000 in
set_option maxHeartbeats 2000000 in
theorem holds1 (v a : ByteArray) (w : World) (hv : v.size ≤ 100000000) (ha : a.size ≤ 100000000) (hk : KindAt 1 65 w) :
    Calls Tryd.prog 7 #[.int .i64 1, .string v, .string a, .func (.func 8) #[] #[]] w fun e w' => e = .returned (.int .i64 (eqT (foN v.data.toList) (foN a.data.toList))) ∧ Below w.heap.size w w' := by
  have hva := fun W => folded_normal a W (by omega)
  have hvv := fun W => folded_normal v W (by omega)
  unfold eqT
  cases hna : foN a.data.toList with
  | none =>
    simp only [hna, NRv] at hva
    have HA := Lib.hid hva
    clear hva hvv hna
    go_enter Tryd.func7, Tryd.ntmps7
    go_wp2_with (fail)
    refine (of1 _ hk).mono ?_
    rintro e w1 ⟨rfl, rfl⟩
    go_wp2_with (fail)
    refine (HA.out _).mono ?_
    rintro e w2 ⟨rfl, hb⟩
    go_wp2
    go_ret
    exact ⟨rfl, hb⟩
  | some x =>
    simp only [hna, NRv] at hva
    cases hnv : foN v.data.toList with
    | none =>
      simp only [hnv, NRv] at hvv
      have HA := Lib.hid hva
      have HV := Lib.hid hvv
      clear hva hvv hna hnv
      go_enter Tryd.func7, Tryd.ntmps7
      go_wp2_with (fail)
      refine (of1 _ hk).mono ?_
      rintro e w1 ⟨rfl, rfl⟩
      go_wp2_with (fail)
      refine (HA.out _).mono ?_
      rintro e w2 ⟨rfl, hb⟩
      go_wp2_with (fail)
      refine (HV.out _).mono ?_
      rintro e w3 ⟨rfl, hb2⟩
      go_wp2
      go_ret
      exact ⟨rfl, below_then hb hb.size hb2⟩
    | some y =>
      simp only [hnv, NRv] at hvv
      have HA := Lib.hid hva
      have HV := Lib.hid hvv
      have HF := Lib.hid (fun W => equal_fn y x W)
      clear hva hvv hna hnv
      have hq : (if y = x then (2 : Int) else 0) = if decide (y = x) = true then 2 else 0 := by simp
      show Calls Tryd.prog 7 _ w fun e w' => e = .returned (.int .i64 (if y = x then (2 : Int) else 0)) ∧ _
      rw [hq]
      clear hq
      generalize decide (y = x) = q at HF ⊢
      cases q
      all_goals
        go_enter Tryd.func7, Tryd.ntmps7
        go_wp2_with (fail)
        refine (of1 _ hk).mono ?_
        rintro e w1 ⟨rfl, rfl⟩
        go_wp2_with (fail)
        refine (HA.out _).mono ?_
        rintro e w2 ⟨rfl, hb⟩
        go_wp2_with (fail)
        refine (HV.out _).mono ?_
        rintro e w3 ⟨rfl, hb2⟩
        go_wp2_with (fail)
        refine (HF.out _).mono ?_
        rintro e w4 ⟨rfl, rfl⟩
        go_wp2
        go_ret
        exact ⟨rfl, below_then hb hb.size hb2⟩
end
set_option maxRecDepth 100000 in
theorem equal1 (v a : ByteArray) (w : World) (hv : v.size ≤ 100000000) (ha : a.size ≤ 100000000) (hk : KindAt 1 65 w) :
    Calls Tryd.prog 4 #[.int .i64 1, .string v, .string a] w fun e w' => e = .returned (.int .i64 (eqT (foN v.data.toList) (foN a.data.toList))) ∧ Below w.heap.size w w' := by
  have HH := Lib.hid (holds1 v a w hv ha hk)
  generalize eqT (foN v.data.toList) (foN a.data.toList) = q at HH ⊢
  go_enter Tryd.func4, Tryd.ntmps4
  go_wp2_with (fail)
  refine HH.out.mono ?_
  rintro e w1 ⟨rfl, hb⟩
  go_wp2
  go_ret
  exact ⟨rfl, hb⟩

theorem meth13 (w : World) : (method 357 79 (.agg #[]) "roster/match.normal").run Tryd.prog w = .ok (214, .agg #[]) w := by kernel_rfl
set_option maxRecDepth 100000 in
theorem of13 (w : World) (hk : KindAt 13 79 w) : Calls Tryd.prog 9 #[.int .i64 13] w fun e w' => e = .returned (.iface 79 (.agg #[])) ∧ w = w' := by
  unfold KindAt at hk
  go_enter Tryd.func9, Tryd.ntmps9
  go_wp2
  go_ret
  exact ⟨rfl, rfl⟩
section
attribute [local go_sem] meth13
set_option maxRecDepth 100000 in
set_option maxHeartbeats 2000000 in
theorem holds13 (v a : ByteArray) (w : World) (hv : v.size ≤ 100000000) (ha : a.size ≤ 100000000) (hk : KindAt 13 79 w) (hx : MaxL w) :
    Calls Tryd.prog 7 #[.int .i64 13, .string v, .string a, .func (.func 8) #[] #[]] w fun e w' => e = .returned (.int .i64 (eqT (listN v.data.toList) (listN a.data.toList))) ∧ Below w.heap.size w w' := by
  have hva := fun W hW => list_normal a W (by omega) hW
  have hvv := fun W hW => list_normal v W (by omega) hW
  unfold eqT
  cases hna : listN a.data.toList with
  | none =>
    simp only [hna, NRv] at hva
    have HA := Lib.hid hva
    clear hva hvv hna
    go_enter Tryd.func7, Tryd.ntmps7
    go_wp2_with (fail)
    refine (of13 _ hk).mono ?_
    rintro e w1 ⟨rfl, rfl⟩
    go_wp2_with (fail)
    refine (HA.out _ hx).mono ?_
    rintro e w2 ⟨rfl, hb⟩
    go_wp2
    go_ret
    exact ⟨rfl, hb⟩
  | some x =>
    simp only [hna, NRv] at hva
    cases hnv : listN v.data.toList with
    | none =>
      simp only [hnv, NRv] at hvv
      have HA := Lib.hid hva
      have HV := Lib.hid hvv
      clear hva hvv hna hnv
      go_enter Tryd.func7, Tryd.ntmps7
      go_wp2_with (fail)
      refine (of13 _ hk).mono ?_
      rintro e w1 ⟨rfl, rfl⟩
      go_wp2_with (fail)
      refine (HA.out _ hx).mono ?_
      rintro e w2 ⟨rfl, hb⟩
      go_wp2_with (fail)
      refine (HV.out _ (hx.below hb)).mono ?_
      rintro e w3 ⟨rfl, hb2⟩
      go_wp2
      go_ret
      exact ⟨rfl, below_then hb hb.size hb2⟩
    | some y =>
      simp only [hnv, NRv] at hvv
      have HA := Lib.hid hva
      have HV := Lib.hid hvv
      have HF := Lib.hid (fun W => equal_fn y x W)
      clear hva hvv hna hnv
      have hq : (if y = x then (2 : Int) else 0) = if decide (y = x) = true then 2 else 0 := by simp
      show Calls Tryd.prog 7 _ w fun e w' => e = .returned (.int .i64 (if y = x then (2 : Int) else 0)) ∧ _
      rw [hq]
      clear hq
      generalize decide (y = x) = q at HF ⊢
      cases q
      all_goals
        go_enter Tryd.func7, Tryd.ntmps7
        go_wp2_with (fail)
        refine (of13 _ hk).mono ?_
        rintro e w1 ⟨rfl, rfl⟩
        go_wp2_with (fail)
        refine (HA.out _ hx).mono ?_
        rintro e w2 ⟨rfl, hb⟩
        go_wp2_with (fail)
        refine (HV.out _ (hx.below hb)).mono ?_
        rintro e w3 ⟨rfl, hb2⟩
        go_wp2_with (fail)
        refine (HF.out _).mono ?_
        rintro e w4 ⟨rfl, rfl⟩
        go_wp2
        go_ret
        exact ⟨rfl, below_then hb hb.size hb2⟩
end
set_option maxRecDepth 100000 in
theorem equal13 (v a : ByteArray) (w : World) (hv : v.size ≤ 100000000) (ha : a.size ≤ 100000000) (hk : KindAt 13 79 w) (hx : MaxL w) :
    Calls Tryd.prog 4 #[.int .i64 13, .string v, .string a] w fun e w' => e = .returned (.int .i64 (eqT (listN v.data.toList) (listN a.data.toList))) ∧ Below w.heap.size w w' := by
  have HH := Lib.hid (holds13 v a w hv ha hk hx)
  generalize eqT (listN v.data.toList) (listN a.data.toList) = q at HH ⊢
  go_enter Tryd.func4, Tryd.ntmps4
  go_wp2_with (fail)
  refine HH.out.mono ?_
  rintro e w1 ⟨rfl, hb⟩
  go_wp2
  go_ret
  exact ⟨rfl, hb⟩

end Go.Proofs.YtmgfikfcnhhnhaaDoor
