/- rosterlaw06: starred. -/
import Derived.Test.YtmgfikfcnhhnhaaGreatDoorPatP
import Derived.Test.YtmgfikfcnhhnhaaGreatDoorT4
import Derived.Lib.AppendStr
namespace Go.Proofs.YtmgfikfcnhhnhaaGreatDoor
open Go.RowKit

section
variable {P : Program} {ops : Array Oper} {rest : List Oper} {o : Oper} {a : Act} {Q : Exit → Act → World → Prop}
/-- append(v, s...), s a string. -/
theorem append_text {w0 W : World} (base : Nat) (hgd : o.guard = none) (s x : Operand) (t u : TypeId)
    (ho : o.op = .call { callee := .builtin .append, args := #[s, x], argTypes := #[t, u] })
    (ht : P.underlying t = some (.slice 5)) (hu : P.underlying u = some .string) (hinfo : (P.info? 5).map (fun i => (i.zero, i.size, i.bytes)) = some (some (.int .u8 0), 1, 1))
    (v : Value) (l : List UInt8) (y : ByteArray) (hs : a.eval s = v) (hx : a.eval x = .string y)
    (HO : OwnB W base v l) (HB : Below base w0 W) (hbase : base ≤ W.heap.size) (hl : l.length + y.size ≤ 140737488355328)
    (h : ∀ v1 w1, OwnB w1 base v1 (l ++ y.data.toList) → Below base w0 w1 → wpList P ops Q rest (a.put o.dst v1) w1) :
    wpList P ops Q (o :: rest) a W := by
  obtain ⟨i0, hi, hzz⟩ := Option.map_eq_some_iff.1 hinfo
  simp only [Prod.mk.injEq] at hzz
  obtain ⟨hz0, hz1, hz2⟩ := hzz
  refine Lib.wpList_append_own_string W hgd s x t u ho base 5 i0 ht hu hi hz0 hz1 hz2 v l.length (bytesV l) hs HO y hx (by simp only [maxLen]; omega) hl hbase ?_
  intro v1 w1 hown hg _
  refine h v1 w1 ?_ (HB.grown hg hbase (fun k hk => (own_block HO k hk).1))
  unfold OwnB
  rw [bytesV_append, List.length_append, dlen]
  exact hown
end

set_option maxRecDepth 100000 in
theorem law_starred (s : ByteArray) (w : World) (hs : s.size ≤ 1099511627776) :
    Calls Tryz.prog 5 #[.string s] w fun e w' => e = .returned (.string (mkB (starL s.data.toList))) ∧ Below w.heap.size w w' := by
  go_enter Tryz.func5, Tryz.ntmps5
  go_wp2
  go_loopw [3, 4] (fun v i wr => ∃ k : Nat, k ≤ s.size ∧ i = .int .i64 k ∧ OwnB wr w.heap.size v (starL (s.data.toList.take k)) ∧ Below w.heap.size w wr) (fun _ i _ => s.size - (intOf i).toNat)
  case atStart => exact ⟨0, Nat.zero_le _, rfl, OwnB.nil _ _, Below.refl _ _⟩
  case round =>
    obtain ⟨k, hk, rfl, hO, hB⟩ := hrel
    by_cases hlt : k < s.size
    · have hlen : (starL (s.data.toList.take k)).length ≤ 3 * k := Nat.le_trans (starL_length _) (by rw [List.length_take]; omega)
      have HS := Lib.hid (starL_succ s k hlt)
      by_cases h1 : s[k] = 42
      · have hone : starB s[k] = [92, 50, 97] := by simp [starB, h1]
        have hc : (s[k].toNat : Int) = 42 := by rw [h1]; rfl
        have HO1 := Lib.hid hone
        clear hone
        go_wp2_with (at_builtin; refine append_text w.heap.size rfl (.tmp 22) (.const (.string ⟨#[92, 50, 97]⟩)) 36 9 rfl Tryz.underlying36 Tryz.underlying9 info5 _ _ ⟨#[92, 50, 97]⟩ rfl rfl hO hB hB.size (by simp [ByteArray.size]; omega) ?_; intro v1 w1 hO1 hB1)
        exact ⟨⟨k + 1, by omega, by go_num, by rw [HS.out, HO1.out]; exact hO1, hB1⟩, by simp [intOf]; omega⟩
      · by_cases h2 : s[k] = 92
        · have hone : starB s[k] = [92, 53, 67] := by simp [starB, h2]
          have hc : (s[k].toNat : Int) = 92 := by rw [h2]; rfl
          have HO1 := Lib.hid hone
          clear hone
          go_wp2_with (at_builtin; refine append_text w.heap.size rfl (.tmp 26) (.const (.string ⟨#[92, 53, 67]⟩)) 36 9 rfl Tryz.underlying36 Tryz.underlying9 info5 _ _ ⟨#[92, 53, 67]⟩ rfl rfl hO hB hB.size (by simp [ByteArray.size]; omega) ?_; intro v1 w1 hO1 hB1)
          exact ⟨⟨k + 1, by omega, by go_num, by rw [HS.out, HO1.out]; exact hO1, hB1⟩, by simp [intOf]; omega⟩
        · have hone : starB s[k] = [s[k]] := by simp [starB, h1, h2]
          have hc1 : ¬ (s[k].toNat : Int) = 42 := fun h => h1 (by rw [← UInt8.toNat_inj]; simp; omega)
          have hc2 : ¬ (s[k].toNat : Int) = 92 := fun h => h2 (by rw [← UInt8.toNat_inj]; simp; omega)
          have HO1 := Lib.hid hone
          clear hone
          go_wp2_with (at_builtin; refine append_byte w.heap.size rfl (.tmp 14) (.tmp 18) 36 rfl Tryz.underlying36 info5 _ _ s[k] _ rfl rfl rfl hO hB hB.size (by omega) ?_; intro v1 w1 hO1 hB1)
          exact ⟨⟨k + 1, by omega, by go_num, by rw [HS.out, HO1.out]; exact hO1, hB1⟩, by simp [intOf]; omega⟩
    · have hk2 : k = s.size := by omega
      subst hk2
      rw [List.take_of_length_le (by rw [dlen]; omega)] at hO
      have hconv := hO.string (P := Tryz.prog) (src := 36) (dst := 9) Tryz.underlying36 Tryz.underlying5 Tryz.underlying9
      go_wp2
      go_ret
      exact ⟨rfl, hB⟩
end Go.Proofs.YtmgfikfcnhhnhaaGreatDoor
