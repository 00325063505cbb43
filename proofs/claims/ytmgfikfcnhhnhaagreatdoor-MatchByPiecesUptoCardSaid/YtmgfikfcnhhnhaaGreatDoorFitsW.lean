/- match: Fits. -/
import Derived.Test.YtmgfikfcnhhnhaaGreatDoorKcP
namespace Go.Proofs.YtmgfikfcnhhnhaaGreatDoor
open Go.RowKit

/-- A list of strings in memory. -/
def RowS (w : World) (v : Value) (xs : List (List UInt8)) : Prop := ∃ (a : Option Addr) (cap : Nat), v = .slice a xs.length cap ∧ xs.length ≤ LIM ∧ ∀ (j : Nat) (x : List UInt8), xs[j]? = some x → x.length ≤ LIM ∧ ∃ b o, a = some ⟨b, o, none⟩ ∧ b < w.heap.size ∧ w.cell? ⟨b, o + j, none⟩ = some (.string (mkB x))
theorem RowS.below {w w1 : World} {v : Value} {xs : List (List UInt8)} (h : RowS w v xs) (hb : Below w.heap.size w w1) : RowS w1 v xs := by
  obtain ⟨a, cap, rfl, hl, hc⟩ := h
  refine ⟨a, cap, rfl, hl, fun j x hx => ?_⟩
  obtain ⟨h1, b, o, rfl, h2, h3⟩ := hc j x hx
  exact ⟨h1, b, o, rfl, Nat.lt_of_lt_of_le h2 hb.size, (hb.cell h2).trans h3⟩
theorem goL_cons (r a : List UInt8) (t : List (List UInt8)) : goL r (a :: t) = ((Lib.cut r a).2.2 && goL (Lib.cut r a).2.1 t) := rfl
theorem cut_len (s p : List UInt8) : (Lib.cut s p).2.1.length ≤ s.length := by
  unfold Lib.cut
  split <;> simp

theorem cut_at (s p : List UInt8) (w : World) (hs : s.length ≤ LIM) (hm : MaxL w) :
    Calls Tryz.prog 31 #[.string (mkB s), .string (mkB p)] w fun e w' => e = .returned (.tuple #[.string (mkB (Lib.cut s p).1), .string (mkB (Lib.cut s p).2.1), .bool (Lib.cut s p).2.2]) ∧ Below w.heap.size w w' := by
  obtain ⟨m, hm⟩ := hm
  refine (Tryz.strings_Cut (mkB s) (mkB p) m w (by rw [mkB_size]; unfold LIM at hs; omega) hm).mono ?_
  rintro e w1 ⟨rfl, n, rfl⟩
  exact ⟨rfl, below_drewN (Below.refl _ _) _⟩

theorem ext_mkB (n : List UInt8) (i j : Nat) : (mkB n).extract i j = mkB ((n.drop i).take (j - i)) := by
  rw [← mkB_self ((mkB n).extract i j), Lib.extract_data, mkB_data]

theorem fits_short (n i f : List UInt8) (any : List (List UInt8)) (h : n.length < i.length + f.length) : fitsN n (i, any, f) = false := by simp [fitsN, h]
theorem fits_pre (n i f : List UInt8) (any : List (List UInt8)) (h : Lib.hasPrefix n i = false) : fitsN n (i, any, f) = false := by simp [fitsN, h]
theorem fits_suf (n i f : List UInt8) (any : List (List UInt8)) (h : Lib.hasSuffix n f = false) : fitsN n (i, any, f) = false := by simp [fitsN, h]
theorem fits_go (n i f : List UInt8) (any : List (List UInt8)) (h : ¬ n.length < i.length + f.length) (h1 : Lib.hasPrefix n i = true) (h2 : Lib.hasSuffix n f = true) :
    fitsN n (i, any, f) = goL ((n.drop i.length).take (n.length - f.length - i.length)) any := by simp [fitsN, h, h1, h2]

attribute [local go_sem] mkB_size
set_option maxRecDepth 100000 in
set_option maxHeartbeats 1000000 in
theorem match_Fits (n i f : List UInt8) (any : List (List UInt8)) (v : Value) (w : World) (hn : n.length ≤ LIM) (hi : i.length ≤ LIM) (hf : f.length ≤ LIM) (hx : MaxL w) (hR : RowS w v any) :
    Calls Tryz.prog 14 #[.string (mkB n), .agg #[.string (mkB i), v, .string (mkB f)]] w fun e w' => e = .returned (.bool (fitsN n (i, any, f))) ∧ Below w.heap.size w w' := by
  have HP := Lib.hid (fun W => Tryz.strings_HasPrefix (mkB n) (mkB i) W)
  have HS := Lib.hid (fun W => Tryz.strings_HasSuffix (mkB n) (mkB f) W (by rw [mkB_size]; unfold LIM at hn; omega))
  simp only [mkB_data] at HP HS
  unfold LIM at hn hi hf
  by_cases h0 : n.length < i.length + f.length
  · rw [fits_short _ _ _ _ h0]
    clear HP HS
    go_enter Tryz.func14, Tryz.ntmps14
    go_wp2
    go_ret
    exact ⟨rfl, (Below.refl _ _).alloc (Nat.le_refl _) _⟩
  · cases h1 : Lib.hasPrefix n i with
    | false =>
      rw [fits_pre _ _ _ _ h1]
      rw [h1] at HP
      clear HS h1
      go_enter Tryz.func14, Tryz.ntmps14
      go_wp2_with (fail)
      refine (HP.out _).mono ?_
      rintro e w1 ⟨rfl, rfl⟩
      go_wp2
      go_ret
      exact ⟨rfl, (Below.refl _ _).alloc (Nat.le_refl _) _⟩
    | true =>
      rw [h1] at HP
      cases h2 : Lib.hasSuffix n f with
      | false =>
        rw [fits_suf _ _ _ _ h2]
        rw [h2] at HS
        clear h1 h2
        go_enter Tryz.func14, Tryz.ntmps14
        go_wp2_with (fail)
        refine (HP.out _).mono ?_
        rintro e w1 ⟨rfl, rfl⟩
        go_wp2_with (fail)
        refine (HS.out _).mono ?_
        rintro e w2 ⟨rfl, rfl⟩
        go_wp2
        go_ret
        exact ⟨rfl, (Below.refl _ _).alloc (Nat.le_refl _) _⟩
      | true =>
        rw [fits_go _ _ _ _ h0 h1 h2]
        rw [h2] at HS
        clear h1 h2
        obtain ⟨a, cap, rfl, hal, hC⟩ := hR
        have HC := Lib.hid hC
        unfold LIM at hal
        clear hC
        have hr0 : ((n.drop i.length).take (n.length - f.length - i.length)).length ≤ LIM := by rw [List.length_take, List.length_drop]; unfold LIM; omega
        have hext := ext_mkB n i.length (n.length - f.length)
        go_enter Tryz.func14, Tryz.ntmps14
        go_wp2_with (fail)
        refine (HP.out _).mono ?_
        rintro e w1 ⟨rfl, rfl⟩
        go_wp2_with (fail)
        refine (HS.out _).mono ?_
        rintro e w2 ⟨rfl, rfl⟩
        go_wp2
        go_loopw [5, 49] (fun r j wr => ∃ (k : Nat) (rest : List UInt8), k ≤ any.length ∧ rest.length ≤ LIM ∧ r = .string (mkB rest) ∧ j = .int .i64 k ∧ Hid (goL ((n.drop i.length).take (n.length - f.length - i.length)) any = goL rest (any.drop k)) ∧ Below w.heap.size w wr) (fun _ j _ => any.length - (intOf j).toNat)
        case atStart => exact ⟨0, _, Nat.zero_le _, hr0, rfl, rfl, Lib.hid rfl, (Below.refl _ _).alloc (Nat.le_refl _) _⟩
        case round =>
          obtain ⟨k, rest, hk, hrl, rfl, rfl, HE, hB⟩ := hrel
          have he := HE.out
          clear HE
          by_cases hlt : k < any.length
          · obtain ⟨x, hxk⟩ : ∃ x, any[k]? = some x := ⟨_, List.getElem?_eq_getElem hlt⟩
            have hd : any.drop k = x :: any.drop (k + 1) := by
              rw [List.drop_eq_getElem_cons hlt]
              rw [List.getElem?_eq_getElem hlt] at hxk
              rw [Option.some.inj hxk]
            obtain ⟨_, b, o, rfl, hb, hc⟩ := HC.out k x hxk
            have hcell : wr.cell? ⟨b, o + k, none⟩ = some (.string (mkB x)) := (hB.cell hb).trans hc
            have hcut := fun W hW => cut_at rest x W hrl hW
            have hrl2 := Nat.le_trans (cut_len rest x) hrl
            rw [hd] at he
            rw [goL_cons] at he
            cases hq : (Lib.cut rest x).2.2 with
            | false =>
              rw [hq] at he
              simp only [hq] at hcut
              have HU := Lib.hid hcut
              have HE := Lib.hid he
              clear he hcut hq hd hxk hrl2
              go_wp2_with (fail)
              refine (HU.out _ (hx.below hB)).mono ?_
              rintro e w3 ⟨rfl, hb3⟩
              go_wp2
              go_ret
              exact ⟨ret_bool (by rw [HE.out]; rfl), below_then hB hB.size hb3⟩
            | true =>
              rw [hq, Bool.true_and] at he
              simp only [hq] at hcut
              have HU := Lib.hid hcut
              have HE := Lib.hid he
              clear he hcut hq hd hxk
              go_wp2_with (fail)
              refine (HU.out _ (hx.below hB)).mono ?_
              rintro e w3 ⟨rfl, hb3⟩
              go_wp2
              exact ⟨⟨k + 1, _, by omega, hrl2, rfl, by go_num, Lib.hid HE.out, below_then hB hB.size hb3⟩, by simp [intOf]; omega⟩
          · rw [show any.drop k = [] from List.drop_eq_nil_of_le (by omega)] at he
            have HE := Lib.hid he
            clear he
            go_wp2
            go_ret
            exact ⟨ret_bool (by rw [HE.out]; rfl), hB⟩
end Go.Proofs.YtmgfikfcnhhnhaaGreatDoor
