/- MatchByPieces: the six rules, one by one. -/
import Derived.Test.YtmgfikfcnhhnhaaGreatDoorByRuleW
import Derived.Test.YtmgfikfcnhhnhaaGreatDoorKindI
namespace Go.Proofs.YtmgfikfcnhhnhaaGreatDoor
open Go.RowKit

/-- What the walk asks of a world. -/
def Six (w : World) : Prop := MaxL w ∧ KindAt 1 258 w ∧ KindAt 2 256 w ∧ KindAt 3 263 w ∧ KindAt 5 264 w ∧ KindAt 6 265 w ∧ KindAt 9 267 w
theorem Six.below {w w1 : World} (h : Six w) (hb : Below w.heap.size w w1) : Six w1 :=
  ⟨h.1.below hb, h.2.1.below hb, h.2.2.1.below hb, h.2.2.2.1.below hb, h.2.2.2.2.1.below hb, h.2.2.2.2.2.1.below hb, h.2.2.2.2.2.2.below hb⟩

/-- The k-th syntax. -/
def sOf (k : Nat) : Int := [1, 2, 3, 5, 6, 9].getD k 0
/-- What the k-th syntax answers. -/
structure SixAt (v t i f : List UInt8) (any : List (List UInt8)) (r s : Int) (n : Int) : Prop where
  rule : ∀ W, Six W → Calls Tryz.prog 6 #[.int .i64 r, .int .i64 s, .string (mkB v), .string (mkB t)] W fun e w' => e = .returned (.int .i64 n) ∧ Below W.heap.size W w'
  cont : ∀ x W, Six W → RowS W x any → Calls Tryz.prog 7 #[.int .i64 s, .string (mkB v), .agg #[.string (mkB i), x, .string (mkB f)]] W fun e w' => e = .returned (.int .i64 n) ∧ Below W.heap.size W w'
  asA : ∀ W, Six W → Calls Tryz.prog 8 #[.int .i64 r, .string ⟨#[97]⟩] W fun e w' => e = .returned (.bool false) ∧ Below W.heap.size W w'
  by1 : ∀ W, Six W → Calls Tryz.prog 6 #[.int .i64 r, .int .i64 s, .string (mkB v), .string ⟨#[49]⟩] W fun e w' => e = .returned (.int .i64 1) ∧ Below W.heap.size W w'
  as12 : ∀ W, Six W → Calls Tryz.prog 8 #[.int .i64 r, .string ⟨#[49, 42, 42, 50]⟩] W fun e w' => e = .returned (.bool false) ∧ Below W.heap.size W w'

theorem six_one {T : TypeId} (K : KindC T) (r : Int) (s : Nat) (hs : s < 15) (R : RuleP r s) (v i f : List UInt8) (any : List (List UInt8)) (hv : v.length ≤ LIM) (hi : i.length ≤ LIM) (hf : f.length ≤ LIM) (ht : (textL i any f).length ≤ 268435456) (hne : ∀ a ∈ any, a ≠ []) (hk : ∀ W, Six W → KindAt s T W) :
    SixAt v (textL i any f) i f any r s (conN K v (i, any, f)) where
  rule W h := by have c := match_ByRule K r s hs R v (textL i any f) W hv ht h.1 (hk W h); rwa [byP_text K v i f any hne] at c
  cont x W h hR := match_Contains K s hs v i f any x W hv hi hf h.1 (hk W h) hR
  asA W h := by have c := match_Asserts K r s hs R [97] W (by simp) h.1 (hk W h); rwa [assP_none K _ patN_a] at c
  by1 W h := by have c := match_ByRule K r s hs R v [49] W hv (by simp) h.1 (hk W h); rwa [byP_none K v _ patN_1] at c
  as12 W h := by have c := match_Asserts K r s hs R [49, 42, 42, 50] W (by simp) h.1 (hk W h); rwa [assP_none K _ patN_12] at c

theorem six_all (v i f : List UInt8) (any : List (List UInt8)) (hv : v.length ≤ LIM) (hi : i.length ≤ LIM) (hf : f.length ≤ LIM) (ht : (textL i any f).length ≤ 268435456) (hne : ∀ a ∈ any, a ≠ []) (k : Nat) (hk : k < 6) :
    ∃ n, SixAt v (textL i any f) i f any (24 + (k : Int)) (sOf k) n := by
  match k, hk with
  | 0, _ => exact ⟨_, six_one kText 24 1 (by decide) rule24 v i f any hv hi hf ht hne fun W h => h.2.1⟩
  | 1, _ => exact ⟨_, six_one kExact 25 2 (by decide) rule25 v i f any hv hi hf ht hne fun W h => h.2.2.1⟩
  | 2, _ => exact ⟨_, six_one kLow 26 3 (by decide) rule26 v i f any hv hi hf ht hne fun W h => h.2.2.2.1⟩
  | 3, _ => exact ⟨_, six_one kNum 27 5 (by decide) rule27 v i f any hv hi hf ht hne fun W h => h.2.2.2.2.1⟩
  | 4, _ => exact ⟨_, six_one kPhone 28 6 (by decide) rule28 v i f any hv hi hf ht hne fun W h => h.2.2.2.2.2.1⟩
  | 5, _ => exact ⟨_, six_one kOctet 29 9 (by decide) rule29 v i f any hv hi hf ht hne fun W h => h.2.2.2.2.2.2⟩

theorem byP_end (v : List UInt8) : byP kOctet (v ++ [42, 92]) [42, 92, 50, 65, 92, 53, 99] = 2 := by
  unfold byP
  rw [patN_last]
  show conN kOctet (v ++ [42, 92]) ([], [], [42, 92]) = 2
  have hp : partsN kOctet ([], [], [42, 92]) = some ([], [], [42, 92]) := by
    unfold partsN
    rw [if_neg (by simp), if_pos (by simp [kOctet])]
    rfl
  rw [con_fits kOctet _ (v ++ [42, 92]) _ _ hp rfl, if_pos]
  unfold fitsN goL Lib.hasPrefix Lib.hasSuffix
  have h1 : List.isSuffixOf [42, 92] (v ++ [42, 92]) = true := List.isSuffixOf_iff_suffix.2 (List.suffix_append _ _)
  simp [h1]
theorem last_call (v : List UInt8) (hv : v.length + 2 ≤ LIM) (W : World) (h : Six W) :
    Calls Tryz.prog 6 #[.int .i64 29, .int .i64 9, .string (mkB (v ++ [42, 92])), .string ⟨#[42, 92, 50, 65, 92, 53, 99]⟩] W fun e w' => e = .returned (.int .i64 2) ∧ Below W.heap.size W w' := by
  have c := match_ByRule kOctet 29 9 (by decide) rule29 (v ++ [42, 92]) [42, 92, 50, 65, 92, 53, 99] W (by simpa using hv) (by simp) h.1 h.2.2.2.2.2.2
  rwa [byP_end] at c
end Go.Proofs.YtmgfikfcnhhnhaaGreatDoor
