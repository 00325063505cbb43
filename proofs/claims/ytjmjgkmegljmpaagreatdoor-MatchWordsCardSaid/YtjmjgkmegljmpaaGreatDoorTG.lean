/-
MatchWords, proved for every input: rule 3.0 (keywordMatch, wordMatch) asks a word of the value to be the asserted word, and a value's own words are found in it. Its conditions are the row's own: the listed package-level variables read as they are laid, and the card ties them.
-/
import Derived.Test.YtjmjgkmegljmpaaGreatDoorTE
import Derived.Test.YtjmjgkmegljmpaaGreatDoorTF
namespace Go.Proofs.YtjmjgkmegljmpaaGreatDoor
open Go.ChangeShapes Go.WideShapes Go.ChangeAt Go.RowKit
open Go.ChangeMaps (open_string shut_string)

set_option maxRecDepth 100000 in
theorem kindsF_of {W : World} (h : laidMetH Tryz.prog Rows.matchWordsRow.laid W) : KindsF W := by
  rw [MakeChecks.laidMetH_plain _ _ _ (by kernel_rfl)] at h
  exact kindAt h (by simp [Rows.matchWordsRow]) 1 (by decide) "roster/match.folded" _ 260 _ rfl (by kernel_rfl) (fun s => noStar (c := 'r') (by decide) s _ rfl) (by kernel_rfl) Tryz.underlying260

theorem maxL_of {W : World} (h : W.ShapedOpen Tryz.prog) : MaxL W :=
  cell_of_shapedOpen_int (zero := #[.int .i64 0]) (t := 3) h (of_decide_eq_true (by kernel_rfl)) (by kernel_rfl) rfl (by kernel_rfl) (by kernel_rfl) Tryz.underlying3

set_option maxRecDepth 100000 in
theorem liftedW (os : Os) (started : os.Started) (H : Type) (enc : TypeId × Value → H) :
    ReturnsInHanded {} Tryz.checked os 4 .any (fun w args => (Rows.matchWordsSpec.pre enc Tryz.prog Tryz.f4 Rows.matchWordsRow.domain false w args ∧ laidMetH Tryz.prog Rows.matchWordsRow.laid w) ∧ sizedMet enc Tryz.prog Tryz.f4 (OpenSpec.ofChange Rows.matchWordsSpec) false w args)
      (Rows.matchWordsSpec.post enc Tryz.prog Tryz.f4 false true false false) := by
  refine wrapShaped (C := Tryz.checked) own started (by kernel_rfl) Tryz.func4
    (ChangeSpec.witness_shaped (enc := enc) (C := Tryz.checked) (os := os) (X := fun w _ => laidMetH Tryz.prog Rows.matchWordsRow.laid w) false (World.laidAll Tryz.prog os Rows.matchWordsRow.laid) #[.string .empty, .string .empty, .string .empty] 8 (World.laidAll_os _ _ _)
      (World.shaped_of_ZipB (by kernel_rfl) (by kernel_rfl)) (by kernel_rfl) (by kernel_rfl) (by kernel_rfl)
      (by rw [MakeChecks.laidMetH_plain _ _ _ (by kernel_rfl)]; exact laidMet_laidAll _ (by kernel_rfl) (by kernel_rfl))) ?_
  intro W base args ds gs before hval0 hW _ _ hL hsh
  have hval : ∀ (j : Nat) t v, Tryz.f4.params[j]? = some t → args[j]? = some v → Value.okWide Tryz.prog W .any base t v := hval0
  have hW' := hW
  obtain ⟨p, q, hA0, hV, rfl, _, _⟩ := hW
  have hA : DataW.TrodAll enc Tryz.prog W 0 (fun _ => true) true Tryz.f4.params.toList args.toList ds p := hA0
  rw [Tryz.params4] at hA hval
  obtain ⟨v0, v1, v2, d0, d1, d2, p0, p1, p2, rfl, rfl, rfl, h0, h1, h2⟩ := trodAll_three hA
  obtain ⟨rfl, rfl⟩ := trodVars_none hV
  obtain ⟨a, rfl, rfl, rfl, ha⟩ := open_string Tryz.underlying9 (hval 0 9 v0 rfl rfl) h0
  obtain ⟨b, rfl, rfl, rfl, hb⟩ := open_string Tryz.underlying9 (hval 1 9 v1 rfl rfl) h1
  obtain ⟨c, rfl, rfl, rfl, hc⟩ := open_string Tryz.underlying9 (hval 2 9 v2 rfl rfl) h2
  clear hA0 hval0
  simp only [List.append_nil] at hW'
  refine (law_words a b c W ha hb hc (kindsF_of hL) (maxL_of hsh)).mono fun e W' ⟨he, hg⟩ => ?_
  subst he
  exact ⟨_, rfl, _, _, _, [], [], [], hW', trodAll_mk1 (shut_bool Tryz.underlying4 _), trodAll_mk3 (shut_string Tryz.underlying9 ha) (shut_string Tryz.underlying9 hb) (shut_string Tryz.underlying9 hc), rfl, hg.frame _, fun h => by cases h⟩

theorem saidW : Rows.MatchWordsSaid :=
  OpenClaim.holds_of_wide 4 Tryz.f4 rfl rfl rfl rfl rfl rfl rfl ⟨rfl, rfl, rfl, rfl, rfl⟩ rfl rfl rfl rfl rfl (by kernel_rfl) Tryz.func4 (by kernel_rfl)
    (of_decide_eq_true (by kernel_rfl)) (by unfold Func.isWrapper; first | (rw [if_pos (by decide +kernel)]; kernel_rfl) | (rw [if_neg (by decide +kernel)]; exact ⟨rfl, rfl⟩))
    (fun os started H enc _ => liftedW os started H enc)

theorem plainW (f : FuncId) (fn : Func) (hf : Tryz.pinned.checked.prog.funcNamed "roster/rosterlaw06.MatchWords" = some f) (hfn : Tryz.pinned.checked.prog.funcs[f]? = some fn) :
    true = Tryz.pinned.checked.prog.looks [] ∧ ∀ (j : Nat) t, fn.params[j]? = some t → Tryz.pinned.checked.prog.wantsStandIn t = false := by
  obtain rfl : f = 4 := Option.some.inj ((show Tryz.prog.funcNamed "roster/rosterlaw06.MatchWords" = some 4 by kernel_rfl).symm.trans hf) |>.symm
  obtain rfl : fn = Tryz.f4 := (Option.some.inj (Tryz.func4.symm.trans hfn)).symm
  refine ⟨by kernel_rfl, fun j t ht => ?_⟩
  rw [Tryz.params4] at ht
  have hm : t ∈ [9, 9, 9] := by simpa using Array.mem_of_getElem? ht
  have hall : ([9, 9, 9].all fun u => !Tryz.prog.wantsStandIn u) = true := by kernel_rfl
  exact (show Tryz.prog.wantsStandIn t = false by simpa using List.all_eq_true.1 hall t hm)

theorem matchWords_holds : Rows.MatchWordsCardSaid :=
  Claim7.holds_tied_plain_at .later [] _ _ _ _ saidW (fun _ h => by cases h) (by kernel_rfl) (fun _ h => by cases h) matchWords_row_tie rfl ⟨rfl, rfl⟩ (by kernel_rfl) rfl plainW (by kernel_rfl)
#print axioms matchWords_holds

end Go.Proofs.YtjmjgkmegljmpaaGreatDoor
