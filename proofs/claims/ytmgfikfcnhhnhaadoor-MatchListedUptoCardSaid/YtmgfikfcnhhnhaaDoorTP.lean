/-
MatchListed, proved for every input of bulk at most 1048576: lists of lines are equal just if they have as many lines and these are equal by SynText, line by line. Its conditions are the row's own: the listed package-level variable reads as it is laid, and the card ties it; the bulk is the specification's own bound.
-/
import Derived.Test.YtmgfikfcnhhnhaaDoorTO
import Derived.Test.YtmgfikfcnhhnhaaDoorTF
import Derived.Deep.DeepHandedRow
import Derived.Deep.DeepWitnessRowRef
import Derived.JoinedCond
namespace Go.Proofs.YtmgfikfcnhhnhaaDoor
open Go.ChangeShapes Go.WideShapes Go.ChangeAt Go.RowKit
open Go.ChangeMaps (open_string shut_string)

section
variable {H : Type} {enc : TypeId × Value → H} {P : Program} {w : World} {base : Nat} {spare : Nat → Bool} {held : Bool}
theorem trodAll_four {t t' t'' u : TypeId} {args : Array Value} {ds : List (DataW H)} {ps : List MemPlace} (h : DataW.TrodAll enc P w base spare held [t, t', t'', u] args.toList ds ps) :
    ∃ v v' v'' v3 d d' d'' d3 p p' p'' p3, args = #[v, v', v'', v3] ∧ ds = [d, d', d'', d3] ∧ ps = p ++ p' ++ p'' ++ p3 ∧ DataW.Trod enc P w base spare held t v d p ∧ DataW.Trod enc P w base spare held t' v' d' p' ∧ DataW.Trod enc P w base spare held t'' v'' d'' p'' ∧ DataW.Trod enc P w base spare held u v3 d3 p3 := by
  obtain ⟨v, vs, d, ds', p, q, hargs, rfl, rfl, hd, hrest⟩ := trodAll_cons h
  obtain ⟨v', vs', d', ds'', p', q', rfl, rfl, rfl, hd', hrest'⟩ := trodAll_cons hrest
  obtain ⟨v'', vs'', d'', dsx, p'', q'', rfl, rfl, rfl, hd'', hrest''⟩ := trodAll_cons hrest'
  obtain ⟨v3, vs3, d3, ds3, p3, q3, rfl, rfl, rfl, hd3, hrest3⟩ := trodAll_cons hrest''
  obtain ⟨rfl, rfl, rfl⟩ := trodAll_nil hrest3
  exact ⟨v, v', v'', v3, d, d', d'', d3, p, p', p'', p3, by cases args; simp_all, rfl, by simp, hd, hd', hd'', hd3⟩
theorem trodAll_mk4 {t t' t'' u : TypeId} {v v' v'' v3 : Value} {d d' d'' d3 : DataW H} {p p' p'' p3 : List MemPlace} (h : DataW.Trod enc P w base spare held t v d p) (h' : DataW.Trod enc P w base spare held t' v' d' p')
    (h'' : DataW.Trod enc P w base spare held t'' v'' d'' p'') (h3 : DataW.Trod enc P w base spare held u v3 d3 p3) : DataW.TrodAll enc P w base spare held [t, t', t'', u] [v, v', v'', v3] [d, d', d'', d3] (p ++ (p' ++ (p'' ++ p3))) :=
  ⟨p, p' ++ (p'' ++ p3), h, trodAll_mk3 h' h'' h3, rfl⟩
end

set_option maxRecDepth 100000 in
theorem kind1_of {W : World} (h : laidMetH Tryd.prog Rows.matchListedUptoRow.laid W) : KindAt 1 65 W := by
  rw [MakeChecks.laidMetH_plain _ _ _ (by kernel_rfl)] at h
  exact kindAt h (by simp [Rows.matchListedUptoRow]) 1 (by decide) "roster/match.folded" _ 65 _ rfl (by kernel_rfl) (fun s => noStar (c := 'r') (by decide) s _ rfl) (by kernel_rfl) Tryd.underlying65
set_option maxRecDepth 100000 in
theorem kind13_of {W : World} (h : laidMetH Tryd.prog Rows.matchListedUptoRow.laid W) : KindAt 13 79 W := by
  rw [MakeChecks.laidMetH_plain _ _ _ (by kernel_rfl)] at h
  exact kindAt h (by simp [Rows.matchListedUptoRow]) 13 (by decide) "roster/match.list" _ 79 _ rfl (by kernel_rfl) (fun s => noStar (c := 'r') (by decide) s _ rfl) (by kernel_rfl) Tryd.underlying79
theorem maxL_of {W : World} (h : W.ShapedOpen Tryd.prog) : MaxL W :=
  cell_of_shapedOpen_int (zero := #[.int .i64 0]) (t := 3) h (of_decide_eq_true (by kernel_rfl)) (by kernel_rfl) rfl (by kernel_rfl) (by kernel_rfl) Tryd.underlying3

def args0 : Array Value := #[.string .empty, .string .empty, .string .empty, .string .empty]
set_option maxRecDepth 100000 in
theorem witness_row (os : Os) {H : Type} (enc : TypeId × Value → H) :
    (Rows.OpenSpec.upto Rows.matchListedSpec).preRow enc Tryd.prog Tryd.f3 Rows.matchListedUptoRow.domain false Rows.matchListedUptoRow.laid ((World.laidAll Tryd.prog os Rows.matchListedUptoRow.laid).forCall (fun _ _ => 0) ⟨#[], args0, []⟩).memory args0 := by
  have hw : (DataW.whole enc Tryd.prog ((World.laidAll Tryd.prog os Rows.matchListedUptoRow.laid).forCall (fun _ _ => 0) ⟨#[], args0, []⟩).memory Tryd.f3.params.toList (Rows.OpenSpec.upto Rows.matchListedSpec).vars false args0.toList 8).map (fun x => (x.1, x.2.1)) =
      some ([.lit (.string []), .lit (.string []), .lit (.string []), .lit (.string [])], []) := by kernel_rfl
  obtain ⟨⟨x1, x2, x3⟩, hx, hx1⟩ := Option.map_eq_some_iff.1 hw
  simp only [Prod.mk.injEq] at hx1
  obtain ⟨rfl, rfl⟩ := hx1
  refine OpenSpec.preRow_of_cond 8 hx (by kernel_rfl) (fun k hk => ?_) (by kernel_rfl) (by rw [MakeChecks.laidMetH_plain _ _ _ (by kernel_rfl)]; exact laidMet_laidAll _ (by kernel_rfl) (by kernel_rfl))
  obtain rfl : Rows.uptoSmall = k := Option.some.inj hk
  rfl

set_option maxRecDepth 100000 in
theorem lifted (os : Os) (started : os.Started) (H : Type) (enc : TypeId × Value → H) (F : Stop.Interp) :
    ReturnsInHanded {} Tryd.checked os 3 .any ((Rows.OpenSpec.upto Rows.matchListedSpec).preRow enc Tryd.prog Tryd.f3 Rows.matchListedUptoRow.domain false Rows.matchListedUptoRow.laid)
      (((Rows.OpenSpec.upto Rows.matchListedSpec).at F).post enc Tryd.prog Tryd.f3 false true false false) := by
  refine returnsInHanded_of_row (C := Tryd.checked) (s := Rows.OpenSpec.upto Rows.matchListedSpec) own started (by kernel_rfl) Tryd.func3
    (witness_row_atRef (enc := enc) (C := Tryd.checked) false (World.laidAll Tryd.prog os Rows.matchListedUptoRow.laid) args0 (World.laidAll_os _ _ _) (by kernel_rfl) (by kernel_rfl) (by kernel_rfl) (witness_row os enc)) ?_
  intro W base args ds gs before hval0 hW _ hcond _ hL hsh _
  have hval : ∀ (j : Nat) t v, Tryd.f3.params[j]? = some t → args[j]? = some v → Value.okWide Tryd.prog W .any base t v := hval0
  have hW' := hW
  have hsm : Rows.uptoSmall H (ds ++ gs) = true := hcond _ rfl
  obtain ⟨p, q, hA0, hV, rfl, _, _⟩ := hW
  have hA : DataW.TrodAll enc Tryd.prog W 0 (fun _ => true) true Tryd.f3.params.toList args.toList ds p := hA0
  rw [Tryd.params3] at hA hval
  obtain ⟨v0, v1, v2, v3, d0, d1, d2, d3, p0, p1, p2, p3, rfl, rfl, rfl, h0, h1, h2, h3⟩ := trodAll_four hA
  obtain ⟨rfl, rfl⟩ := trodVars_none hV
  obtain ⟨a, rfl, rfl, rfl, ha⟩ := open_string Tryd.underlying9 (hval 0 9 v0 rfl rfl) h0
  obtain ⟨b, rfl, rfl, rfl, hb⟩ := open_string Tryd.underlying9 (hval 1 9 v1 rfl rfl) h1
  obtain ⟨c, rfl, rfl, rfl, hc⟩ := open_string Tryd.underlying9 (hval 2 9 v2 rfl rfl) h2
  obtain ⟨d, rfl, rfl, rfl, hd⟩ := open_string Tryd.underlying9 (hval 3 9 v3 rfl rfl) h3
  clear hA0 hval0
  simp only [List.append_nil] at hW' hsm
  have hs : a.size ≤ 1048576 ∧ b.size ≤ 1048576 ∧ c.size ≤ 1048576 ∧ d.size ≤ 1048576 := by
    have h : Rows.uptoBulkAll (H := H) [.lit (.string a.data.toList), .lit (.string b.data.toList), .lit (.string c.data.toList), .lit (.string d.data.toList)] ≤ 1048576 := of_decide_eq_true hsm
    simp only [Rows.uptoBulkAll, Rows.uptoBulk, dlen] at h
    omega
  refine (law_listed a b c d W (by omega) (by omega) (by omega) (by omega) ⟨kind1_of hL, kind13_of hL, maxL_of hsh⟩).mono fun e W' ⟨he, hg⟩ => ?_
  subst he
  refine ⟨_, rfl, _, _, _, [], [], [], hW', trodAll_mk1 (shut_bool Tryd.underlying4 _), trodAll_mk4 (shut_string Tryd.underlying9 ha) (shut_string Tryd.underlying9 hb) (shut_string Tryd.underlying9 hc) (shut_string Tryd.underlying9 hd), rfl, hg.frame _, fun h => by cases h⟩

theorem said : Rows.MatchListedUptoSaid :=
  OpenClaim.holds_of_cond 3 Tryd.f3 rfl rfl rfl rfl rfl rfl rfl ⟨rfl, rfl, rfl, rfl, rfl⟩ rfl rfl rfl rfl rfl (by kernel_rfl) Tryd.func3 (by kernel_rfl)
    (of_decide_eq_true (by kernel_rfl)) (by unfold Func.isWrapper; first | (rw [if_pos (by decide +kernel)]; kernel_rfl) | (rw [if_neg (by decide +kernel)]; exact ⟨rfl, rfl⟩))
    (fun os started H enc _ F0 => by rw [OpenClaim.pre_eq_preRow]; exact lifted os started H enc F0)

theorem plain (f : FuncId) (fn : Func) (hf : Tryd.pinned.checked.prog.funcNamed "roster/rosterlaw06.MatchListed" = some f) (hfn : Tryd.pinned.checked.prog.funcs[f]? = some fn) :
    true = Tryd.pinned.checked.prog.looks [] ∧ ∀ (j : Nat) t, fn.params[j]? = some t → Tryd.pinned.checked.prog.wantsStandIn t = false := by
  obtain rfl : f = 3 := Option.some.inj ((show Tryd.prog.funcNamed "roster/rosterlaw06.MatchListed" = some 3 by kernel_rfl).symm.trans hf) |>.symm
  obtain rfl : fn = Tryd.f3 := (Option.some.inj (Tryd.func3.symm.trans hfn)).symm
  refine ⟨by kernel_rfl, fun j t ht => ?_⟩
  rw [Tryd.params3] at ht
  have hm : t ∈ [9, 9, 9, 9] := by simpa using Array.mem_of_getElem? ht
  have hall : ([9, 9, 9, 9].all fun u => !Tryd.prog.wantsStandIn u) = true := by kernel_rfl
  exact (show Tryd.prog.wantsStandIn t = false by simpa using List.all_eq_true.1 hall t hm)

theorem matchListed_holds : Rows.MatchListedUptoCardSaid :=
  Claim7.holds_tied_plain_at .later [] _ _ _ _ said (fun _ h => by cases h) (by kernel_rfl) (fun _ h => by cases h) matchListedUpto_row_tie rfl ⟨rfl, rfl⟩ (by kernel_rfl) rfl plain (by kernel_rfl)
#print axioms matchListed_holds
end Go.Proofs.YtmgfikfcnhhnhaaDoor
