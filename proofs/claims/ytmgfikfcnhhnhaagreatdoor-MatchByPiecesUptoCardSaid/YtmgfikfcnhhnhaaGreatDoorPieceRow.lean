/-
MatchByPieces, proved for every input of bulk at most 1048576: a rule that asks for pieces answers, of a pattern's text, what Contains answers of the pattern, in each of the six syntaxes; a text without a star is none. Its conditions are the row's own: the listed package-level variables read as they are laid, and the card ties them; the bulk is the specification's own bound.
-/
import Derived.Test.YtmgfikfcnhhnhaaGreatDoorPieceA
import Derived.Deep.DeepHandedRow
import Derived.Deep.DeepWitnessRowRef
import Derived.Deep.Strs
import Derived.ReadAgain
import Derived.JoinedCond
namespace Go.Proofs.YtmgfikfcnhhnhaaGreatDoor
open Go.ChangeShapes Go.WideShapes Go.ChangeAt Go.RowKit
open Go.ChangeMaps (open_string shut_string)

theorem len_three {α : Type} : ∀ l : List α, l.length = 3 → ∃ a b c, l = [a, b, c]
  | [a, b, c], _ => ⟨a, b, c, rfl⟩
set_option maxRecDepth 100000 in
/-- The pattern that came in: what lies in its cells, and what its reading says. -/
theorem open_pat {H : Type} {enc : TypeId × Value → H} {W : World} {b0 : Nat} {v : Value} {d : DataW H} {ps : List MemPlace} (hval : Value.okWide Tryz.prog W .any b0 24 v)
    (h : DataW.Trod enc Tryz.prog W 0 (fun _ => true) true 24 v d ps) :
    ∃ (i f : List UInt8) (any : List (List UInt8)) (r : Value) (n : Nat), v = .agg #[.string (mkB i), r, .string (mkB f)] ∧ Rows.uptoBulk d = i.length + f.length + bulkS any + n + 4 ∧ (bulkS any ≤ 1073741824 → RowS W r any) := by
  obtain ⟨cs, rfl, hcs⟩ := okWide_struct Tryz.underlying24 hval
  rw [cellsP] at hcs
  obtain ⟨fuel, hf⟩ := h
  rcases cs with ⟨l⟩
  obtain ⟨c0, c1, c2, rfl⟩ := len_three l hcs
  obtain ⟨y0, y1, y2, n, hx, _, h0, h1, h2⟩ := Deep.trod_struct3 Tryz.underlying24 hf
  have h0' : DataW.trod enc Tryz.prog W 0 (fun _ => true) true n 9 [c0] = some y0 := by simpa [cells9, Value.cells] using h0
  have h1' : DataW.trod enc Tryz.prog W 0 (fun _ => true) true n 22 [c1] = some y1 := by simpa [cellsS, Value.cells] using h1
  have h2' : DataW.trod enc Tryz.prog W 0 (fun _ => true) true n 9 [c2] = some y2 := by simpa [cells9, Value.cells] using h2
  obtain ⟨s0, e0, rfl, _⟩ := DataW.trod_string Tryz.underlying9 h0'
  obtain ⟨s2, e2, rfl, _⟩ := DataW.trod_string Tryz.underlying9 h2'
  simp only [List.cons.injEq, and_true] at e0 e2
  subst e0 e2
  clear h0 h1 h2 h0' h2' hf hval
  simp only [Prod.mk.injEq] at hx
  obtain ⟨rfl, _⟩ := hx
  rcases Deep.open_strs Tryz.underlying22 Tryz.underlying9 cells9 h1' with ⟨e1, rfl⟩ | ⟨a, len, cap, m, Sx, e1, _, hl, _, hm, rfl, hcell⟩
  · simp only [List.cons.injEq, and_true] at e1
    subst e1
    refine ⟨s0.data.toList, s2.data.toList, [], _, 0, by simp only [mkB_self]; rfl, ?_, fun _ => ⟨none, 0, rfl, by simp, fun j x hj => by simp at hj⟩⟩
    simp [Rows.uptoBulk, Rows.uptoBulkAll, bulkS]
    omega
  · simp only [List.cons.injEq, and_true] at e1
    subst e1
    rw [if_pos rfl] at hm
    subst hm
    refine ⟨s0.data.toList, s2.data.toList, (List.range len).map fun k => (Sx k).data.toList, _, Rows.uptoBulkAll ((List.range (m - len)).map fun j => (DataW.lit (.string (Sx (len + j)).data.toList) : DataW H)), by simp only [mkB_self]; rfl, ?_, fun hb => ?_⟩
    · have h := bulk_strs (H := H) ((List.range len).map fun k => (Sx k).data.toList)
      rw [List.map_map] at h
      have h' : Rows.uptoBulkAll ((List.range len).map fun k => (DataW.lit (.string (Sx k).data.toList) : DataW H)) = bulkS ((List.range len).map fun k => (Sx k).data.toList) := h
      simp only [Rows.uptoBulk, Rows.uptoBulkAll, h', dlen]
      omega
    · refine ⟨some a, m, by simp, Nat.le_trans (bulk_len _) hb, fun j x hj => ?_⟩
      obtain ⟨hjl, hjx⟩ := List.getElem?_eq_some_iff.1 hj
      have hjl2 : j < len := by simpa using hjl
      have hx : x = (Sx j).data.toList := by rw [← hjx]; simp
      obtain ⟨c0', _⟩ := hcell 0 (by omega)
      obtain ⟨cj, _⟩ := hcell j (by omega)
      have hspot := World.cell?_spot c0'
      obtain ⟨b, o, sp⟩ := a
      have hsp : sp = none := by simpa [Addr.add] using hspot
      subst hsp
      refine ⟨Nat.le_trans (bulk_mem _ x (List.mem_of_getElem? hj)) hb, b, o, rfl, World.block_lt_of_cell? W _ c0', ?_⟩
      rw [hx, mkB_self, ← cj]
      congr 1
      cases j <;> simp [Addr.add]

set_option maxRecDepth 100000 in
theorem lifted (os : Os) (started : os.Started) (H : Type) (enc : TypeId × Value → H) (F : Stop.Interp) :
    ReturnsInHanded {} Tryz.checked os 3 .any ((Rows.OpenSpec.upto Rows.matchByPiecesSpec).preRow enc Tryz.prog Tryz.f3 Rows.matchByPiecesUptoRow.domain false Rows.matchByPiecesUptoRow.laid)
      (((Rows.OpenSpec.upto Rows.matchByPiecesSpec).at F).post enc Tryz.prog Tryz.f3 false true false false) := by
  refine returnsInHanded_of_row (C := Tryz.checked) (s := Rows.OpenSpec.upto Rows.matchByPiecesSpec) own started (by kernel_rfl) Tryz.func3
    (witness_row_atRef (enc := enc) (C := Tryz.checked) false (World.laidAll Tryz.prog os Rows.matchByPiecesUptoRow.laid) args0 (World.laidAll_os _ _ _) (by kernel_rfl) (by kernel_rfl) (by kernel_rfl) (witness_row os enc)) ?_
  intro W base args ds gs before hval0 hW _ hcond _ hL hsh _
  have hval : ∀ (j : Nat) t v, Tryz.f3.params[j]? = some t → args[j]? = some v → Value.okWide Tryz.prog W .any base t v := hval0
  have hW' := hW
  have hsm : Rows.uptoSmall H (ds ++ gs) = true := hcond _ rfl
  obtain ⟨p, q, hA0, hV, rfl, _, _⟩ := hW
  have hA : DataW.TrodAll enc Tryz.prog W 0 (fun _ => true) true Tryz.f3.params.toList args.toList ds p := hA0
  have hAk := hA
  rw [Tryz.params3] at hA hval
  obtain ⟨v0, v1, d0, d1, p0, p1, rfl, rfl, rfl, h0, h1⟩ := trodAll_two hA
  obtain ⟨rfl, rfl⟩ := trodVars_none hV
  obtain ⟨a, rfl, rfl, rfl, ha⟩ := open_string Tryz.underlying9 (hval 0 9 v0 rfl rfl) h0
  obtain ⟨i, f, any, r, n, rfl, hbk, hrow⟩ := open_pat (hval 1 24 v1 rfl rfl) h1
  clear hA0 hval0
  simp only [List.append_nil] at hW' hsm
  have hs : a.size + 1 + (i.length + f.length + bulkS any + n + 4) ≤ 1048576 := by
    have h : Rows.uptoBulkAll (H := H) [.lit (.string a.data.toList), d1] ≤ 1048576 := of_decide_eq_true hsm
    simp only [Rows.uptoBulkAll, Rows.uptoBulk, dlen, hbk] at h
    omega
  have htx := text_len i f any
  have hal : a.data.toList.length = a.size := dlen a
  have hcall := law_pieces a.data.toList i f any r W (by omega) (by omega) (by omega) (fun x hx => by have := bulk_mem any x hx; omega) (by omega) (six_of hL hsh) (hrow (by omega))
  rw [mkB_self] at hcall
  refine hcall.mono fun e W' ⟨he, hg⟩ => ?_
  subst he
  have hlt := DataW.TrodAll.lt hAk
  have hargs := DataW.TrodAll.respare (spare' := fun b => decide (b < W.heap.size)) kids full (by rw [Tryz.params3]; decide) (trodAll_carry hAk (fun p hp => hg.same (hlt p hp))) (fun p hp => decide_eq_true (hlt p hp))
  exact ⟨_, rfl, _, _, _, [], _, [], hW', trodAll_mk1 (shut_bool Tryz.underlying4 _), hargs, rfl, hg.frame _, fun h => by cases h⟩

theorem said : Rows.MatchByPiecesUptoSaid :=
  OpenClaim.holds_of_cond 3 Tryz.f3 rfl rfl rfl rfl rfl rfl rfl ⟨rfl, rfl, rfl, rfl, rfl⟩ rfl rfl rfl rfl rfl (by kernel_rfl) Tryz.func3 (by kernel_rfl)
    (of_decide_eq_true (by kernel_rfl)) (by unfold Func.isWrapper; first | (rw [if_pos (by decide +kernel)]; kernel_rfl) | (rw [if_neg (by decide +kernel)]; exact ⟨rfl, rfl⟩))
    (fun os started H enc _ F0 => by rw [OpenClaim.pre_eq_preRow]; exact lifted os started H enc F0)

theorem plain (f : FuncId) (fn : Func) (hf : Tryz.pinned.checked.prog.funcNamed "roster/rosterlaw06.MatchByPieces" = some f) (hfn : Tryz.pinned.checked.prog.funcs[f]? = some fn) :
    true = Tryz.pinned.checked.prog.looks [] ∧ ∀ (j : Nat) t, fn.params[j]? = some t → Tryz.pinned.checked.prog.wantsStandIn t = false := by
  obtain rfl : f = 3 := Option.some.inj ((show Tryz.prog.funcNamed "roster/rosterlaw06.MatchByPieces" = some 3 by kernel_rfl).symm.trans hf) |>.symm
  obtain rfl : fn = Tryz.f3 := (Option.some.inj (Tryz.func3.symm.trans hfn)).symm
  refine ⟨by kernel_rfl, fun j t ht => ?_⟩
  rw [Tryz.params3] at ht
  have hm : t ∈ [9, 24] := by simpa using Array.mem_of_getElem? ht
  have hall : ([9, 24].all fun u => !Tryz.prog.wantsStandIn u) = true := by kernel_rfl
  exact (show Tryz.prog.wantsStandIn t = false by simpa using List.all_eq_true.1 hall t hm)

theorem matchByPieces_holds : Rows.MatchByPiecesUptoCardSaid :=
  Claim7.holds_tied_plain_at .later [] _ _ _ _ said (fun _ h => by cases h) (by kernel_rfl) (fun _ h => by cases h) matchByPiecesUpto_row_tie rfl ⟨rfl, rfl⟩ (by kernel_rfl) rfl plain (by kernel_rfl)
#print axioms matchByPieces_holds
end Go.Proofs.YtmgfikfcnhhnhaaGreatDoor
