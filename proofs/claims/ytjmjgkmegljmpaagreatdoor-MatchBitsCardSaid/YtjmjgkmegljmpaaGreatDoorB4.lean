/-
MatchBits, proved for every input: SynBits is digits 0 and 1 between an apostrophe and 'B, and equal just if they are the same. Its conditions are the row's own: the listed package-level variables read as they are laid, and the card ties them.
-/
import Derived.Test.YtjmjgkmegljmpaaGreatDoorCards
import Derived.Test.YtjmjgkmegljmpaaGreatDoorTie
import Derived.Test.YtjmjgkmegljmpaaGreatDoorB3
import Derived.ProofKit
import Derived.OpenShut
import Derived.ShutString
import Derived.LaidMore
import Derived.Lay
import Derived.SevenTiedAt
import Derived.Stop.Joined
import Derived.Lib.LaidU8
namespace Go.Proofs.YtjmjgkmegljmpaaGreatDoor
open Go.ChangeShapes Go.WideShapes Go.ChangeAt Go.RowKit
open Go.ChangeMaps (open_string shut_string)

theorem own : ownKnob Tryz.prog.godebug = none := by kernel_rfl

theorem typeName_row {P : Program} {nm : String} {tp : TypeId}
    (hrows : ((List.range P.types.size).all fun u => P.typeName? 3 u != some nm || u == tp) = true)
    (hstar : ∀ s : String, "*" ++ s ≠ nm) (u : TypeId) (hu : P.typeName? 3 u = some nm) : u = tp := by
  by_cases hlt : u < P.types.size
  · have := List.all_eq_true.1 hrows u (List.mem_range.2 hlt)
    simpa [hu] using this
  · exfalso
    unfold Program.typeName? at hu
    cases hi : P.info? u with
    | none => simp [hi] at hu
    | some i =>
      have hb := Tables.info?_beyond hlt hi
      simp only [hi] at hu
      cases hd : i.desc <;> simp only [hd, TypeDesc.tableOnly] at hu hb <;> try cases hb
      all_goals try cases hu
      simp only [Option.map_eq_some_iff] at hu
      obtain ⟨n', _, hs⟩ := hu
      exact hstar n' hs

theorem iface_of_trod {H : Type} {enc : TypeId × Value → H} {P : Program} {w : World} {base : Nat} {sp : Nat → Bool} {ti : TypeId} {ms : Array (String × TypeId)} {c : Value} {name : String} {d : DataW H} {ps : List MemPlace} {fuel : Nat}
    (hi : P.underlying ti = some (.interface ms)) (h : DataW.trod enc P w base sp false fuel ti [c] = some (.iface name d, ps)) :
    ∃ (u : TypeId) (v : Value) (n : Nat), c = .iface u v ∧ P.typeName? 3 u = some name ∧ DataW.trod enc P w base sp false n u v.cells.toList = some (d, ps) := by
  cases fuel with
  | zero => simp [DataW.trod] at h
  | succ n =>
    unfold DataW.trod at h
    rw [hi] at h
    cases c <;> simp at h
    rename_i u v
    cases hn : P.typeName? 3 u with
    | none => simp [hn] at h
    | some nm =>
      simp only [hn, Option.map_eq_some_iff, Prod.mk.injEq, DataW.iface.injEq] at h
      obtain ⟨x, hx, ⟨rfl, rfl⟩, rfl⟩ := h
      exact ⟨u, v, n, rfl, hn, hx⟩

theorem cells_nil {v : Value} (h : v.cells.toList.length = 0) : v = .agg #[] := by
  cases v <;> simp [Value.cells] at h
  rename_i cs
  simp [h]

theorem gKinds : Tryz.prog.globalNamed "roster/match.kinds" = some 0 := by kernel_rfl
theorem tKinds : (Tryz.prog.globals[0]?).map (·.type) = some 82 := by kernel_rfl
theorem c58 : Tryz.prog.cellsOf 58 = 1 := by kernel_rfl
theorem name274 : ((List.range Tryz.prog.types.size).all fun u => Tryz.prog.typeName? 3 u != some "roster/match.bitString" || u == 274) = true := by kernel_rfl
theorem cells274 : Tryz.prog.cellsOf 274 = 0 := by kernel_rfl

set_option maxRecDepth 100000 in
theorem kinds14_of {W : World} (h : laidMetH Tryz.prog Rows.matchBitsRow.laid W) : Kinds14 W := by
  rw [MakeChecks.laidMetH_plain _ _ _ (by kernel_rfl)] at h
  obtain ⟨g, t, cs, fuel, p, hg, ht, hv, hd⟩ := Lib.laidMet.reads h (n := "roster/match.kinds") (d := Rows.laid_roster_match_kinds) (by simp [Rows.matchBitsRow])
  obtain rfl := Option.some.inj (gKinds.symm.trans hg)
  obtain rfl := Option.some.inj (tKinds.symm.trans ht)
  obtain ⟨xs, m, _, ex, _, hl, hel⟩ := DataW.trod_array Tryz.underlying82 hd
  have hE := hel 14 (by decide)
  have hl14 : 14 < xs.length := by omega
  rw [c58, Nat.mul_one, List.getElem?_eq_getElem hl14] at hE
  have e1 : (xs.map (·.1))[14]? = some (.iface "roster/match.bitString" (.agg [.agg []])) := by
    rw [← (DataW.agg.inj (Prod.mk.inj ex).1)]
    rfl
  rw [List.getElem?_map, List.getElem?_eq_getElem hl14] at e1
  simp only [Option.map_some, Option.some.injEq] at e1
  have hcs : ∃ c, (cs.toList.drop 14).take 1 = [c] := by
    cases hd14 : cs.toList.drop 14 with
    | nil =>
      rw [hd14] at hE
      exfalso
      cases m with
      | zero => simp [DataW.trod] at hE
      | succ m => simp [DataW.trod, Tryz.underlying58] at hE
    | cons c r => exact ⟨c, rfl⟩
  obtain ⟨c, hc⟩ := hcs
  rw [hc] at hE
  generalize hx : xs[14]'hl14 = x at hE e1
  obtain ⟨d0, p0⟩ := x
  simp only at e1
  subst e1
  obtain ⟨u, v, n, rfl, hn, hv2⟩ := iface_of_trod Tryz.underlying58 hE
  obtain rfl := typeName_row name274 (fun s h => by have := congrArg (fun z => z.toList.head?) h; simp [String.toList_append] at this) u hn
  have hz : v.cells.toList.length = 0 := by
    cases n with
    | zero => simp [DataW.trod] at hv2
    | succ n =>
      obtain ⟨_, _, _, _, hlen, _, _⟩ := DataW.trod_struct Tryz.underlying274 hv2
      rw [hlen, cells274]
  obtain rfl := cells_nil hz
  unfold Kinds14
  rw [World.var?_cell hg hv 14]
  have h0 : ((cs.toList.drop 14).take 1)[0]? = some (.iface 274 (.agg #[])) := by rw [hc]; rfl
  simpa using h0

set_option maxRecDepth 100000 in
theorem lifted (os : Os) (started : os.Started) (H : Type) (enc : TypeId × Value → H) :
    ReturnsInHanded {} Tryz.checked os 5 .any (fun w args => (Rows.matchBitsSpec.pre enc Tryz.prog Tryz.f5 Rows.matchBitsRow.domain false w args ∧ laidMetH Tryz.prog Rows.matchBitsRow.laid w) ∧ sizedMet enc Tryz.prog Tryz.f5 (OpenSpec.ofChange Rows.matchBitsSpec) false w args)
      (Rows.matchBitsSpec.post enc Tryz.prog Tryz.f5 false true false false) := by
  refine returnsInHanded_of_change_and (C := Tryz.checked) (X := fun w _ => laidMetH Tryz.prog Rows.matchBitsRow.laid w) (fun _ _ _ hh h => h.of_heap hh) own started (by kernel_rfl) Tryz.func5
    (ChangeSpec.witness_shaped (enc := enc) (C := Tryz.checked) (os := os) (X := fun w _ => laidMetH Tryz.prog Rows.matchBitsRow.laid w) false (World.laidAll Tryz.prog os Rows.matchBitsRow.laid) #[.string .empty, .string .empty] 8 (World.laidAll_os _ _ _)
      (World.shaped_of_ZipB (by kernel_rfl) (by kernel_rfl)) (by kernel_rfl) (by kernel_rfl) (by kernel_rfl)
      (by rw [MakeChecks.laidMetH_plain _ _ _ (by kernel_rfl)]; exact laidMet_laidAll _ (by kernel_rfl) (by kernel_rfl))) ?_
  intro W base args ds gs before hval0 hW _ _ hL _
  have hval : ∀ (j : Nat) t v, Tryz.f5.params[j]? = some t → args[j]? = some v → Value.okWide Tryz.prog W .any base t v := hval0
  have hW' := hW
  obtain ⟨p, q, hA0, hV, rfl, _, _⟩ := hW
  have hA : DataW.TrodAll enc Tryz.prog W 0 (fun _ => true) true Tryz.f5.params.toList args.toList ds p := hA0
  rw [Tryz.params5] at hA hval
  obtain ⟨v0, v1, d0, d1, p0, p1, rfl, rfl, rfl, h0, h1⟩ := trodAll_two hA
  obtain ⟨rfl, rfl⟩ := trodVars_none hV
  obtain ⟨a, rfl, rfl, rfl, ha⟩ := open_string Tryz.underlying9 (hval 0 9 v0 rfl rfl) h0
  obtain ⟨b, rfl, rfl, rfl, hb⟩ := open_string Tryz.underlying9 (hval 1 9 v1 rfl rfl) h1
  clear hA0 hval0
  simp only [List.append_nil] at hW'
  refine (law5 a b W (kinds14_of hL)).mono fun e W' ⟨he, hg⟩ => ?_
  subst he
  exact ⟨_, rfl, _, _, _, [], [], [], hW', trodAll_mk1 (shut_bool Tryz.underlying4 _), trodAll_mk2 (shut_string Tryz.underlying9 ha) (shut_string Tryz.underlying9 hb), rfl, hg.frame _, fun h => by cases h⟩

theorem said : Rows.MatchBitsSaid :=
  OpenClaim.holds_of_wide 5 Tryz.f5 rfl rfl rfl rfl rfl rfl rfl ⟨rfl, rfl, rfl, rfl, rfl⟩ rfl rfl rfl rfl rfl (by kernel_rfl) Tryz.func5 (by kernel_rfl)
    (of_decide_eq_true (by kernel_rfl)) (by unfold Func.isWrapper; first | (rw [if_pos (by decide +kernel)]; kernel_rfl) | (rw [if_neg (by decide +kernel)]; exact ⟨rfl, rfl⟩))
    (fun os started H enc _ => lifted os started H enc)

theorem plain (f : FuncId) (fn : Func) (hf : Tryz.pinned.checked.prog.funcNamed "roster/rosterlaw06.MatchBits" = some f) (hfn : Tryz.pinned.checked.prog.funcs[f]? = some fn) :
    true = Tryz.pinned.checked.prog.looks [] ∧ ∀ (j : Nat) t, fn.params[j]? = some t → Tryz.pinned.checked.prog.wantsStandIn t = false := by
  obtain rfl : f = 5 := Option.some.inj ((show Tryz.prog.funcNamed "roster/rosterlaw06.MatchBits" = some 5 by kernel_rfl).symm.trans hf) |>.symm
  obtain rfl : fn = Tryz.f5 := (Option.some.inj (Tryz.func5.symm.trans hfn)).symm
  refine ⟨by kernel_rfl, fun j t ht => ?_⟩
  rw [Tryz.params5] at ht
  have hm : t ∈ [9, 9] := by simpa using Array.mem_of_getElem? ht
  have hall : ([9, 9].all fun u => !Tryz.prog.wantsStandIn u) = true := by kernel_rfl
  exact (show Tryz.prog.wantsStandIn t = false by simpa using List.all_eq_true.1 hall t hm)

theorem matchBits_holds : Rows.MatchBitsCardSaid :=
  Claim7.holds_tied_plain_at .later [] _ _ _ _ said (fun _ h => by cases h) (by kernel_rfl) (fun _ h => by cases h) matchBits_row_tie rfl ⟨rfl, rfl⟩ (by kernel_rfl) rfl plain (by kernel_rfl)
#print axioms matchBits_holds

end Go.Proofs.YtjmjgkmegljmpaaGreatDoor
