/-
Plain lemmas for the rows of a seat whose table of kinds is laid: what a cell of that table holds, and the wrap that keeps the world's shape.
-/
import Derived.Test.YtmgfikfcnhhnhaaGreatDoorCards
import Derived.Test.YtmgfikfcnhhnhaaGreatDoorTie
import Derived.ProofKit
import Derived.OpenShut
import Derived.ShutString
import Derived.LaidMore
import Derived.Lay
import Derived.SevenTiedAt
import Derived.Stop.Joined
import Derived.Lib.LaidU8
import Derived.Shelf.Vars
namespace Go.Proofs.YtmgfikfcnhhnhaaGreatDoor
open Go.ChangeShapes Go.WideShapes Go.ChangeAt Go.RowKit
open Go.ChangeMaps (open_string shut_string)

theorem own : ownKnob Tryz.prog.godebug = none := by kernel_rfl

theorem typeName_row {P : Program} {nm : String} {tp : TypeId}
    (hrows : ((List.range P.types.size).all fun u => P.typeName? 3 u != some nm || u == tp) = true)
    (hstar : ∀ s : String, "*" ++ s ≠ nm) (u : TypeId) (hu : P.typeName? 3 u = some nm) : u = tp := by
  by_cases hlt : u < P.types.size
  · have := List.all_eq_true.1 hrows u (List.mem_range.2 hlt)
    simpa [hu] using this
  · exfalso
    unfold Program.typeName? at hu
    cases hi : P.info? u with
    | none => simp [hi] at hu
    | some i =>
      have hb := Tables.info?_beyond hlt hi
      simp only [hi] at hu
      cases hd : i.desc <;> simp only [hd, TypeDesc.tableOnly] at hu hb <;> try cases hb
      all_goals try cases hu
      simp only [Option.map_eq_some_iff] at hu
      obtain ⟨n', _, hs⟩ := hu
      exact hstar n' hs

theorem iface_of_trod {H : Type} {enc : TypeId × Value → H} {P : Program} {w : World} {base : Nat} {sp : Nat → Bool} {ti : TypeId} {ms : Array (String × TypeId)} {c : Value} {name : String} {d : DataW H} {ps : List MemPlace} {fuel : Nat}
    (hi : P.underlying ti = some (.interface ms)) (h : DataW.trod enc P w base sp false fuel ti [c] = some (.iface name d, ps)) :
    ∃ (u : TypeId) (v : Value) (n : Nat), c = .iface u v ∧ P.typeName? 3 u = some name ∧ DataW.trod enc P w base sp false n u v.cells.toList = some (d, ps) := by
  cases fuel with
  | zero => simp [DataW.trod] at h
  | succ n =>
    unfold DataW.trod at h
    rw [hi] at h
    cases c <;> simp at h
    rename_i u v
    cases hn : P.typeName? 3 u with
    | none => simp [hn] at h
    | some nm =>
      simp only [hn, Option.map_eq_some_iff, Prod.mk.injEq, DataW.iface.injEq] at h
      obtain ⟨x, hx, ⟨rfl, rfl⟩, rfl⟩ := h
      exact ⟨u, v, n, rfl, hn, hx⟩

theorem cells_nil {v : Value} (h : v.cells.toList.length = 0) : v = .agg #[] := by
  cases v <;> simp [Value.cells] at h
  rename_i cs
  simp [h]

theorem gKinds : Tryz.prog.globalNamed "roster/match.kinds" = some 0 := by kernel_rfl
theorem tKinds : (Tryz.prog.globals[0]?).map (·.type) = some 79 := by kernel_rfl
theorem cIface : Tryz.prog.cellsOf 54 = 1 := by kernel_rfl

def kindList : DataW Unit → List (DataW Unit)
  | .agg l => l
  | _ => []

set_option maxRecDepth 100000 in
/-- What a cell of the table of kinds holds, by its laid content. -/
theorem kindAt {W : World} {L : List (String × DataW Unit)} (h : laidMet Tryz.prog L W) (hin : ("roster/match.kinds", Rows.laid_roster_match_kinds) ∈ L) (i : Nat) (hi : i < 15) (nm : String) (d : DataW Unit) (tp : TypeId) (fs : Array Field)
    (hel0 : (kindList Rows.laid_roster_match_kinds)[i]? = some (.iface nm d))
    (hrows : ((List.range Tryz.prog.types.size).all fun u => Tryz.prog.typeName? 3 u != some nm || u == tp) = true)
    (hstar : ∀ s : String, "*" ++ s ≠ nm) (hcells : Tryz.prog.cellsOf tp = 0) (hund : Tryz.prog.underlying tp = some (.struct fs)) :
    W.cell? ⟨0, i, none⟩ = some (.iface tp (.agg #[])) := by
  obtain ⟨g, t, cs, fuel, p, hg, ht, hv, hd⟩ := Lib.laidMet.reads h (n := "roster/match.kinds") (d := Rows.laid_roster_match_kinds) hin
  obtain rfl := Option.some.inj (gKinds.symm.trans hg)
  obtain rfl := Option.some.inj (tKinds.symm.trans ht)
  obtain ⟨xs, m, _, ex, _, hl, hel⟩ := DataW.trod_array Tryz.underlying79 hd
  have hE := hel i (by omega)
  have hl14 : i < xs.length := by omega
  rw [cIface, Nat.mul_one, List.getElem?_eq_getElem hl14] at hE
  have e1 : (xs.map (·.1))[i]? = some (.iface nm d) := by
    rw [← hel0, ← (DataW.agg.inj (Prod.mk.inj ex).1)]
    rfl
  rw [List.getElem?_map, List.getElem?_eq_getElem hl14] at e1
  simp only [Option.map_some, Option.some.injEq] at e1
  have hcs : ∃ c, (cs.toList.drop i).take 1 = [c] := by
    cases hd14 : cs.toList.drop i with
    | nil =>
      rw [hd14] at hE
      exfalso
      cases m with
      | zero => simp [DataW.trod] at hE
      | succ m => simp [DataW.trod, Tryz.underlying54] at hE
    | cons c r => exact ⟨c, rfl⟩
  obtain ⟨c, hc⟩ := hcs
  rw [hc] at hE
  generalize hx : xs[i]'hl14 = x at hE e1
  obtain ⟨d0, p0⟩ := x
  simp only at e1
  subst e1
  obtain ⟨u, v, n, rfl, hn, hv2⟩ := iface_of_trod Tryz.underlying54 hE
  obtain rfl := typeName_row hrows hstar u hn
  have hz : v.cells.toList.length = 0 := by
    cases n with
    | zero => simp [DataW.trod] at hv2
    | succ n =>
      obtain ⟨_, _, _, _, hlen, _, _⟩ := DataW.trod_struct hund hv2
      rw [hlen, hcells]
  obtain rfl := cells_nil hz
  rw [World.var?_cell hg hv i]
  have h0 : ((cs.toList.drop i).take 1)[0]? = some (.iface u (.agg #[])) := by rw [hc]; rfl
  rw [List.getElem?_take, List.getElem?_drop] at h0
  simpa using h0

theorem noStar {c : Char} {cs : List Char} (hc : c ≠ '*') (s : String) (nm : String) (hn : nm.toList = c :: cs) : "*" ++ s ≠ nm := by
  intro h
  have h2 := congrArg String.toList h
  rw [String.toList_append, hn] at h2
  have h3 := congrArg List.head? h2
  simp at h3
  exact hc h3.symm

/-- The wrap for a plain row with laid variables, the world's shape and the form's reach kept. -/
theorem wrapShaped {H : Type} {enc : TypeId × Value → H} {a : Assume} {C : Checked} {os : Os} {f : FuncId} {fn : Func} {s : ChangeSpec} {conds : List PathCond} {laid : List (String × DataW Unit)}
    (own : ownKnob C.prog.godebug = none) (started : os.Started) (noInit : C.prog.inits.idxOf? f = none) (hfn : C.prog.funcs[f]? = some fn)
    (witness : ∃ (w : World) (tape : Tape) (i : Input), w.os = os ∧ (w.forCall tape i).Shaped C.prog ∧ i.vars = [] ∧ Input.okWide C.prog (w.forCall tape i) .any w.heap.size f i ∧
      ((s.pre enc C.prog fn conds false (w.forCall tape i).memory i.args ∧ laidMetH C.prog laid (w.forCall tape i).memory) ∧ sizedMet enc C.prog fn (OpenSpec.ofChange s) false (w.forCall tape i).memory i.args) ∧ a.holds C.prog (lone (Frame.enter C.prog f i.args .normal) [] (w.forCall tape i)))
    (contract : ∀ (W : World) (base : Nat) (args : Array Value) (ds gs : List (DataW H)) (before : List MemPlace),
      (∀ (j : Nat) t v, fn.params[j]? = some t → args[j]? = some v → Value.okWide C.prog W .any base t v) →
      DataW.Whole enc C.prog fn.params.toList s.vars false W args.toList ds gs before →
      conds.all (PathCond.test C.prog ⟨fn.params.toList, ds, s.plain.varTypes C.prog, gs⟩) = true →
      (DataW.weightsEach C.prog (fn.params.toList ++ s.plain.varTypes C.prog) (ds ++ gs)).all (· ≤ reachBytes) = true → laidMetH C.prog laid W → W.ShapedOpen C.prog →
      Calls C.prog f args W fun e W' => ∃ v, e = .returned v ∧ s.post enc C.prog fn false true false false W args v W') :
    ReturnsInHanded a C os f .any (fun w args => (s.pre enc C.prog fn conds false w args ∧ laidMetH C.prog laid w) ∧ sizedMet enc C.prog fn (OpenSpec.ofChange s) false w args) (s.post enc C.prog fn false true false false) := by
  refine returnsInHanded_of_calls own started noInit witness ?_
  rintro w tape i _ hsh _ ⟨_, _, _, fn', hfn', _, _, _, _, hval⟩ ⟨⟨⟨ds, gs, before, hw, hc⟩, hx⟩, hz⟩ _
  obtain rfl := Option.some.inj (hfn'.symm.trans hfn)
  refine (contract (w.forCall tape i) w.heap.size i.args ds gs before hval (DataW.Whole.of_heap (w' := w.forCall tape i) (by rfl) hw) hc (hz.weights hw) (hx.of_heap (by rfl)) hsh).mono ?_
  rintro e W' ⟨v, rfl, hp⟩
  exact ChangeSpec.post_blind hp
end Go.Proofs.YtmgfikfcnhhnhaaGreatDoor
