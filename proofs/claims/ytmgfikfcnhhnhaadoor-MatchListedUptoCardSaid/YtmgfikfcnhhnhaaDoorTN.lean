/- The law of lists in plain Lean: what the normal forms of the law's values are. -/
import Derived.Test.YtmgfikfcnhhnhaaDoorTM
import Derived.Test.YtmgfikfcnhhnhaaDoorTH
namespace Go.Proofs.YtmgfikfcnhhnhaaDoor

/-- A byte of a line's normal form. -/
def escB (b : UInt8) : List UInt8 := if b = 36 then [92, 50, 52] else if b = 92 then [92, 53, 99] else [b]
theorem repl_app (c : UInt8) (n l m : List UInt8) : repl c n (l ++ m) = repl c n l ++ repl c n m := by simp [repl]
theorem escN_eq : ∀ l : List UInt8, escN l = l.flatMap escB := by
  intro l
  induction l with
  | nil => rfl
  | cons b r ih =>
    unfold escN at ih ⊢
    rw [repl_cons, repl_app, ih, List.flatMap_cons]
    congr 1
    unfold escB
    by_cases h1 : b = 92
    · subst h1
      rfl
    · rw [if_neg h1]
      simp [repl]
theorem unE_write (g : UInt8 → List UInt8) (hg : ∀ b, g b = (if b = 36 then [92, 50, 52] else if b = 92 then [92, 53, 99] else [b]) ∨ g b = (if b = 36 then [92, 50, 52] else if b = 92 then [92, 53, 67] else [b])) :
    ∀ l : List UInt8, unE 36 [50, 52] (l.flatMap g) = some l := by
  intro l
  induction l with
  | nil => rfl
  | cons b r ih =>
    rw [List.flatMap_cons]
    by_cases h1 : b = 36
    · subst h1
      have e : g 36 = [92, 50, 52] := by rcases hg 36 with h | h <;> exact h
      rw [e]
      show unE 36 [50, 52] (92 :: 50 :: 52 :: r.flatMap g) = _
      rw [unE_esc, if_pos (by decide), ih]
      rfl
    · by_cases h2 : b = 92
      · subst h2
        rcases hg 92 with h | h
        · have e : g 92 = [92, 53, 99] := h
          rw [e]
          show unE 36 [50, 52] (92 :: 53 :: 99 :: r.flatMap g) = _
          rw [unE_esc, if_neg (by decide), if_pos (by decide), ih]
          rfl
        · have e : g 92 = [92, 53, 67] := h
          rw [e]
          show unE 36 [50, 52] (92 :: 53 :: 67 :: r.flatMap g) = _
          rw [unE_esc, if_neg (by decide), if_pos (by decide), ih]
          rfl
      · have e : g b = [b] := by rcases hg b with h | h <;> rw [h, if_neg h1, if_neg h2]
        rw [e]
        show unE 36 [50, 52] (b :: r.flatMap g) = _
        rw [unE_plain _ _ _ _ h2, ih]
        rfl
theorem unE_lineL (l : List UInt8) : unE 36 [50, 52] (lineL l) = some l := unE_write lineB (fun _ => Or.inr rfl) l
theorem unE_escN (l : List UInt8) : unE 36 [50, 52] (escN l) = some l := by
  rw [escN_eq]
  exact unE_write escB (fun _ => Or.inl rfl) l
theorem escN_inj {l m : List UInt8} (h : escN l = escN m) : l = m := by
  have h1 := unE_escN l
  rw [h, unE_escN] at h1
  exact (Option.some.inj h1).symm
theorem noD_flat {g : UInt8 → List UInt8} (hg : ∀ b, (36 : UInt8) ∉ g b) (l : List UInt8) : (36 : UInt8) ∉ l.flatMap g := by
  intro h
  obtain ⟨b, _, hb⟩ := List.mem_flatMap.1 h
  exact hg b hb
theorem noD_line (l : List UInt8) : (36 : UInt8) ∉ lineL l := noD_flat (fun b => by
  unfold lineB
  split
  · decide
  split
  · decide
  · rename_i h _
    simpa using fun e => h e.symm) l
theorem noD_esc (l : List UInt8) : (36 : UInt8) ∉ escN l := by
  rw [escN_eq]
  exact noD_flat (fun b => by
    unfold escB
    split
    · decide
    split
    · decide
    · rename_i h _
      simpa using fun e => h e.symm) l
theorem lineL_nil (l : List UInt8) : lineL l = [] ↔ l = [] := by
  cases l with
  | nil => simp [lineL]
  | cons b r =>
    unfold lineL lineB
    rw [List.flatMap_cons]
    split
    · simp
    split <;> simp
theorem lineN_line (l : List UInt8) : lineN (lineL l) = if l = [] then none else some (escN (normalT l)) := by
  unfold lineN
  rw [unE_lineL]
  by_cases h : l = []
  · rw [if_pos ((lineL_nil l).2 h), if_pos h]
  · rw [if_neg (fun e => h ((lineL_nil l).1 e)), if_neg h]
    rfl

theorem asc_line : Asc lineB where
  high b h := by
    unfold lineB
    rw [if_neg (by intro e; subst e; simp at h), if_neg (by intro e; subst e; simp at h)]
  low b h := by
    unfold lineB
    split
    · exact ⟨by simp, by decide⟩
    split
    · exact ⟨by simp, by decide⟩
    · exact ⟨by simp, fun c hc => by rw [List.mem_singleton.1 hc]; exact h⟩
theorem asc_fold : Asc (fun b => [foldB b]) where
  high b h := by rw [foldB_same b (by omega)]
  low b h := by
    refine ⟨by simp, fun c hc => ?_⟩
    rw [List.mem_singleton.1 hc]
    by_cases hu : 65 ≤ (b.toNat : Int) ∧ (b.toNat : Int) ≤ 90
    · have := foldB_up b hu.1 hu.2
      omega
    · rw [foldB_same b hu]
      exact h
theorem okU_line (l r : List UInt8) (hr : AscHead r) : okU (lineL l ++ r) = (okU l && okU r) := okU_asc_map asc_line hr l.length l (Nat.le_refl _)
theorem okU_fold (l : List UInt8) : okU (fold l) = okU l := by
  have h := okU_asc_map asc_fold (r := []) (fun c hc => by simp at hc) l.length l (Nat.le_refl _)
  rw [List.append_nil] at h
  have e : fold l = l.flatMap fun b => [foldB b] := by
    unfold fold
    induction l with
    | nil => rfl
    | cons b r ih => rw [List.map_cons, List.flatMap_cons, ← List.map_eq_flatMap]; rfl
  rw [e, h]
  show (okU l && true) = _
  rw [Bool.and_true]
theorem foN_eq (l : List UInt8) : foN l = if l = [] then none else if okU l = true then some (normalT l) else none := by
  unfold foN exN
  rw [fold_length, utf_okU, okU_fold]
  by_cases h : l = []
  · subst h; rfl
  · rw [if_neg (fun e => h (List.eq_nil_of_length_eq_zero e)), if_neg h]
    rfl
theorem listN_line (a : List UInt8) : listN (lineL a) = (foN a).map escN := by
  have hu := okU_line a [] (fun c hc => by simp at hc)
  rw [List.append_nil] at hu
  unfold listN
  rw [utf_okU, hu, cutAt_no 36 _ (noD_line a), foN_eq]
  show (if (okU a && true) = true then _ else _) = _
  rw [Bool.and_true]
  show (if okU a = true then (((lineN (lineL a)).bind fun x => some [x])).map _ else none) = _
  rw [lineN_line]
  by_cases h : a = []
  · subst h; rfl
  · rw [if_neg h, if_neg h]
    by_cases h2 : okU a = true
    · rw [if_pos h2, if_pos h2]
      simp [Lib.join_one]
    · rw [if_neg h2, if_neg h2]; rfl
theorem listN_two (a r : List UInt8) (hr : (36 : UInt8) ∉ r) : listN (lineL a ++ 36 :: r) = if okU a = true ∧ okU r = true then (if a = [] then none else (lineN r).map fun y => escN (normalT a) ++ 36 :: y) else none := by
  have hu := okU_line a (36 :: r) (fun c hc => by simp at hc; subst hc; decide)
  rw [okU_asc 36 r (by decide)] at hu
  unfold listN
  rw [utf_okU, hu, cutAt_app 36 _ _ (noD_line a), cutAt_no 36 r hr]
  simp only [Bool.and_eq_true]
  by_cases h : okU a = true ∧ okU r = true
  · rw [if_pos h, if_pos h]
    show ((lineN (lineL a)).bind fun x => (((lineN r).bind fun y => some [y])).map (x :: ·)).map _ = _
    rw [lineN_line]
    by_cases h2 : a = []
    · rw [if_pos h2, if_pos h2]; rfl
    · rw [if_neg h2, if_neg h2]
      cases lineN r with
      | none => rfl
      | some y => simp [Lib.join, List.intercalate]
  · rw [if_neg h, if_neg h]
theorem listN_pair (a b x y : List UInt8) (ha : foN a = some x) (hb : foN b = some y) : listN (lineL a ++ 36 :: lineL b) = some (escN x ++ 36 :: escN y) := by
  rw [foN_eq] at ha hb
  have hu := okU_line b [] (fun c hc => by simp at hc)
  rw [List.append_nil] at hu
  have hu2 : okU (lineL b) = okU b := by rw [hu]; show (okU b && true) = _; rw [Bool.and_true]
  split at ha
  · cases ha
  split at ha
  · split at hb
    · cases hb
    split at hb
    · rename_i a0 a1 b0 b1
      cases ha; cases hb
      rw [listN_two a _ (noD_line b), if_pos ⟨a1, by rw [hu2]; exact b1⟩, if_neg a0, lineN_line, if_neg b0]
      rfl
    · cases hb
  · cases ha
theorem listN_bad (a : List UInt8) (ha : foN a = none) : listN (lineL a ++ [36, 120]) = none := by
  rw [foN_eq] at ha
  show listN (lineL a ++ 36 :: [120]) = none
  rw [listN_two a [120] (by decide)]
  split at ha
  · rename_i h
    rw [if_pos h]
    split <;> rfl
  · split at ha
    · cases ha
    · rename_i h
      rw [if_neg (fun e => h e.1)]
theorem pair_inj {x y z t : List UInt8} : escN x ++ 36 :: escN y = escN z ++ 36 :: escN t ↔ x = z ∧ y = t := by
  constructor
  · intro h
    have h1 := cutAt_app 36 (escN x) (escN y) (noD_esc x)
    rw [h, cutAt_app 36 (escN z) (escN t) (noD_esc z), cutAt_no 36 _ (noD_esc t), cutAt_no 36 _ (noD_esc y)] at h1
    injection h1 with h2 h3
    injection h3 with h4 _
    exact ⟨(escN_inj h2).symm, (escN_inj h4).symm⟩
  · rintro ⟨rfl, rfl⟩; rfl
theorem pair_one (x y z : List UInt8) : escN x ++ 36 :: escN y ≠ escN z := by
  intro h
  exact noD_esc z (h ▸ by simp)

theorem k1 : eqT (listN [65, 36, 98, 92, 50, 52]) (listN [97, 36, 32, 66, 92, 50, 52]) = 2 := by decide +kernel
theorem k2 : eqT (listN [97, 36, 98]) (listN [97, 92, 50, 52, 98]) = 0 := by decide +kernel
theorem k3 : eqT (listN [97]) (listN [97, 36]) = 1 := by decide +kernel
theorem k4 : (listN [120]).isSome = true := by decide +kernel
end Go.Proofs.YtmgfikfcnhhnhaaDoor
