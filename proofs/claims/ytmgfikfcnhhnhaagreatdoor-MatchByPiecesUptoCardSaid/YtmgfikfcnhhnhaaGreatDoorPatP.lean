/- A pattern's text in plain Lean: what pattern reads, and that it reads back what starred wrote. -/
import Derived.Test.YtmgfikfcnhhnhaaGreatDoorT8
import Derived.Test.YtmgfikfcnhhnhaaGreatDoorTJ
namespace Go.Proofs.YtmgfikfcnhhnhaaGreatDoor

/-- A byte of a piece, as it stands in a pattern's text. -/
def starB (b : UInt8) : List UInt8 := if b = 42 then [92, 50, 97] else if b = 92 then [92, 53, 67] else [b]
def starL (l : List UInt8) : List UInt8 := l.flatMap starB
theorem starL_cons (b : UInt8) (r : List UInt8) : starL (b :: r) = starB b ++ starL r := by unfold starL; rw [List.flatMap_cons]
theorem starL_succ (s : ByteArray) (k : Nat) (h : k < s.size) : starL (s.data.toList.take (k + 1)) = starL (s.data.toList.take k) ++ starB s[k] := by
  rw [List.take_succ_eq_append_getElem (by rw [dlen]; exact h)]
  unfold starL
  rw [List.flatMap_append]
  simp
  rfl
theorem starB_length (b : UInt8) : (starB b).length ≤ 3 := by
  unfold starB
  split
  · simp
  split
  · simp
  · simp
theorem starL_length (l : List UInt8) : (starL l).length ≤ 3 * l.length := by
  induction l with
  | nil => simp [starL]
  | cons b t ih =>
    have := starB_length b
    rw [starL_cons, List.length_append, List.length_cons]
    omega
theorem starB_no (b : UInt8) : (42 : UInt8) ∉ starB b := by
  unfold starB
  split
  · decide
  split
  · decide
  · rename_i h _
    simp
    exact fun e => h e.symm
theorem starL_no (l : List UInt8) : (42 : UInt8) ∉ starL l := by
  induction l with
  | nil => simp [starL]
  | cons b t ih =>
    rw [starL_cons, List.mem_append]
    rintro (h | h)
    · exact starB_no b h
    · exact ih h
theorem unE_starL (l : List UInt8) : unE 42 [50, 97] (starL l) = some l := by
  induction l with
  | nil => simp [starL, unE]
  | cons b t ih =>
    rw [starL_cons]
    unfold starB
    split
    · rename_i h
      subst h
      show unE 42 [50, 97] (92 :: 50 :: 97 :: starL t) = _
      rw [unE_esc, if_pos (by decide), ih]
      rfl
    · split
      · rename_i h
        subst h
        show unE 42 [50, 97] (92 :: 53 :: 67 :: starL t) = _
        rw [unE_esc, if_neg (by decide), if_pos (by decide), ih]
        rfl
      · rename_i h1 h2
        show unE 42 [50, 97] (b :: starL t) = _
        rw [unE_plain _ _ _ _ h2, ih]
        rfl
theorem starL_nil {l : List UInt8} (h : starL l = []) : l = [] := by
  have := unE_starL l
  rw [h] at this
  simp [unE] at this
  exact this

/-- A pattern's text up to its last star, and whole. -/
def frontL (i : List UInt8) (any : List (List UInt8)) : List UInt8 := starL i ++ any.flatMap fun a => 42 :: starL a
def textL (i : List UInt8) (any : List (List UInt8)) (f : List UInt8) : List UInt8 := frontL i any ++ 42 :: starL f
theorem frontL_snoc (i : List UInt8) (any : List (List UInt8)) (a : List UInt8) : frontL i (any ++ [a]) = frontL i any ++ 42 :: starL a := by
  unfold frontL
  rw [List.flatMap_append, ← List.append_assoc]
  simp
theorem frontL_nil (i : List UInt8) : frontL i [] = starL i := by simp [frontL]
theorem cut_text (f : List UInt8) : ∀ (any : List (List UInt8)) (i : List UInt8), cutAt 42 (textL i any f) = starL i :: (any.map starL ++ [starL f]) := by
  intro any
  induction any with
  | nil =>
    intro i
    unfold textL
    rw [frontL_nil, cutAt_app _ _ _ (starL_no i), cutAt_no _ _ (starL_no f)]
    rfl
  | cons a r ih =>
    intro i
    have h : textL i (a :: r) f = starL i ++ 42 :: textL a r f := by
      unfold textL frontL
      rw [List.flatMap_cons]
      simp
    rw [h, cutAt_app _ _ _ (starL_no i), ih]
    rfl

/-- What the loop of pattern makes of the pieces behind the first i; n is the last one's number. -/
def unAll (n : Nat) : Nat → List (List UInt8) → Option (List (List UInt8))
  | _, [] => some []
  | i, p :: r => if p = [] ∧ 0 < i ∧ i < n then none else (unE 42 [50, 97] p).bind fun m => (unAll n (i + 1) r).map (m :: ·)
theorem unAll_nil (n i : Nat) : unAll n i [] = some [] := rfl
theorem unAll_cons (n i : Nat) (p : List UInt8) (r : List (List UInt8)) : unAll n i (p :: r) = if p = [] ∧ 0 < i ∧ i < n then none else (unE 42 [50, 97] p).bind fun m => (unAll n (i + 1) r).map (m :: ·) := rfl
theorem unAll_length (n : Nat) : ∀ (ps us : List (List UInt8)) (i : Nat), unAll n i ps = some us → us.length = ps.length := by
  intro ps
  induction ps with
  | nil => intro us i h; simp [unAll] at h; subst h; rfl
  | cons p r ih =>
    intro us i h
    rw [unAll_cons] at h
    split at h
    · cases h
    · obtain ⟨m, _, h2⟩ := Option.bind_eq_some_iff.1 h
      obtain ⟨ys, hy, rfl⟩ := Option.map_eq_some_iff.1 h2
      simp [ih ys _ hy]
theorem unAll_star (n : Nat) : ∀ (any : List (List UInt8)) (i : Nat) (f : List UInt8), (∀ a ∈ any, a ≠ []) → n ≤ i + any.length → unAll n i (any.map starL ++ [starL f]) = some (any ++ [f]) := by
  intro any
  induction any with
  | nil =>
    intro i f _ hn
    show unAll n i [starL f] = _
    rw [unAll_cons, if_neg (by simp at hn; omega), unE_starL]
    rfl
  | cons a r ih =>
    intro i f h hn
    show unAll n i (starL a :: (r.map starL ++ [starL f])) = _
    rw [unAll_cons, if_neg (fun hh => h a (by simp) (starL_nil hh.1)), unE_starL, Option.bind_some, ih (i + 1) f (fun x hx => h x (by simp [hx])) (by simp at hn ⊢; omega)]
    rfl

abbrev Pat := List UInt8 × List (List UInt8) × List UInt8
/-- The first, those between, the last. -/
def ends : List (List UInt8) → Option Pat
  | x :: y :: r => some (x, (y :: r).dropLast, (y :: r).getLast (by simp))
  | _ => none
theorem ends_of (x : List UInt8) (m : List (List UInt8)) (z : List UInt8) : ends (x :: (m ++ [z])) = some (x, m, z) := by
  cases m with
  | nil => rfl
  | cons a r =>
    have h1 : (a :: (r ++ [z])).dropLast = a :: r := by rw [show a :: (r ++ [z]) = (a :: r) ++ [z] from rfl, List.dropLast_concat]
    have h2 : (a :: (r ++ [z])).getLast (by simp) = z := List.getLast_concat (l := a :: r) (a := z)
    show some (x, (a :: (r ++ [z])).dropLast, (a :: (r ++ [z])).getLast (by simp)) = _
    rw [h1, h2]
theorem ends_some : ∀ us : List (List UInt8), 2 ≤ us.length → ∃ x m z, us = x :: (m ++ [z]) := by
  intro us h
  match us, h with
  | x :: y :: r, _ => exact ⟨x, (y :: r).dropLast, (y :: r).getLast (by simp), by rw [List.dropLast_concat_getLast]⟩
/-- What pattern reads. -/
def patN (s : List UInt8) : Option Pat := (unAll ((cutAt 42 s).length - 1) 0 (cutAt 42 s)).bind fun us => if us = [[], []] then none else ends us
theorem patN_text (i : List UInt8) (any : List (List UInt8)) (f : List UInt8) (h : ∀ a ∈ any, a ≠ []) : patN (textL i any f) = if i = [] ∧ any = [] ∧ f = [] then none else some (i, any, f) := by
  have hu : unAll ((cutAt 42 (textL i any f)).length - 1) 0 (cutAt 42 (textL i any f)) = some (i :: (any ++ [f])) := by
    rw [cut_text]
    have hl : (starL i :: (any.map starL ++ [starL f])).length - 1 = any.length + 1 := by simp
    rw [hl, unAll_cons, if_neg (by omega), unE_starL, Option.bind_some, unAll_star (any.length + 1) any 1 f h (by omega)]
    rfl
  unfold patN
  rw [hu, Option.bind_some, ends_of]
  by_cases he : i :: (any ++ [f]) = [[], []]
  · rw [if_pos he]
    rw [if_pos]
    cases any with
    | nil => simpa using he
    | cons a r =>
      have := congrArg List.length he
      simp at this
  · rw [if_neg he, if_neg]
    rintro ⟨rfl, rfl, rfl⟩
    exact he rfl
theorem patN_a : patN [97] = none := by decide
theorem patN_1 : patN [49] = none := by decide
theorem patN_12 : patN [49, 42, 42, 50] = none := by decide
theorem patN_last : patN [42, 92, 50, 65, 92, 53, 99] = some ([], [], [42, 92]) := by decide
end Go.Proofs.YtmgfikfcnhhnhaaGreatDoor
