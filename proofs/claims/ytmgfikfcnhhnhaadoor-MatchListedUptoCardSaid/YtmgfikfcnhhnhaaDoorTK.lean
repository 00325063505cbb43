/- match.list in plain Lean: the normal form of a list of lines. -/
import Derived.Test.YtmgfikfcnhhnhaaDoorT8
import Derived.Test.YtmgfikfcnhhnhaaDoorT9
import Derived.Test.YtmgfikfcnhhnhaaDoorTI
import Derived.Test.YtmgfikfcnhhnhaaDoorTJ
import Derived.Lib.Replace
import Derived.Lib.Join
namespace Go.Proofs.YtmgfikfcnhhnhaaDoor

def repl (c : UInt8) (n : List UInt8) (l : List UInt8) : List UInt8 := l.flatMap fun b => if b = c then n else [b]
theorem repl_cons (c : UInt8) (n : List UInt8) (b : UInt8) (r : List UInt8) : repl c n (b :: r) = (if b = c then n else [b]) ++ repl c n r := by
  unfold repl
  rw [List.flatMap_cons]
theorem repl_no (c : UInt8) (n : List UInt8) : ∀ l : List UInt8, l.count c = 0 → repl c n l = l := by
  intro l
  induction l with
  | nil => intro _; rfl
  | cons b r ih =>
    intro h
    have hb : b ≠ c := by
      intro e
      subst e
      simp at h
    rw [List.count_cons_of_ne hb] at h
    rw [repl_cons, if_neg hb, ih h]
    rfl
theorem replaceK_repl (c : UInt8) (n : List UInt8) : ∀ l : List UInt8, Lib.replaceK [c] n (l.count c) l = repl c n l := by
  intro l
  induction l with
  | nil => rfl
  | cons b r ih =>
    rw [repl_cons]
    by_cases hb : b = c
    · subst hb
      rw [if_pos rfl, List.count_cons_self]
      have hi : Lib.index (b :: r) [b] = ((0 : Nat) : Int) := by rw [index_cons]; simp
      rw [Lib.replaceK_hit [b] n _ _ 0 hi]
      simp [ih]
    · rw [if_neg hb, List.count_cons_of_ne hb]
      rcases hk : r.count c with _ | k
      · rw [repl_no c n r hk]
        rfl
      · have hne : Lib.index r [c] ≠ -1 := fun e => by have := (index_count c r).1 e; omega
        have hge := index_ge r c
        obtain ⟨i, hi⟩ := Int.eq_ofNat_of_zero_le (show 0 ≤ Lib.index r [c] by omega)
        have hi2 : Lib.index (b :: r) [c] = ((i + 1 : Nat) : Int) := by
          rw [index_cons, if_neg (by simpa using hb), if_neg (by simpa using hne), hi]
          omega
        rw [hk, Lib.replaceK_hit [c] n k r i hi] at ih
        rw [Lib.replaceK_hit [c] n k (b :: r) (i + 1) hi2, ← ih]
        simp
theorem replaceAll_one (c : UInt8) (n : List UInt8) (hn : [c] ≠ n) (s : ByteArray) : Lib.replaceAll s.data.toList [c] n = repl c n s.data.toList := by
  unfold Lib.replaceAll Lib.replace
  rw [if_neg (by simpa using hn)]
  unfold Lib.replaceNum
  rw [if_pos (Or.inl (by omega))]
  have := countB_one c s
  unfold Lib.countB at this
  rw [show Lib.count s.data.toList [c] = s.data.toList.count c from this]
  exact replaceK_repl c n _
theorem repl_length (c : UInt8) (n : List UInt8) (hn : n.length = 3) : ∀ l : List UInt8, (repl c n l).length ≤ 3 * l.length := by
  intro l
  induction l with
  | nil => simp [repl]
  | cons b r ih =>
    rw [repl_cons, List.length_append, List.length_cons]
    split <;> simp [hn] <;> omega

def escN (l : List UInt8) : List UInt8 := repl 36 [92, 50, 52] (repl 92 [92, 53, 99] l)
theorem escN_length (l : List UInt8) : (escN l).length ≤ 9 * l.length := by
  have h1 := repl_length 36 [92, 50, 52] rfl (repl 92 [92, 53, 99] l)
  have h2 := repl_length 92 [92, 53, 99] rfl l
  unfold escN
  omega
theorem cutFront_length (l : List UInt8) : (cutFront l).length ≤ l.length := by
  unfold cutFront
  split
  · split <;> simp
  · simp
theorem cutBack_length (l : List UInt8) : (cutBack l).length ≤ l.length := by
  unfold cutBack
  split
  · simp
  · exact Nat.le_refl _
theorem normalT_length (l : List UInt8) : (normalT l).length ≤ l.length := by
  unfold normalT squeeze
  have h1 := cutBack_length (cutFront (collapse (fold l)))
  have h2 := cutFront_length (collapse (fold l))
  have h3 := collapse_length (fold l)
  rw [fold_length] at h3
  omega
theorem unE_length (m : UInt8) (code : List UInt8) : ∀ (n : Nat) (l o : List UInt8), l.length ≤ n → unE m code l = some o → o.length ≤ l.length := by
  intro n
  induction n with
  | zero =>
    intro l o h e
    obtain rfl := List.eq_nil_of_length_eq_zero (Nat.le_zero.1 h)
    simp [unE] at e
    subst e
    simp
  | succ n ih =>
    intro l o h e
    cases l with
    | nil => simp [unE] at e; subst e; simp
    | cons b r =>
      rw [List.length_cons] at h ⊢
      by_cases hb : b = 92
      · subst hb
        match r, h with
        | [], _ => rw [unE_short _ _ _ (by simp)] at e; cases e
        | [x], _ => rw [unE_short _ _ _ (by simp)] at e; cases e
        | x :: y :: r2, h =>
          rw [unE_esc] at e
          simp only [List.length_cons] at h ⊢
          split at e
          · obtain ⟨o2, h2, rfl⟩ := Option.map_eq_some_iff.1 e
            have := ih r2 o2 (by omega) h2
            simp
            omega
          · split at e
            · obtain ⟨o2, h2, rfl⟩ := Option.map_eq_some_iff.1 e
              have := ih r2 o2 (by omega) h2
              simp
              omega
            · cases e
      · rw [unE_plain _ _ _ _ hb] at e
        obtain ⟨o2, h2, rfl⟩ := Option.map_eq_some_iff.1 e
        have := ih r o2 (by omega) h2
        simp
        omega

/-- A line's normal form. -/
def lineN (l : List UInt8) : Option (List UInt8) := if l = [] then none else (unE 36 [50, 52] l).map fun m => escN (normalT m)
def linesN : List (List UInt8) → Option (List (List UInt8))
  | [] => some []
  | l :: r => (lineN l).bind fun x => (linesN r).map (x :: ·)
def listN (v : List UInt8) : Option (List UInt8) := if (utfBad v).isNone = true then (linesN (cutAt 36 v)).map fun xs => Lib.join xs [36] else none
def tot (l : List (List UInt8)) : Nat := (l.map List.length).sum
theorem tot_cons (x : List UInt8) (l : List (List UInt8)) : tot (x :: l) = x.length + tot l := by simp [tot]
theorem lineN_length (l o : List UInt8) (h : lineN l = some o) : o.length ≤ 9 * l.length := by
  unfold lineN at h
  split at h
  · cases h
  · obtain ⟨m, h2, rfl⟩ := Option.map_eq_some_iff.1 h
    have h3 := unE_length _ _ _ l m (Nat.le_refl _) h2
    have h4 := escN_length (normalT m)
    have h5 := normalT_length m
    omega
theorem linesN_tot : ∀ (ls xs : List (List UInt8)), linesN ls = some xs → tot xs ≤ 9 * tot ls ∧ xs.length = ls.length := by
  intro ls
  induction ls with
  | nil => intro xs h; simp [linesN] at h; subst h; simp [tot]
  | cons l r ih =>
    intro xs h
    unfold linesN at h
    obtain ⟨x, hx, h2⟩ := Option.bind_eq_some_iff.1 h
    obtain ⟨ys, hy, rfl⟩ := Option.map_eq_some_iff.1 h2
    have := lineN_length l x hx
    have := ih ys hy
    rw [tot_cons, tot_cons, List.length_cons, List.length_cons]
    omega
theorem cutAt_tot (c : UInt8) : ∀ l : List UInt8, tot (cutAt c l) ≤ l.length := by
  intro l
  induction l with
  | nil => simp [cutAt, tot]
  | cons b r ih =>
    by_cases hb : b = c
    · subst hb
      have : cutAt b (b :: r) = [] :: cutAt b r := by simp [cutAt]
      rw [this, tot_cons, List.length_cons]
      simp
      omega
    · rcases hr : cutAt c r with _ | ⟨h, t⟩
      · have := cutAt_length c r
        rw [hr] at this
        simp at this
      · rw [cutAt_ne c b r h t hb hr, tot_cons, List.length_cons]
        rw [hr, tot_cons] at ih
        simp
        omega
theorem join_length : ∀ xs : List (List UInt8), (Lib.join xs [36]).length ≤ tot xs + xs.length := by
  intro xs
  induction xs with
  | nil => simp [Lib.join_nil]
  | cons x r ih =>
    cases r with
    | nil => rw [Lib.join_one, tot_cons]; omega
    | cons y s =>
      have e : Lib.join (x :: y :: s) [36] = x ++ ([36] ++ Lib.join (y :: s) [36]) := by simp [Lib.join, List.intercalate]
      rw [e, tot_cons, List.length_append, List.length_append]
      simp only [List.length_cons, List.length_nil] at ih ⊢
      omega
end Go.Proofs.YtmgfikfcnhhnhaaDoor
