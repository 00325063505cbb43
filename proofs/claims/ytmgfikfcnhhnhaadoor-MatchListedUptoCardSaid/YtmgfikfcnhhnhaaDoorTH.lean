/- UTF-8 in plain Lean: a text whose bytes below 128 are replaced by such bytes is UTF-8 just if it was. -/
import Derived.Test.YtmgfikfcnhhnhaaDoorT7
namespace Go.Proofs.YtmgfikfcnhhnhaaDoor

theorem seqI_asc (b : UInt8) (r : List UInt8) (h : b.toNat < 128) : seqI (b :: r) = 1 := by
  unfold seqI
  have e : gI (b :: r) 0 = (b.toNat : Int) := rfl
  have m : missI (b.toNat : Int) = ⟨0, 128, 191, true⟩ := by
    unfold missI
    rw [if_pos (by omega)]
  rw [e, m]
  simp
  omega
theorem missI_lo (c : Int) : 128 ≤ (missI c).lo := by
  unfold missI
  repeat' split
  all_goals simp
theorem gI_tail (b : UInt8) (t : List UInt8) (j : Nat) : gI (b :: t) (j + 1) = gI t j := rfl
theorem gI_eq {t u : List UInt8} {j : Nat} (h : u[j]? = t[j]?) : gI u j = gI t j := by
  unfold gI
  rw [List.getD, List.getD, h]

/-- What a sequence of more than one byte says of the bytes behind the first; and it is read from these alone. -/
theorem seqI_look (b : UInt8) (t : List UInt8) (h : 0 < seqI (b :: t)) :
    (∀ j : Nat, (j : Int) + 1 < seqI (b :: t) → ∃ c, t[j]? = some c ∧ 128 ≤ c.toNat) ∧ (∀ u : List UInt8, (∀ j : Nat, (j : Int) + 1 < seqI (b :: t) → u[j]? = t[j]?) → seqI (b :: u) = seqI (b :: t)) := by
  have e0 : ∀ u, gI (b :: u) 0 = (b.toNat : Int) := fun _ => rfl
  have h3 := missI_n (b.toNat : Int)
  have hlo := missI_lo (b.toNat : Int)
  unfold seqI at h ⊢
  simp only [e0] at h ⊢
  generalize missI (b.toNat : Int) = m at h h3 hlo ⊢
  obtain ⟨n, lo, hi, ok⟩ := m
  simp only at h h3 hlo ⊢
  rw [show gI (b :: t) 1 = gI t 0 from rfl, show gI (b :: t) 2 = gI t 1 from rfl, show gI (b :: t) 3 = gI t 2 from rfl] at h ⊢
  by_cases k0 : ok = false ∨ ((b :: t).length : Int) < n + 1
  · rw [if_pos k0] at h
    omega
  rw [if_neg k0] at h ⊢
  by_cases k1 : n = 3 ∧ goesI (gI t 2) = false
  · rw [if_pos k1] at h
    omega
  rw [if_neg k1] at h ⊢
  by_cases k2 : 2 ≤ n ∧ goesI (gI t 1) = false
  · rw [if_pos k2] at h
    omega
  rw [if_neg k2] at h ⊢
  by_cases k3 : 1 ≤ n ∧ (gI t 0 < lo ∨ hi < gI t 0)
  · rw [if_pos k3] at h
    omega
  rw [if_neg k3] at h ⊢
  rw [List.length_cons] at k0
  have hl : ok = true ∧ n ≤ t.length := ⟨by cases ok <;> simp_all, by omega⟩
  have big : ∀ j : Nat, (j : Int) + 1 < n + 1 → 128 ≤ gI t j := by
    intro j hj
    have hg : ∀ c, goesI c = true → 128 ≤ c := fun c hc => by
      unfold goesI at hc
      simp at hc
      exact hc.1
    match j, hj with
    | 0, hj => omega
    | 1, hj =>
      refine hg _ ?_
      cases hx : goesI (gI t 1) with
      | true => rfl
      | false => exact absurd ⟨by omega, hx⟩ k2
    | 2, hj =>
      refine hg _ ?_
      cases hx : goesI (gI t 2) with
      | true => rfl
      | false => exact absurd ⟨by omega, hx⟩ k1
    | j + 3, hj => omega
  refine ⟨fun j hj => ?_, fun u hu => ?_⟩
  · have hb := big j hj
    have hj2 : j < t.length := by omega
    refine ⟨t[j], List.getElem?_eq_getElem hj2, ?_⟩
    unfold gI at hb
    rw [List.getD, List.getElem?_eq_getElem hj2] at hb
    simp at hb
    omega
  · have hul : n ≤ u.length := by
      by_cases hn : n = 0
      · omega
      · have hx := hu (n.toNat - 1) (by omega)
        rw [List.getElem?_eq_getElem (l := t) (by omega)] at hx
        have := (List.getElem?_eq_some_iff.1 hx).1
        omega
    rw [show gI (b :: u) 1 = gI u 0 from rfl, show gI (b :: u) 2 = gI u 1 from rfl, show gI (b :: u) 3 = gI u 2 from rfl]
    rw [if_neg (by rw [List.length_cons]; rw [hl.1]; simp; omega)]
    rw [if_neg (fun hc => k1 ⟨hc.1, by rw [← gI_eq (hu 2 (by omega))]; exact hc.2⟩)]
    rw [if_neg (fun hc => k2 ⟨hc.1, by rw [← gI_eq (hu 1 (by omega))]; exact hc.2⟩)]
    rw [if_neg (fun hc => k3 ⟨hc.1, by rw [← gI_eq (hu 0 (by omega))]; exact hc.2⟩)]

/-- The same as utfBad, from the front. -/
def okF : Nat → List UInt8 → Bool
  | 0, _ => true
  | f + 1, l => if l = [] then true else if seqI l = 0 then false else okF f (l.drop (seqI l).toNat)
theorem okF_of (s : List UInt8) : ∀ f i, (utfAt s f i).isNone = okF f (s.drop i) := by
  intro f
  induction f with
  | zero => intro i; rfl
  | succ f ih =>
    intro i
    rw [utfAt_succ]
    by_cases hi : i < s.length
    · rw [if_pos hi]
      have hne : s.drop i ≠ [] := by
        intro h
        have := congrArg List.length h
        rw [List.length_drop] at this
        simp at this
        omega
      unfold okF
      rw [if_neg hne]
      by_cases h0 : seqI (s.drop i) = 0
      · rw [if_pos h0, if_pos h0]; rfl
      · rw [if_neg h0, if_neg h0, ih, List.drop_drop]
    · rw [if_neg hi, List.drop_eq_nil_of_le (by omega)]
      rfl
theorem okF_more : ∀ f l, l.length ≤ f → ∀ g, l.length ≤ g → okF f l = okF g l := by
  intro f
  induction f with
  | zero =>
    intro l h g _
    obtain rfl := List.eq_nil_of_length_eq_zero (Nat.le_zero.1 h)
    cases g <;> rfl
  | succ f ih =>
    intro l h g hg
    by_cases hn : l = []
    · subst hn
      cases g <;> rfl
    · have hp := List.length_pos_iff.2 hn
      obtain ⟨g, rfl⟩ : ∃ m, g = m + 1 := ⟨g - 1, by omega⟩
      unfold okF
      rw [if_neg hn, if_neg hn]
      by_cases h0 : seqI l = 0
      · rw [if_pos h0, if_pos h0]
      · rw [if_neg h0, if_neg h0]
        have := seqI_le l
        exact ih _ (by rw [List.length_drop]; omega) _ (by rw [List.length_drop]; omega)
def okU (l : List UInt8) : Bool := okF l.length l
theorem utf_okU (l : List UInt8) : (utfBad l).isNone = okU l := by
  unfold utfBad okU
  rw [okF_of, List.drop_zero]
  exact okF_more _ _ (Nat.le_succ _) _ (Nat.le_refl _)
theorem okU_step (l : List UInt8) (hn : l ≠ []) : okU l = if seqI l = 0 then false else okU (l.drop (seqI l).toNat) := by
  have hp := List.length_pos_iff.2 hn
  have hle := seqI_le l
  unfold okU
  obtain ⟨f, hf⟩ : ∃ m, l.length = m + 1 := ⟨l.length - 1, by omega⟩
  rw [hf]
  conv => lhs; unfold okF
  rw [if_neg hn]
  by_cases h0 : seqI l = 0
  · rw [if_pos h0, if_pos h0]
  · rw [if_neg h0, if_neg h0]
    exact okF_more _ _ (by rw [List.length_drop]; omega) _ (Nat.le_refl _)
theorem okU_asc (b : UInt8) (r : List UInt8) (h : b.toNat < 128) : okU (b :: r) = okU r := by
  rw [okU_step _ (by simp), seqI_asc b r h]
  rfl
theorem okU_ascs (a r : List UInt8) (h : ∀ b ∈ a, b.toNat < 128) : okU (a ++ r) = okU r := by
  induction a with
  | nil => rfl
  | cons b t ih => rw [List.cons_append, okU_asc _ _ (h b (by simp)), ih (fun c hc => h c (by simp [hc]))]

/-- What replaces bytes below 128 by such bytes, and leaves the others. -/
structure Asc (g : UInt8 → List UInt8) : Prop where
  high : ∀ b, 128 ≤ b.toNat → g b = [b]
  low : ∀ b, b.toNat < 128 → g b ≠ [] ∧ ∀ c ∈ g b, c.toNat < 128
def AscHead (r : List UInt8) : Prop := ∀ c, r[0]? = some c → c.toNat < 128

/-- A place of the replaced text, so long as the bytes are high. -/
theorem asc_look {g : UInt8 → List UInt8} (hg : Asc g) {r : List UInt8} (hr : AscHead r) : ∀ (k : Nat) (t : List UInt8),
    ((∀ j, j < k → ∃ c, t[j]? = some c ∧ 128 ≤ c.toNat) ∨ (∀ j, j < k → ∃ c, (t.flatMap g ++ r)[j]? = some c ∧ 128 ≤ c.toNat)) →
    (∀ j, j < k → (t.flatMap g ++ r)[j]? = t[j]?) ∧ (t.flatMap g ++ r).drop k = (t.drop k).flatMap g ++ r := by
  intro k
  induction k with
  | zero => intro t _; exact ⟨fun j hj => by omega, rfl⟩
  | succ k ih =>
    intro t h
    cases t with
    | nil =>
      exfalso
      rcases h with h | h
      · obtain ⟨c, hc, _⟩ := h 0 (by omega)
        simp at hc
      · obtain ⟨c, hc, h2⟩ := h 0 (by omega)
        have := hr c (by simpa using hc)
        omega
    | cons b t =>
      have hb : 128 ≤ b.toNat := by
        rcases Nat.lt_or_ge b.toNat 128 with hlt | hge
        · exfalso
          rcases h with h | h
          · obtain ⟨c, hc, h2⟩ := h 0 (by omega)
            simp at hc
            subst hc
            omega
          · obtain ⟨c, hc, h2⟩ := h 0 (by omega)
            obtain ⟨hne, hall⟩ := hg.low b hlt
            rw [List.flatMap_cons] at hc
            cases hgb : g b with
            | nil => exact hne hgb
            | cons x y =>
              rw [hgb] at hc
              simp at hc
              subst hc
              have := hall x (by rw [hgb]; simp)
              omega
        · exact hge
      have e : (b :: t).flatMap g ++ r = b :: (t.flatMap g ++ r) := by
        rw [List.flatMap_cons, hg.high b hb]
        rfl
      rw [e] at h ⊢
      obtain ⟨i1, i2⟩ := ih t (h.imp (fun h j hj => by simpa using h (j + 1) (by omega)) (fun h j hj => by simpa using h (j + 1) (by omega)))
      refine ⟨fun j hj => ?_, by simpa using i2⟩
      cases j with
      | zero => rfl
      | succ j => simpa using i1 j (by omega)

theorem okU_asc_map {g : UInt8 → List UInt8} (hg : Asc g) {r : List UInt8} (hr : AscHead r) : ∀ (n : Nat) (v : List UInt8), v.length ≤ n → okU (v.flatMap g ++ r) = (okU v && okU r) := by
  intro n
  induction n with
  | zero =>
    intro v h
    obtain rfl := List.eq_nil_of_length_eq_zero (Nat.le_zero.1 h)
    rfl
  | succ n ih =>
    intro v h
    cases v with
    | nil => rfl
    | cons b t =>
      rw [List.length_cons] at h
      rcases Nat.lt_or_ge b.toNat 128 with hlt | hge
      · obtain ⟨_, hall⟩ := hg.low b hlt
        rw [List.flatMap_cons, List.append_assoc, okU_ascs _ _ hall, okU_asc _ _ hlt]
        exact ih t (by omega)
      · have e : (b :: t).flatMap g ++ r = b :: (t.flatMap g ++ r) := by
          rw [List.flatMap_cons, hg.high b hge]
          rfl
        rw [e, okU_step (b :: t) (by simp), okU_step (b :: (t.flatMap g ++ r)) (by simp)]
        have le1 := seqI_le (b :: t)
        have le2 := seqI_le (b :: (t.flatMap g ++ r))
        by_cases h0 : seqI (b :: t) = 0
        · rw [if_pos h0]
          by_cases h1 : seqI (b :: (t.flatMap g ++ r)) = 0
          · rw [if_pos h1]; rfl
          · exfalso
            obtain ⟨l1, l2⟩ := seqI_look b (t.flatMap g ++ r) (by omega)
            obtain ⟨i1, _⟩ := asc_look hg hr ((seqI (b :: (t.flatMap g ++ r))).toNat - 1) t (Or.inr fun j hj => l1 j (by omega))
            have := l2 t (fun j hj => (i1 j (by omega)).symm)
            omega
        · obtain ⟨l1, l2⟩ := seqI_look b t (by omega)
          obtain ⟨i1, i2⟩ := asc_look hg hr ((seqI (b :: t)).toNat - 1) t (Or.inl fun j hj => l1 j (by omega))
          have hs := l2 (t.flatMap g ++ r) (fun j hj => i1 j (by omega))
          rw [hs, if_neg h0, if_neg h0]
          obtain ⟨q, hq⟩ : ∃ m, (seqI (b :: t)).toNat = m + 1 := ⟨(seqI (b :: t)).toNat - 1, by omega⟩
          rw [hq] at i2 ⊢
          rw [Nat.add_sub_cancel] at i2
          rw [List.drop_succ_cons, List.drop_succ_cons, i2]
          exact ih (t.drop q) (by rw [List.length_drop]; omega)
end Go.Proofs.YtmgfikfcnhhnhaaDoor
