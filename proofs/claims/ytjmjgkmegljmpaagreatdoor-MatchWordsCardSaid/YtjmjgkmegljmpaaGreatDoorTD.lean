/- The rule of words in plain Lean: what ByRule answers of the law's values. -/
import Derived.Test.YtjmjgkmegljmpaaGreatDoorTB
import Derived.Test.YtjmjgkmegljmpaaGreatDoorTC
namespace Go.Proofs.YtjmjgkmegljmpaaGreatDoor

def Low (l : List UInt8) : Prop := ∀ b ∈ l, 97 ≤ b.toNat ∧ b.toNat ≤ 122
theorem low_labB (b : UInt8) : 97 ≤ (labB b).toNat ∧ (labB b).toNat ≤ 122 := by
  unfold labB
  rw [UInt8.toNat_add, UInt8.toNat_mod]
  simp
  omega
theorem low_lab (l : List UInt8) : Low (lab l) := by
  intro b hb
  unfold lab at hb
  rcases List.mem_cons.1 hb with rfl | hb
  · decide
  · obtain ⟨c, _, rfl⟩ := List.mem_map.1 hb
    exact low_labB c
theorem low_app {l m : List UInt8} (h1 : Low l) (h2 : Low m) : Low (l ++ m) := by
  intro b hb
  rcases List.mem_append.1 hb with h | h
  · exact h1 b h
  · exact h2 b h
theorem low_blank (b : UInt8) (h : 97 ≤ b.toNat ∧ b.toNat ≤ 122) : blankB b = false := by
  unfold blankB
  rw [Bool.eq_false_iff]
  simp [← UInt8.toNat_inj, UInt8.le_iff_toNat_le]
  omega
theorem low_fold (b : UInt8) (h : 97 ≤ b.toNat ∧ b.toNat ≤ 122) : foldB b = b := foldB_same b (by omega)
theorem low_swap (b : UInt8) (h : 97 ≤ b.toNat ∧ b.toNat ≤ 122) : foldB (swapB b) = b := by
  have h1 := swapB_low b (by omega) (by omega)
  rw [← UInt8.toNat_inj]
  have h2 := foldB_up (swapB b) (by omega) (by omega)
  omega
theorem fold_low {l : List UInt8} (h : Low l) : fold l = l := by
  unfold fold
  conv => rhs; rw [← List.map_id l]
  exact List.map_congr_left fun b hb => low_fold b (h b hb)
theorem fold_swap {l : List UInt8} (h : Low l) : fold (swap l) = l := by
  unfold fold swap
  rw [List.map_map]
  conv => rhs; rw [← List.map_id l]
  exact List.map_congr_left fun b hb => low_swap b (h b hb)
theorem fold_app (l m : List UInt8) : fold (l ++ m) = fold l ++ fold m := by simp [fold]
theorem fold_cons (b : UInt8) (l : List UInt8) : fold (b :: l) = foldB b :: fold l := rfl

theorem seqI_ascii (b : UInt8) (r : List UInt8) (h : b.toNat < 128) : seqI (b :: r) = 1 := by
  unfold seqI
  have e : gI (b :: r) 0 = (b.toNat : Int) := rfl
  have m : missI (b.toNat : Int) = ⟨0, 128, 191, true⟩ := by
    unfold missI
    rw [if_pos (by omega)]
  rw [e, m]
  simp
  omega
theorem utf_ascii (l : List UInt8) (h : ∀ b ∈ l, b.toNat < 128) : ∀ f i, utfAt l f i = none := by
  intro f
  induction f with
  | zero => intro i; rfl
  | succ f ih =>
    intro i
    rw [utfAt_succ]
    by_cases hi : i < l.length
    · rw [if_pos hi, List.drop_eq_getElem_cons hi, seqI_ascii _ _ (h _ (List.getElem_mem hi)), if_neg (by omega)]
      exact ih _
    · rw [if_neg hi]
theorem utf_ok (l : List UInt8) (h : ∀ b ∈ l, b.toNat < 128) : (utfBad l).isNone = true := by
  unfold utfBad
  rw [utf_ascii l h]
  rfl
theorem exN_ascii (l : List UInt8) (h0 : l ≠ []) (h : ∀ b ∈ l, b.toNat < 128) : exN l = some (squeeze l) := by
  unfold exN
  rw [if_neg (by intro e; exact h0 (List.eq_nil_of_length_eq_zero e)), if_pos (utf_ok l h)]

theorem coll_low {x : List UInt8} (hx : Low x) (r : List UInt8) (h0 : x ≠ []) : ∀ p, coll p (x ++ r) = x ++ coll false r := by
  induction x with
  | nil => exact absurd rfl h0
  | cons b t ih =>
    intro p
    have hb := low_blank b (hx b (by simp))
    have hc : coll p (b :: t ++ r) = b :: coll false (t ++ r) := by
      show (if blankB b = true then (if p = true then coll true (t ++ r) else 32 :: coll true (t ++ r)) else b :: coll false (t ++ r)) = _
      rw [if_neg (by simp [hb])]
    rw [hc]
    by_cases ht : t = []
    · subst ht
      rfl
    · rw [ih (fun c hc => hx c (by simp [hc])) ht]
      rfl
theorem coll_sp (r : List UInt8) : coll false (32 :: r) = 32 :: coll true r := rfl
theorem coll_sp2 (r : List UInt8) : coll true (32 :: r) = coll true r := rfl
theorem coll_tab (r : List UInt8) : coll false (9 :: r) = 32 :: coll true r := rfl
theorem cutBack_low (l : List UInt8) (x : List UInt8) (hx : Low x) (h0 : x ≠ []) : cutBack (l ++ x) = l ++ x := by
  unfold cutBack
  rw [if_neg]
  intro h
  obtain ⟨t, b, rfl⟩ : ∃ t b, x = t ++ [b] := ⟨x.dropLast, x.getLast h0, (List.dropLast_concat_getLast h0).symm⟩
  rw [← List.append_assoc, List.getLast?_concat] at h
  have hb := hx b (by simp)
  simp at h
  subst h
  simp at hb
theorem cutFront_low (x r : List UInt8) (hx : Low x) (h0 : x ≠ []) : cutFront (x ++ r) = x ++ r := by
  cases x with
  | nil => exact absurd rfl h0
  | cons b t =>
    have hb := hx b (by simp)
    show (if b = 32 then t ++ r else b :: (t ++ r)) = _
    rw [if_neg]
    · rfl
    · rintro rfl
      simp at hb
theorem squeeze_low (x : List UInt8) (hx : Low x) (h0 : x ≠ []) : squeeze x = x := by
  have hc : collapse x = x := by
    have := coll_low hx [] h0 false
    simpa [collapse, coll] using this
  unfold squeeze
  rw [hc]
  have h1 := cutFront_low x [] hx h0
  rw [List.append_nil] at h1
  rw [h1]
  exact cutBack_low [] x hx h0
theorem squeeze_sp (x : List UInt8) (hx : Low x) (h0 : x ≠ []) : squeeze (x ++ [32]) = x := by
  have hc : collapse (x ++ [32]) = x ++ [32] := by
    unfold collapse
    rw [coll_low hx [32] h0]
    rfl
  unfold squeeze
  rw [hc, cutFront_low x [32] hx h0]
  unfold cutBack
  rw [if_pos (by rw [List.getLast?_concat]), List.dropLast_concat]
theorem squeeze_two (x y : List UInt8) (hx : Low x) (hy : Low y) (h0 : x ≠ []) (h1 : y ≠ []) : squeeze (x ++ 32 :: y) = x ++ 32 :: y := by
  have hc : collapse (x ++ 32 :: y) = x ++ 32 :: y := by
    unfold collapse
    rw [coll_low hx _ h0, coll_sp]
    have := coll_low hy [] h1 true
    rw [List.append_nil] at this
    rw [this]
    simp [coll]
  unfold squeeze
  rw [hc, cutFront_low x _ hx h0]
  have := cutBack_low (x ++ [32]) y hy h1
  simpa using this
theorem squeeze_all (x y z : List UInt8) (hx : Low x) (hy : Low y) (hz : Low z) (h0 : x ≠ []) (h1 : y ≠ []) (h2 : z ≠ []) :
    squeeze (32 :: (x ++ 9 :: (y ++ 32 :: 32 :: z))) = x ++ 32 :: (y ++ 32 :: z) := by
  have hc : collapse (32 :: (x ++ 9 :: (y ++ 32 :: 32 :: z))) = 32 :: (x ++ 32 :: (y ++ 32 :: z)) := by
    unfold collapse
    rw [coll_sp, coll_low hx _ h0, coll_tab, coll_low hy _ h1, coll_sp, coll_sp2]
    have := coll_low hz [] h2 true
    rw [List.append_nil] at this
    rw [this]
    simp [coll]
  unfold squeeze
  rw [hc]
  show cutBack (x ++ 32 :: (y ++ 32 :: z)) = _
  have := cutBack_low (x ++ 32 :: (y ++ [32])) z hz h2
  simpa using this

theorem low_ascii {x : List UInt8} (h : Low x) : ∀ b ∈ x, b.toNat < 128 := fun b hb => by have := h b hb; omega
theorem low_no32 {x : List UInt8} (h : Low x) : (32 : UInt8) ∉ x := fun hb => by have := h 32 hb; simp at this
theorem indexByte_no {x : List UInt8} (h : (32 : UInt8) ∉ x) : Lib.indexByte x 32 = -1 := by
  induction x with
  | nil => rfl
  | cons b t ih =>
    simp at h
    unfold Lib.indexByte
    have hb : (b == 32) = false := by simpa using fun e => h.1 e.symm
    rw [hb, ih h.2]
    rfl
theorem indexByte_yes {x : List UInt8} (h : (32 : UInt8) ∈ x) : 0 ≤ Lib.indexByte x 32 := by
  induction x with
  | nil => simp at h
  | cons b t ih =>
    unfold Lib.indexByte
    by_cases hb : b = 32
    · subst hb
      simp
    · have hb' : (b == 32) = false := by simpa using hb
      have ht : (32 : UInt8) ∈ t := by
        rcases List.mem_cons.1 h with h | h
        · exact absurd h.symm hb
        · exact h
      have := ih ht
      rw [hb']
      have hn : (Lib.indexByte t 32 == -1) = false := by simp; omega
      rw [hn]
      simp
      omega
theorem assertW_yes (a n : List UInt8) (h : foN a = some n) (h0 : n ≠ []) (h1 : (32 : UInt8) ∉ n) : assertW a = true := by
  unfold assertW
  rw [h]
  simp only
  rw [if_neg (by intro e; exact h0 (List.eq_nil_of_length_eq_zero e)), indexByte_no h1]
  rfl
theorem assertW_no (a n : List UInt8) (h : foN a = some n) (h1 : n = [] ∨ (32 : UInt8) ∈ n) : assertW a = false := by
  unfold assertW
  rw [h]
  simp only
  rcases h1 with rfl | h1
  · rfl
  · split
    · rfl
    · simp [indexByte_yes h1]

theorem foN_v (x y z : List UInt8) (hx : Low x) (hy : Low y) (hz : Low z) (h0 : x ≠ []) (h1 : y ≠ []) (h2 : z ≠ []) : foN (32 :: (swap x ++ 9 :: (y ++ 32 :: 32 :: z))) = some (x ++ 32 :: (y ++ 32 :: z)) := by
  unfold foN
  have e : fold (32 :: (swap x ++ 9 :: (y ++ 32 :: 32 :: z))) = 32 :: (x ++ 9 :: (y ++ 32 :: 32 :: z)) := by
    rw [fold_cons, fold_app, fold_swap hx, fold_cons, fold_app, fold_low hy, fold_cons, fold_cons, fold_low hz]
    rfl
  rw [e, exN_ascii _ (by simp), squeeze_all x y z hx hy hz h0 h1 h2]
  intro b hb
  simp at hb
  rcases hb with rfl | hb | rfl | hb | rfl | hb
  · decide
  · exact low_ascii hx b hb
  · decide
  · exact low_ascii hy b hb
  · decide
  · exact low_ascii hz b hb
theorem cut_v (x y z : List UInt8) (hx : Low x) (hy : Low y) (hz : Low z) : cutAt 32 (x ++ 32 :: (y ++ 32 :: z)) = [x, y, z] := by
  rw [cutAt_app 32 x _ (low_no32 hx), cutAt_app 32 y _ (low_no32 hy), cutAt_no 32 z (low_no32 hz)]
theorem foN_low {x : List UInt8} (hx : Low x) (h0 : x ≠ []) : foN x = some x := by
  unfold foN
  rw [fold_low hx, exN_ascii x h0 (low_ascii hx), squeeze_low x hx h0]
theorem r1 (x y z : List UInt8) (hx : Low x) (hy : Low y) (hz : Low z) (h0 : x ≠ []) (h1 : y ≠ []) (h2 : z ≠ []) : byWord (32 :: (swap x ++ 9 :: (y ++ 32 :: 32 :: z))) (x ++ [32]) = 2 := by
  have hn : foN (x ++ [32]) = some x := by
    unfold foN
    rw [fold_app, fold_low hx]
    show exN (x ++ [32]) = _
    rw [exN_ascii _ (by simp), squeeze_sp x hx h0]
    intro b hb
    simp at hb
    rcases hb with hb | rfl
    · exact low_ascii hx b hb
    · decide
  unfold byWord
  rw [if_pos (assertW_yes _ x hn h0 (low_no32 hx)), foN_v x y z hx hy hz h0 h1 h2, hn]
  simp only
  rw [cut_v x y z hx hy hz]
  simp
theorem r2 (x y z : List UInt8) (hx : Low x) (hy : Low y) (hz : Low z) (h0 : x ≠ []) (h1 : y ≠ []) (h2 : z ≠ []) : byWord (32 :: (swap x ++ 9 :: (y ++ 32 :: 32 :: z))) (swap y) = 2 := by
  have hn : foN (swap y) = some y := by
    unfold foN
    rw [fold_swap hy, exN_ascii y h1 (low_ascii hy), squeeze_low y hy h1]
  unfold byWord
  rw [if_pos (assertW_yes _ y hn h1 (low_no32 hy)), foN_v x y z hx hy hz h0 h1 h2, hn]
  simp only
  rw [cut_v x y z hx hy hz]
  simp
theorem r3 (x y z : List UInt8) (hx : Low x) (hy : Low y) (hz : Low z) (h0 : x ≠ []) (h1 : y ≠ []) (h2 : z ≠ []) : byWord (32 :: (swap x ++ 9 :: (y ++ 32 :: 32 :: z))) z = 2 := by
  have hn := foN_low hz h2
  unfold byWord
  rw [if_pos (assertW_yes _ z hn h2 (low_no32 hz)), foN_v x y z hx hy hz h0 h1 h2, hn]
  simp only
  rw [cut_v x y z hx hy hz]
  simp
theorem r4 (x y z : List UInt8) (hx : Low x) (hy : Low y) (hz : Low z) (h0 : x ≠ []) (h1 : y ≠ []) (h2 : z ≠ []) : byWord (32 :: (swap x ++ 9 :: (y ++ 32 :: 32 :: z))) (x ++ y) = if x ++ y = x ∨ x ++ y = y ∨ x ++ y = z then 2 else 0 := by
  have hl := low_app hx hy
  have he : x ++ y ≠ [] := by simp [h0]
  have hn := foN_low hl he
  unfold byWord
  rw [if_pos (assertW_yes _ _ hn he (low_no32 hl)), foN_v x y z hx hy hz h0 h1 h2, hn]
  simp only
  rw [cut_v x y z hx hy hz]
  simp
theorem r5 (x y : List UInt8) (hx : Low x) (hy : Low y) (h0 : x ≠ []) (h1 : y ≠ []) (v : List UInt8) : byWord v (x ++ 32 :: y) = 1 := by
  have hn : foN (x ++ 32 :: y) = some (x ++ 32 :: y) := by
    unfold foN
    rw [fold_app, fold_low hx, fold_cons, fold_low hy]
    show exN (x ++ 32 :: y) = _
    rw [exN_ascii _ (by simp), squeeze_two x y hx hy h0 h1]
    intro b hb
    simp at hb
    rcases hb with hb | rfl | hb
    · exact low_ascii hx b hb
    · decide
    · exact low_ascii hy b hb
  unfold byWord
  rw [if_neg]
  rw [assertW_no _ _ hn (Or.inr (by simp))]
  simp
theorem r6 (v : List UInt8) : byWord v [32, 32] = 1 := by
  have hn : foN [32, 32] = some [] := by
    unfold foN
    show exN [32, 32] = _
    rw [exN_ascii _ (by simp)]
    · rfl
    · intro b hb
      simp at hb
      subst hb
      decide
  unfold byWord
  rw [if_neg]
  rw [assertW_no _ _ hn (Or.inl rfl)]
  simp
theorem r7 (x : List UInt8) (hx : Low x) (h0 : x ≠ []) : byWord [] x = 0 := by
  have hn := foN_low hx h0
  unfold byWord
  rw [if_pos (assertW_yes _ _ hn h0 (low_no32 hx)), hn]
  rfl
end Go.Proofs.YtjmjgkmegljmpaaGreatDoor
