/- match: pattern. -/
import Derived.Test.YtmgfikfcnhhnhaaGreatDoorPartsW
import Derived.StillTailTactics
namespace Go.Proofs.YtmgfikfcnhhnhaaGreatDoor
open Go.RowKit

/-- A block of strings. -/
def SBox (W : World) (B : Nat) (l : List (List UInt8)) : Prop := W.heap[B]? = some (.cells (strsV (l.map mkB)).toArray 9 (0, 0))
section
variable {W W1 : World} {B N : Nat} {l : List (List UInt8)}
theorem SBox.lt (h : SBox W B l) : B < W.heap.size := (Array.getElem?_eq_some_iff.1 h).1
theorem SBox.cell (h : SBox W B l) (j : Nat) (x : List UInt8) (hx : l[j]? = some x) : W.cell? ⟨B, j, none⟩ = some (.string (mkB x)) := by
  simp [World.cell?, show W.heap[B]? = _ from h, strsV, hx]
theorem SBox.fz (h : SBox W B l) (i : Nat) : W.frozen? ⟨B, i, none⟩ = false := by simp [World.frozen?, show W.heap[B]? = _ from h]
theorem SBox.blk (h : SBox W B l) (hb : Below N W W1) (hn : B < N) : SBox W1 B l := (hb.block B hn).trans h
theorem SBox.below (h : SBox W B l) (hb : Below W.heap.size W W1) : SBox W1 B l := h.blk hb h.lt
theorem SBox.set (h : SBox W B l) (j : Nat) (x : List UInt8) : SBox (W.setCell ⟨B, j, none⟩ (.string (mkB x))) B (l.set j x) := by
  simp [SBox, World.setCell, Array.getElem?_modify, show W.heap[B]? = _ from h, strsV, List.map_set]
theorem SBox.other (h : SBox W B l) (C i : Nat) (v : Value) (hne : B ≠ C) : SBox (W.setCell ⟨C, i, none⟩ v) B l := by
  have h1 : W.heap[B]? = _ := h
  simp [SBox, World.setCell, Array.getElem?_modify, h1, Ne.symm hne]
end
theorem Pbox.other {W : World} {B C i : Nat} {a b c v : Value} (h : Pbox W B a b c) (hne : B ≠ C) : Pbox (W.setCell ⟨C, i, none⟩ v) B a b c := by
  have h1 : W.heap[B]? = _ := h
  simp [Pbox, World.setCell, Array.getElem?_modify, h1, Ne.symm hne]
theorem len_two : ∀ us : List (List UInt8), us.length = 0 + 1 + 1 → ∃ x y, us = [x, y]
  | [x, y], _ => ⟨x, y, rfl⟩
theorem set_mid (us r : List (List UInt8)) (p m : List UInt8) (k : Nat) (h : us.length = k) : (us ++ p :: r).set k m = (us ++ [m]) ++ r := by
  subst h
  simp

theorem split_star (n : List UInt8) (w : World) (hn : n.length ≤ LIM) (hm : MaxL w) :
    Calls Tryz.prog 34 #[.string (mkB n), .string ⟨#[42]⟩] w fun e w' => e = .returned (.slice (some ⟨w.heap.size, 0, none⟩) (cutAt 42 n).length (cutAt 42 n).length) ∧ w' = w.alloc (.cells (strsV ((cutAt 42 n).map mkB)).toArray 9) := by
  obtain ⟨m, hm⟩ := hm
  have h := Tryz.strings_Split (mkB n) ⟨#[42]⟩ m w (by rw [mkB_size]; unfold LIM at hn; omega) hm (by simp [ByteArray.size])
  rw [split_list, countB_one, mkB_data, ← cutAt_length] at h
  exact h

theorem pat_none (w wz : World) (a : Act) (B : Nat) (hw : w.heap.size ≤ B) (hB : Below w.heap.size w wz) (P4 : Pbox wz B (.string ⟨#[]⟩) (.slice none 0 0) (.string ⟨#[]⟩))
    (h4 : (a.tmps[2]?).getD undef = .pointer (some ⟨B, 0, none⟩)) (h5 : (a.tmps[3]?).getD undef = .bool false) (hd : a.defers = []) :
    bodyPost Tryz.prog Tryz.f18 (PatPost none w) Exit.ret a (((wz.setCell ⟨B, 0, none⟩ (.string ⟨#[]⟩)).setCell ⟨B, 1, none⟩ (.slice none 0 0)).setCell ⟨B, 2, none⟩ (.string ⟨#[]⟩)) := by
  have P5 := ((P4.set0 (.string ⟨#[]⟩)).set1 (.slice none 0 0)).set2 (.string ⟨#[]⟩)
  exact bodyPost_ret (v := .tuple #[.agg #[.string ⟨#[]⟩, .slice none 0 0, .string ⟨#[]⟩], .bool false]) (by simp [results, Tryz.results18, go_sem, P5.c0, P5.c1, P5.c2, h4, h5]) hd ⟨rfl, ((hB.setCell hw _).setCell hw _).setCell hw _⟩
theorem pat_some (w wz : World) (a : Act) (B C n c : Nat) (x z : List UInt8) (m : List (List UInt8)) (x0 x1 x2 : Value) (hw : w.heap.size ≤ B) (hB : Below w.heap.size w wz) (P4 : Pbox wz B x0 x1 x2) (hS : SBox wz C (x :: (m ++ [z]))) (hn : n = m.length) (hne : C ≠ B)
    (hl : m.length ≤ LIM) (hx : ∀ y ∈ m, y.length ≤ LIM) (h4 : (a.tmps[2]?).getD undef = .pointer (some ⟨B, 0, none⟩)) (h5 : (a.tmps[3]?).getD undef = .bool true) (hd : a.defers = []) :
    bodyPost Tryz.prog Tryz.f18 (PatPost (some (x, m, z)) w) Exit.ret a (((wz.setCell ⟨B, 0, none⟩ (.string (mkB x))).setCell ⟨B, 1, none⟩ (.slice (some ⟨C, 1, none⟩) n c)).setCell ⟨B, 2, none⟩ (.string (mkB z))) := by
  subst hn
  have P5 := ((P4.set0 (.string (mkB x))).set1 (.slice (some ⟨C, 1, none⟩) m.length c)).set2 (.string (mkB z))
  have S5 := ((hS.other B 0 (.string (mkB x)) hne).other B 1 (.slice (some ⟨C, 1, none⟩) m.length c) hne).other B 2 (.string (mkB z)) hne
  refine bodyPost_ret (v := .tuple #[.agg #[.string (mkB x), .slice (some ⟨C, 1, none⟩) m.length c, .string (mkB z)], .bool true]) (by simp [results, Tryz.results18, go_sem, P5.c0, P5.c1, P5.c2, h4, h5]) hd
    ⟨_, rfl, ⟨some ⟨C, 1, none⟩, c, rfl, hl, fun j y hj => ⟨hx y (List.mem_of_getElem? hj), C, 1, rfl, S5.lt, S5.cell (1 + j) y ?_⟩⟩, ((hB.setCell hw _).setCell hw _).setCell hw _⟩
  rw [Nat.add_comm, List.getElem?_cons_succ, List.getElem?_append_left (List.getElem?_eq_some_iff.1 hj).1]
  exact hj

theorem slice_mid (B M : Nat) (h : 1 ≤ M) (W : World) : (Instr.slice 22 (.slice (some ⟨B, 0, none⟩) (M + 1) (M + 1)) (some (.int .i64 1)) (some (.int .i64 (M : Int))) none).run Tryz.prog W = .ok (.slice (some ⟨B, 1, none⟩) (M - 1) M) W := by
  have q1 : (1 : Int) ≤ (M : Int) := by omega
  have q2 : (M : Int) ≤ ((M + 1 : Nat) : Int) := by omega
  have hc : (sizeOf (Tryz.prog.elem 22)).run Tryz.prog W = .ok 1 W := by kernel_rfl
  rw [run_slice_lh (P := Tryz.prog) (w := W) 22 _ _ _ (by kernel_rfl) .i64 .i64 1 (M : Int) (by omega) q1 q2, hc]
  simp [go_sem, sliced]
  omega
theorem idx_last (B M : Nat) (W : World) : (Instr.indexAt 22 (.slice (some ⟨B, 0, none⟩) (M + 1) (M + 1)) (.int .i64 (M : Int))).run Tryz.prog W = .ok (.pointer (some ⟨B, M, none⟩)) W := by
  rw [run_indexAt_slice (P := Tryz.prog) (w := W) 22 _ _ _ .i64 (M : Int) (by kernel_rfl)]
  simp [go_sem]
  intro h
  omega
theorem unE_len (m : UInt8) (code : List UInt8) : ∀ (n : Nat) (l o : List UInt8), l.length ≤ n → unE m code l = some o → o.length ≤ l.length := by
  intro n
  induction n with
  | zero =>
    intro l o h e
    obtain rfl := List.eq_nil_of_length_eq_zero (Nat.le_zero.1 h)
    simp [unE] at e
    subst e
    simp
  | succ n ih =>
    intro l o h e
    cases l with
    | nil => simp [unE] at e; subst e; simp
    | cons b r =>
      rw [List.length_cons] at h ⊢
      by_cases hb : b = 92
      · subst hb
        match r, h with
        | [], _ => rw [unE_short _ _ _ (by simp)] at e; cases e
        | [x], _ => rw [unE_short _ _ _ (by simp)] at e; cases e
        | x :: y :: r2, h =>
          rw [unE_esc] at e
          simp only [List.length_cons] at h ⊢
          split at e
          · obtain ⟨o2, h2, rfl⟩ := Option.map_eq_some_iff.1 e
            have := ih r2 o2 (by omega) h2
            simp
            omega
          · split at e
            · obtain ⟨o2, h2, rfl⟩ := Option.map_eq_some_iff.1 e
              have := ih r2 o2 (by omega) h2
              simp
              omega
            · cases e
      · rw [unE_plain _ _ _ _ hb] at e
        obtain ⟨o2, h2, rfl⟩ := Option.map_eq_some_iff.1 e
        have := ih r o2 (by omega) h2
        simp
        omega
theorem cutAt_tot (c : UInt8) : ∀ l x : List UInt8, x ∈ cutAt c l → x.length ≤ l.length := by
  intro l
  induction l with
  | nil => intro x hx; simp [cutAt] at hx; subst hx; simp
  | cons b r ih =>
    intro x hx
    by_cases hb : b = c
    · subst hb
      have : cutAt b (b :: r) = [] :: cutAt b r := by simp [cutAt]
      rw [this] at hx
      rcases List.mem_cons.1 hx with rfl | h
      · simp
      · have := ih x h
        simp
        omega
    · rcases hr : cutAt c r with _ | ⟨h, t⟩
      · have := cutAt_length c r
        rw [hr] at this
        simp at this
      · rw [cutAt_ne c b r h t hb hr] at hx
        rw [hr] at ih
        rcases List.mem_cons.1 hx with rfl | h2
        · have := ih h (by simp)
          simp
          omega
        · have := ih x (by simp [h2])
          simp
          omega

set_option maxRecDepth 100000 in
set_option maxHeartbeats 2000000 in
theorem match_pattern (s : List UInt8) (w : World) (hs : s.length ≤ 268435456) (hx : MaxL w) : Calls Tryz.prog 18 #[.string (mkB s)] w (PatPost (patN s) w) := by
  have HS := Lib.hid (fun W hW => split_star s W (by unfold LIM; omega) hW)
  have hlen := cutAt_length 42 s
  have hcl := List.count_le_length (l := s) (a := 42)
  have hpl : ∀ (j : Nat) (l : List UInt8), (cutAt 42 s)[j]? = some l → l.length ≤ 268435456 := by
    intro j l hl
    exact Nat.le_trans (cutAt_tot 42 s l (List.mem_of_getElem? hl)) hs
  unfold patN
  generalize cutAt 42 s = ps at HS hlen hpl ⊢
  obtain ⟨M, hM⟩ : ∃ M, ps.length = M + 1 := ⟨s.count 42, hlen⟩
  have hM1 : M ≤ 268435456 := by omega
  rw [hM] at HS ⊢
  have HM := Lib.hid hM
  have HP := Lib.hid hpl
  clear hlen hcl hpl hM
  rw [Nat.add_sub_cancel]
  go_enter Tryz.func18, Tryz.ntmps18
  have hB0 := (Below.refl w.heap.size w).alloc (Nat.le_refl _) (.cells #[.string ⟨#[]⟩, .slice none 0 0, .string ⟨#[]⟩] 24)
  go_wp2_with (fail)
  refine (HS.out _ (hx.below hB0)).mono ?_
  rintro e w1 ⟨rfl, rfl⟩
  have P2 := Pbox.new w (.string ⟨#[]⟩) (.slice none 0 0) (.string ⟨#[]⟩)
  generalize w.alloc (.cells #[.string ⟨#[]⟩, .slice none 0 0, .string ⟨#[]⟩] 24) = w1 at *
  have hB1 := hB0.alloc hB0.size (.cells (strsV (ps.map mkB)).toArray 9)
  have Q2 := P2.below ((Below.refl _ _).alloc (Nat.le_refl _) (.cells (strsV (ps.map mkB)).toArray 9))
  have S1 : SBox (w1.alloc (.cells (strsV (ps.map mkB)).toArray 9)) w1.heap.size ps := World.alloc_heap_new w1 _
  have kB := P2.lt
  clear P2 hB0 HS
  generalize w1.alloc (.cells (strsV (ps.map mkB)).toArray 9) = w2 at *
  generalize w1.heap.size = B at *
  go_wp2
  go_loopw [17] (fun i wr => ∃ (k : Nat) (us : List (List UInt8)), k ≤ M + 1 ∧ us.length = k ∧ i = .int .i64 k ∧ Hid (unAll M 0 ps = (unAll M k (ps.drop k)).map (us ++ ·)) ∧ Hid (∀ y ∈ us, y.length ≤ LIM) ∧ SBox wr B (us ++ ps.drop k) ∧ Below w.heap.size w wr ∧ Pbox wr w.heap.size (.string ⟨#[]⟩) (.slice none 0 0) (.string ⟨#[]⟩)) (fun i _ => M + 1 - (intOf i).toNat)
  case atStart => exact ⟨0, [], Nat.zero_le _, rfl, rfl, Lib.hid (by simp), Lib.hid (by simp), by simpa using S1, hB1, Q2⟩
  case round =>
    obtain ⟨k, us, hk, hul, rfl, HE, HU, S, hB, P2⟩ := hrel
    have he := HE.out
    clear HE
    have c20 := P2.c0
    have c21 := P2.c1
    have c22 := P2.c2
    have z0 := P2.fz 0
    have z1 := P2.fz 1
    have z2 := P2.fz 2
    by_cases hlt : k < M + 1
    · have hkl : k < ps.length := by rw [HM.out]; exact hlt
      obtain ⟨p, hpk⟩ : ∃ p, ps[k]? = some p := ⟨_, List.getElem?_eq_getElem hkl⟩
      have hd : ps.drop k = p :: ps.drop (k + 1) := by
        rw [List.drop_eq_getElem_cons hkl]
        rw [List.getElem?_eq_getElem hkl] at hpk
        rw [Option.some.inj hpk]
      have hpl := HP.out k p hpk
      rw [hd] at he S
      have hcell : wr.cell? ⟨B, k, none⟩ = some (.string (mkB p)) := S.cell k p (by rw [List.getElem?_append_right (by omega), hul, Nat.sub_self]; rfl)
      have hfz := S.fz k
      have S2 := fun m => S.set k m
      rw [unAll_cons] at he
      have hun := fun W => match_unescaped (mkB p) ⟨#[50, 97]⟩ 42 W (by rw [mkB_size]; omega)
      rw [mkB_data, show (ByteArray.mk #[50, 97]).data.toList = [50, 97] from rfl] at hun
      clear hd hkl
      cases hue : unE 42 [50, 97] p with
      | none =>
        have he2 : unAll M 0 ps = none := by
          rw [he, hue]
          split <;> rfl
        rw [hue] at hun
        have HN := Lib.hid hun
        have HE := Lib.hid he2
        clear he he2 hue hun hpk S S2
        go_wp2_with (fail)
        refine (HN.out _).mono ?_
        rintro e w3 ⟨rfl, hb⟩
        have Q2 := P2.below hb
        have hB3 := below_then hB hB.size hb
        clear P2 hb hB c20 c21 c22 z0 z1 z2
        have c20 := Q2.c0
        have c21 := Q2.c1
        have c22 := Q2.c2
        have z0 := Q2.fz 0
        have z1 := Q2.fz 1
        have z2 := Q2.fz 2
        simp only [UEv]
        go_wp2
        rw [HE.out]
        refine pat_none w w3 _ w.heap.size (Nat.le_refl _) hB3 Q2 ?_ ?_ ?_ <;> rfl
      | some m =>
        rw [hue] at hun
        simp only [UEv] at hun
        by_cases hbad : p = [] ∧ 0 < k ∧ k < M
        · have he2 : unAll M 0 ps = none := by
            rw [he, if_pos hbad]
            rfl
          have HN := Lib.hid hun
          have HE := Lib.hid he2
          obtain ⟨hp0, hk0, hkM⟩ := hbad
          have hem : (mkB p).toList.isEmpty = true := by rw [hp0]; exact isE_nil
          clear he he2 hue hun hpk S S2 hp0
          go_wp2_with (fail)
          refine (HN.out _).mono ?_
          rintro e w3 ⟨rfl, hb⟩
          have Q2 := P2.below hb
          have hB3 := below_then hB hB.size hb
          clear P2 hb hB c20 c21 c22 z0 z1 z2
          have c20 := Q2.c0
          have c21 := Q2.c1
          have c22 := Q2.c2
          have z0 := Q2.fz 0
          have z1 := Q2.fz 1
          have z2 := Q2.fz 2
          go_wp2
          rw [HE.out]
          refine pat_none w w3 _ w.heap.size (Nat.le_refl _) hB3 Q2 ?_ ?_ ?_ <;> rfl
        · have he2 : unAll M 0 ps = (unAll M (k + 1) (ps.drop (k + 1))).map ((us ++ [m]) ++ ·) := by
            rw [he, if_neg hbad, hue, Option.bind_some, Option.map_map]
            congr 1
            funext x
            simp
          have hml := unE_len 42 [50, 97] p.length p m (Nat.le_refl _) hue
          have HU2 : Hid (∀ y ∈ us ++ [m], y.length ≤ LIM) := Lib.hid (fun y hy => by
            rcases List.mem_append.1 hy with h | h
            · exact HU.out y h
            · rw [List.mem_singleton.1 h]; unfold LIM; omega)
          have HN := Lib.hid hun
          have HE := Lib.hid he2
          have hcs : (mkB p).toList.isEmpty = false ∨ ((mkB p).toList.isEmpty = true ∧ k = 0) ∨ ((mkB p).toList.isEmpty = true ∧ 0 < k ∧ M ≤ k) := by
            by_cases h1 : p = []
            · by_cases h2 : k = 0
              · exact .inr (.inl ⟨by rw [h1]; exact isE_nil, h2⟩)
              · exact .inr (.inr ⟨by rw [h1]; exact isE_nil, by omega, Nat.le_of_not_lt fun h3 => hbad ⟨h1, by omega, h3⟩⟩)
            · exact .inl (isE_ne h1)
          clear he he2 hue hun hpk hbad c20 c21 c22 z0 z1 z2 S2 hcell hfz
          rcases hcs with hem | ⟨hem, rfl⟩ | ⟨hem, hk0, hkM⟩
          all_goals
            have hcell : wr.cell? ⟨B, _, none⟩ = some (.string (mkB p)) := S.cell _ p (by rw [List.getElem?_append_right (Nat.le_of_eq hul), hul, Nat.sub_self]; rfl)
            go_wp2_with (fail)
            refine (HN.out _).mono ?_
            rintro e w3 ⟨rfl, hb⟩
            have Q2 := P2.below hb
            have hB3 := below_then hB hB.size hb
            have S3 := S.below hb
            have hc3 : w3.cell? ⟨B, _, none⟩ = some (.string (mkB p)) := S3.cell _ p (by rw [List.getElem?_append_right (Nat.le_of_eq hul), hul, Nat.sub_self]; rfl)
            have hfz := S3.fz us.length
            rw [hul] at hfz
            clear hcell
            go_wp2
            refine ⟨⟨us.length + 1, us ++ [m], by omega, by simp, by rw [hul]; go_num, Lib.hid (by rw [hul]; exact HE.out), HU2, ?_, hB3.setCell (show w.heap.size ≤ B by omega) _, Q2.other (by omega)⟩, by simp [intOf] <;> omega⟩
            have h := S3.set us.length m
            rw [set_mid us _ p m _ rfl] at h
            rw [hul] at h ⊢
            exact h
    · have hkM : k = M + 1 := by omega
      subst hkM
      have hd : ps.drop (M + 1) = [] := List.drop_eq_nil_of_le (Nat.le_of_eq HM.out)
      rw [hd, unAll_nil] at he
      rw [hd, List.append_nil] at S
      have hE : unAll M 0 ps = some us := by rw [he]; simp
      have HE := Lib.hid hE
      clear he hE hd
      by_cases hM0 : M = 0
      · subst hM0
        obtain ⟨x, rfl⟩ := List.length_eq_one_iff.1 hul
        go_wp2
        rw [HE.out, Option.bind_some, if_neg (by simp)]
        refine pat_none w wr _ w.heap.size (Nat.le_refl _) hB P2 ?_ ?_ ?_ <;> rfl
      by_cases hM1 : M = 1
      · subst hM1
        obtain ⟨x, y, rfl⟩ := len_two us hul
        have cx : wr.cell? ⟨B, 0, none⟩ = some (.string (mkB x)) := S.cell 0 x rfl
        have cy : wr.cell? ⟨B, 1, none⟩ = some (.string (mkB y)) := S.cell 1 y rfl
        by_cases hx0 : x = []
        · have hex : (mkB x).toList.isEmpty = true := by rw [hx0]; exact isE_nil
          by_cases hy0 : y = []
          · have hey : (mkB y).toList.isEmpty = true := by rw [hy0]; exact isE_nil
            have HE2 : Hid (([x, y] : List (List UInt8)) = [[], []]) := Lib.hid (by rw [hx0, hy0])
            clear hx0 hy0
            go_wp2
            rw [HE.out, Option.bind_some, if_pos HE2.out]
            refine pat_none w wr _ w.heap.size (Nat.le_refl _) hB P2 ?_ ?_ ?_ <;> rfl
          · have hey := isE_ne hy0
            have HE2 : Hid (¬ ([x, y] : List (List UInt8)) = [[], []]) := Lib.hid (by simp [hy0])
            clear hx0 hy0
            go_wp2
            go_still_tail 11, (by kernel_rfl)
            change wpList _ _ _ _ _ wr.drew
            have hBd : Below w.heap.size w wr.drew := hB.drew
            have Pd : Pbox wr.drew w.heap.size (.string ⟨#[]⟩) (.slice none 0 0) (.string ⟨#[]⟩) := P2
            have Sd : SBox wr.drew B [x, y] := S
            generalize wr.drew = wd at hBd Pd Sd ⊢
            clear hB P2 S cx cy c20 c21 c22 z0 z1 z2
            have c20 := Pd.c0
            have c21 := Pd.c1
            have c22 := Pd.c2
            have z0 := Pd.fz 0
            have z1 := Pd.fz 1
            have z2 := Pd.fz 2
            go_wp2
            rw [HE.out, Option.bind_some, if_neg HE2.out, show ends [x, y] = some (x, [], y) from rfl]
            refine pat_some w wd _ w.heap.size B _ _ x y [] _ _ _ (Nat.le_refl _) hBd Pd Sd (by first | rfl | simp) (by omega) (by simp) (by simp) ?_ ?_ ?_ <;> rfl
        · have hex := isE_ne hx0
          have HE2 : Hid (¬ ([x, y] : List (List UInt8)) = [[], []]) := Lib.hid (by simp [hx0])
          clear hx0
          go_wp2
          go_still_tail 11, (by kernel_rfl)
          change wpList _ _ _ _ _ wr.drew
          have hBd : Below w.heap.size w wr.drew := hB.drew
          have Pd : Pbox wr.drew w.heap.size (.string ⟨#[]⟩) (.slice none 0 0) (.string ⟨#[]⟩) := P2
          have Sd : SBox wr.drew B [x, y] := S
          generalize wr.drew = wd at hBd Pd Sd ⊢
          clear hB P2 S cx cy c20 c21 c22 z0 z1 z2
          have c20 := Pd.c0
          have c21 := Pd.c1
          have c22 := Pd.c2
          have z0 := Pd.fz 0
          have z1 := Pd.fz 1
          have z2 := Pd.fz 2
          go_wp2
          rw [HE.out, Option.bind_some, if_neg HE2.out, show ends [x, y] = some (x, [], y) from rfl]
          refine pat_some w wd _ w.heap.size B _ _ x y [] _ _ _ (Nat.le_refl _) hBd Pd Sd (by first | rfl | simp) (by omega) (by simp) (by simp) ?_ ?_ ?_ <;> rfl
      · obtain ⟨x, m, z, rfl⟩ := ends_some us (by omega)
        have hml : m.length = M - 1 := by simp at hul; omega
        have cx : wr.cell? ⟨B, 0, none⟩ = some (.string (mkB x)) := S.cell 0 x rfl
        have cz : wr.cell? ⟨B, M, none⟩ = some (.string (mkB z)) := S.cell M z (by
          rw [show M = m.length + 1 by omega, List.getElem?_cons_succ, List.getElem?_append_right (Nat.le_refl _), Nat.sub_self]
          rfl)
        have HE2 : Hid (¬ (x :: (m ++ [z])) = [[], []]) := Lib.hid (fun h => by
          have := congrArg List.length h
          simp only [List.length_cons, List.length_append, List.length_nil] at this
          omega)
        have hbnd : ∀ y ∈ m, y.length ≤ LIM := fun y hy => HU.out y (by simp [hy])
        have HB := Lib.hid hbnd
        have HMl := Lib.hid hml
        clear hbnd
        have q1 : (1 : Int) ≤ (M : Int) := by omega
        have q2 : (M : Int) ≤ ((M + 1 : Nat) : Int) := by omega
        have hsl := slice_mid B M (by omega)
        have hil := idx_last B M
        go_wp2
        go_still_tail 11, (by kernel_rfl)
        change wpList _ _ _ _ _ wr.drew
        have hBd : Below w.heap.size w wr.drew := hB.drew
        have Pd : Pbox wr.drew w.heap.size (.string ⟨#[]⟩) (.slice none 0 0) (.string ⟨#[]⟩) := P2
        have Sd : SBox wr.drew B (x :: (m ++ [z])) := S
        generalize wr.drew = wd at hBd Pd Sd ⊢
        clear hB P2 S cx cz c20 c21 c22 z0 z1 z2
        have c20 := Pd.c0
        have c21 := Pd.c1
        have c22 := Pd.c2
        have z0 := Pd.fz 0
        have z1 := Pd.fz 1
        have z2 := Pd.fz 2
        go_wp2
        rw [HE.out, Option.bind_some, if_neg HE2.out, ends_of]
        refine pat_some w wd _ w.heap.size B _ _ x z m _ _ _ (Nat.le_refl _) hBd Pd Sd HMl.out.symm (by omega) (by have := HMl.out; unfold LIM; omega) HB.out ?_ ?_ ?_ <;> rfl
end Go.Proofs.YtmgfikfcnhhnhaaGreatDoor
