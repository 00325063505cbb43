/- match: what the six kinds with pieces answer: trim, piece, normal, partial. -/
import Derived.Test.YtmgfikfcnhhnhaaGreatDoorFitsW
import Derived.Lib.Replace
namespace Go.Proofs.YtmgfikfcnhhnhaaGreatDoor
open Go.RowKit

def repl (c : UInt8) (n : List UInt8) (l : List UInt8) : List UInt8 := l.flatMap fun b => if b = c then n else [b]
theorem repl_cons (c : UInt8) (n : List UInt8) (b : UInt8) (r : List UInt8) : repl c n (b :: r) = (if b = c then n else [b]) ++ repl c n r := by
  unfold repl
  rw [List.flatMap_cons]
theorem repl_no (c : UInt8) (n : List UInt8) : ∀ l : List UInt8, l.count c = 0 → repl c n l = l := by
  intro l
  induction l with
  | nil => intro _; rfl
  | cons b r ih =>
    intro h
    have hb : b ≠ c := by
      intro e
      subst e
      simp at h
    rw [List.count_cons_of_ne hb] at h
    rw [repl_cons, if_neg hb, ih h]
    rfl
theorem replaceK_repl (c : UInt8) (n : List UInt8) : ∀ l : List UInt8, Lib.replaceK [c] n (l.count c) l = repl c n l := by
  intro l
  induction l with
  | nil => rfl
  | cons b r ih =>
    rw [repl_cons]
    by_cases hb : b = c
    · subst hb
      rw [if_pos rfl, List.count_cons_self]
      have hi : Lib.index (b :: r) [b] = ((0 : Nat) : Int) := by rw [index_cons]; simp
      rw [Lib.replaceK_hit [b] n _ _ 0 hi]
      simp [ih]
    · rw [if_neg hb, List.count_cons_of_ne hb]
      rcases hk : r.count c with _ | k
      · rw [repl_no c n r hk]
        rfl
      · have hne : Lib.index r [c] ≠ -1 := fun e => by have := (index_count c r).1 e; omega
        have hge := index_ge r c
        obtain ⟨i, hi⟩ := Int.eq_ofNat_of_zero_le (show 0 ≤ Lib.index r [c] by omega)
        have hi2 : Lib.index (b :: r) [c] = ((i + 1 : Nat) : Int) := by
          rw [index_cons, if_neg (by simpa using hb), if_neg (by simpa using hne), hi]
          omega
        rw [hk, Lib.replaceK_hit [c] n k r i hi] at ih
        rw [Lib.replaceK_hit [c] n k (b :: r) (i + 1) hi2, ← ih]
        simp
theorem replaceAll_one (c : UInt8) (n : List UInt8) (hn : [c] ≠ n) (s : ByteArray) : Lib.replaceAll s.data.toList [c] n = repl c n s.data.toList := by
  unfold Lib.replaceAll Lib.replace
  rw [if_neg (by simpa using hn)]
  unfold Lib.replaceNum
  rw [if_pos (Or.inl (by omega))]
  have := countB_one c s
  unfold Lib.countB at this
  rw [show Lib.count s.data.toList [c] = s.data.toList.count c from this]
  exact replaceK_repl c n _
theorem repl_none_length (c : UInt8) : ∀ l : List UInt8, (repl c [] l).length ≤ l.length := by
  intro l
  induction l with
  | nil => simp [repl]
  | cons b r ih =>
    rw [repl_cons, List.length_append, List.length_cons]
    split <;> simp <;> omega
theorem strip_at (c : UInt8) (n : List UInt8) (w : World) (hn : n.length ≤ LIM) (hm : MaxL w) :
    Calls Tryz.prog 230 #[.string (mkB n), .string ⟨#[c]⟩, .string ⟨#[]⟩] w fun e w' => e = .returned (.string (mkB (repl c [] n))) ∧ Below w.heap.size w w' := by
  obtain ⟨m, hm⟩ := hm
  unfold LIM at hn
  have h := Tryz.strings_ReplaceAll (mkB n) ⟨#[c]⟩ ⟨#[]⟩ m w (by rw [mkB_size]; omega) hm (by simp [ByteArray.size]) (by rw [mkB_size, show (ByteArray.mk #[]).size = 0 from rfl]; omega)
  have e := replaceAll_one c [] (by simp) (mkB n)
  rw [mkB_data] at e
  refine h.mono ?_
  rintro x w' ⟨rfl, hb⟩
  refine ⟨?_, hb⟩
  show Ending.returned (.string ⟨(Lib.replaceAll n [c] []).toArray⟩) = _
  rw [e]
  rfl

def tr1 (l : List UInt8) : List UInt8 := Lib.trimPrefix l [32]
def tr2 (l : List UInt8) : List UInt8 := Lib.trimSuffix l [32]
theorem tr1_length (l : List UInt8) : (tr1 l).length ≤ l.length := by
  unfold tr1 Lib.trimPrefix
  split <;> simp
theorem tr2_length (l : List UInt8) : (tr2 l).length ≤ l.length := by
  unfold tr2 Lib.trimSuffix
  split <;> simp
theorem squeeze_length (l : List UInt8) : (squeeze l).length ≤ l.length := by
  have h1 : ∀ l : List UInt8, (cutBack l).length ≤ l.length := fun l => by
    unfold cutBack
    split
    · simp
    · exact Nat.le_refl _
  have h2 : ∀ l : List UInt8, (cutFront l).length ≤ l.length := fun l => by
    unfold cutFront
    split
    · split <;> simp
    · simp
  unfold squeeze
  have := h1 (cutFront (collapse l))
  have := h2 (collapse l)
  have := collapse_length l
  omega

set_option maxRecDepth 100000 in
theorem spaced_trim (l : List UInt8) (w : World) (hl : l.length ≤ LIM) :
    Calls Tryz.prog 214 #[.agg #[], .string (mkB l)] w fun e w' => e = .returned (.tuple #[.string (mkB (tr1 l)), .string (mkB (tr2 l))]) ∧ Below w.heap.size w w' := by
  have H1 := Lib.hid (fun W => Tryz.strings_TrimPrefix (mkB l) ⟨#[32]⟩ W)
  have H2 := Lib.hid (fun W => Tryz.strings_TrimSuffix (mkB l) ⟨#[32]⟩ W (by rw [mkB_size]; unfold LIM at hl; omega))
  go_enter Tryz.func214, Tryz.ntmps214
  go_wp2_with (fail)
  refine (H1.out _).mono ?_
  rintro e w1 ⟨rfl, rfl⟩
  go_wp2_with (fail)
  refine (H2.out _).mono ?_
  rintro e w2 ⟨rfl, rfl⟩
  go_wp2
  go_ret2
  exact ⟨rfl, (Below.refl _ _).alloc (Nat.le_refl _) _⟩

set_option maxRecDepth 100000 in
theorem exact_trim (l : List UInt8) (w : World) (hl : l.length ≤ LIM) :
    Calls Tryz.prog 212 #[.agg #[], .string (mkB l)] w fun e w' => e = .returned (.tuple #[.string (mkB (tr1 l)), .string (mkB (tr2 l))]) ∧ Below w.heap.size w w' := by
  have H1 := Lib.hid (fun W => spaced_trim l W hl)
  go_enter Tryz.func212, Tryz.ntmps212
  go_wp2_with (fail)
  refine (H1.out _).mono ?_
  rintro e w1 ⟨rfl, hb⟩
  go_wp2
  go_ret2
  exact ⟨rfl, below_then ((Below.refl _ _).alloc (Nat.le_refl _) _) (by simp) hb⟩

set_option maxRecDepth 100000 in
theorem plain_trim (l : List UInt8) (w : World) :
    Calls Tryz.prog 193 #[.agg #[], .string (mkB l)] w fun e w' => e = .returned (.tuple #[.string (mkB l), .string (mkB l)]) ∧ Below w.heap.size w w' := by
  go_enter Tryz.func193, Tryz.ntmps193
  go_wp2
  go_ret2
  exact ⟨rfl, (Below.refl _ _).alloc (Nat.le_refl _) _⟩

set_option maxRecDepth 100000 in
theorem exact_piece (l : List UInt8) (w : World) (hl : l.length ≤ LIM) :
    Calls Tryz.prog 211 #[.agg #[], .string (mkB l)] w fun e w' => e = .returned (.tuple #[.string (mkB (collapse l)), .bool (utfBad l).isNone]) ∧ Below w.heap.size w w' := by
  unfold LIM at hl
  have H1 := Lib.hid (fun W => text_Collapse (mkB l) W (by rw [mkB_size]; omega))
  have H2 := Lib.hid (fun W => match_utf (mkB l) W (by rw [mkB_size]; omega))
  simp only [mkB_data] at H1 H2
  go_enter Tryz.func211, Tryz.ntmps211
  go_wp2_with (fail)
  refine (H1.out _).mono ?_
  rintro e w1 ⟨rfl, hb⟩
  have hB := below_then ((Below.refl _ _).alloc (Nat.le_refl _) _) (by simp) hb
  clear hb
  go_wp2_with (fail)
  refine (H2.out _).mono ?_
  rintro e w2 ⟨rfl, hb2⟩
  go_wp2
  go_ret2
  exact ⟨rfl, below_then hB hB.size hb2⟩

theorem toIntLt (b : UInt8) : (b.toNat : Int) < 256 := by have := b.toNat_lt; omega
def digB (b : UInt8) : Bool := decide (48 ≤ (b.toNat : Int)) && decide ((b.toNat : Int) ≤ 57)
set_option maxRecDepth 100000 in
theorem match_digit (c : UInt8) (w : World) : Calls Tryz.prog 47 #[.int .u8 (c.toNat : Int)] w fun e w' => e = .returned (.bool (digB c)) ∧ w = w' := by
  unfold digB
  by_cases h1 : 48 ≤ (c.toNat : Int)
  · by_cases h2 : (c.toNat : Int) ≤ 57
    all_goals
      go_enter Tryz.func47, Tryz.ntmps47
      go_wp2
      go_ret
      exact ⟨ret_bool (by simp <;> omega), rfl⟩
  · go_enter Tryz.func47, Tryz.ntmps47
    go_wp2
    go_ret
    exact ⟨ret_bool (by simp <;> omega), rfl⟩
def letB (b : UInt8) : Bool := (decide (97 ≤ (b.toNat : Int)) && decide ((b.toNat : Int) ≤ 122)) || (decide (65 ≤ (b.toNat : Int)) && decide ((b.toNat : Int) ≤ 90))
set_option maxRecDepth 100000 in
theorem match_letter (c : UInt8) (w : World) : Calls Tryz.prog 236 #[.int .u8 (c.toNat : Int)] w fun e w' => e = .returned (.bool (letB c)) ∧ w = w' := by
  unfold letB
  by_cases h1 : 97 ≤ (c.toNat : Int)
  · by_cases h2 : (c.toNat : Int) ≤ 122
    · go_enter Tryz.func236, Tryz.ntmps236
      go_wp2
      go_ret
      exact ⟨ret_bool (by simp <;> omega), rfl⟩
    · have h3 : 65 ≤ (c.toNat : Int) := by omega
      have h4 : ¬ (c.toNat : Int) ≤ 90 := by omega
      go_enter Tryz.func236, Tryz.ntmps236
      go_wp2
      go_ret
      exact ⟨ret_bool (by simp <;> omega), rfl⟩
  · by_cases h3 : 65 ≤ (c.toNat : Int)
    · by_cases h4 : (c.toNat : Int) ≤ 90
      all_goals
        go_enter Tryz.func236, Tryz.ntmps236
        go_wp2
        go_ret
        exact ⟨ret_bool (by simp <;> omega), rfl⟩
    · go_enter Tryz.func236, Tryz.ntmps236
      go_wp2
      go_ret
      exact ⟨ret_bool (by simp <;> omega), rfl⟩

set_option maxRecDepth 100000 in
theorem match_printable (c : UInt8) (w : World) : Calls Tryz.prog 235 #[.int .u8 (c.toNat : Int)] w fun e w' => e = .returned (.bool (letB c || digB c || decide (0 ≤ Lib.indexByte [32, 39, 40, 41, 43, 44, 45, 46, 47, 58, 61, 63] c))) ∧ w = w' := by
  have L := Lib.hid (fun W => match_letter c W)
  have D := Lib.hid (fun W => match_digit c W)
  have I := Lib.hid (fun W => Tryz.strings_IndexByte ⟨#[32, 39, 40, 41, 43, 44, 45, 46, 47, 58, 61, 63]⟩ (c.toNat : Int) W)
  rw [show (c.toNat : Int).toNat.toUInt8 = c by simp] at I
  generalize Lib.indexByte [32, 39, 40, 41, 43, 44, 45, 46, 47, 58, 61, 63] c = q at I ⊢
  cases h1 : letB c with
  | true =>
    rw [h1] at L
    clear h1 D I
    go_enter Tryz.func235, Tryz.ntmps235
    go_wp2_with (fail)
    refine (L.out _).mono ?_
    rintro e w1 ⟨rfl, rfl⟩
    go_wp2
    go_ret
    exact ⟨rfl, rfl⟩
  | false =>
    rw [h1] at L
    cases h2 : digB c with
    | true =>
      rw [h2] at D
      clear h1 h2 I
      go_enter Tryz.func235, Tryz.ntmps235
      go_wp2_with (fail)
      refine (L.out _).mono ?_
      rintro e w1 ⟨rfl, rfl⟩
      go_wp2_with (fail)
      refine (D.out _).mono ?_
      rintro e w1 ⟨rfl, rfl⟩
      go_wp2
      go_ret
      exact ⟨rfl, rfl⟩
    | false =>
      rw [h2] at D
      clear h1 h2
      go_enter Tryz.func235, Tryz.ntmps235
      go_wp2_with (fail)
      refine (L.out _).mono ?_
      rintro e w1 ⟨rfl, rfl⟩
      go_wp2_with (fail)
      refine (D.out _).mono ?_
      rintro e w1 ⟨rfl, rfl⟩
      go_wp2_with (fail)
      refine (I.out _).mono ?_
      rintro e w1 ⟨rfl, rfl⟩
      go_wp2
      go_ret
      exact ⟨ret_bool (by simp), rfl⟩
def prB (c : UInt8) : Bool := letB c || digB c || decide (0 ≤ Lib.indexByte [32, 39, 40, 41, 43, 44, 45, 46, 47, 58, 61, 63] c)
def spB (c : UInt8) : Bool := (c == 32) || digB c
set_option maxRecDepth 100000 in
theorem match_num1 (c : UInt8) (w : World) : Calls Tryz.prog 229 #[.int .u8 (c.toNat : Int)] w fun e w' => e = .returned (.bool (spB c)) ∧ w = w' := by
  have D := Lib.hid (fun W => match_digit c W)
  unfold spB
  by_cases h1 : c = 32
  · subst h1
    clear D
    go_enter Tryz.func229, Tryz.ntmps229
    go_wp2
    go_ret
    exact ⟨rfl, rfl⟩
  · have h2 : ¬ (c.toNat : Int) = 32 := fun h => h1 (by rw [← UInt8.toNat_inj]; simp; omega)
    have h3 : (c == 32) = false := by simpa using h1
    have h4 : ((c.toNat : Int) == 32) = false := by simpa using h2
    rw [h3, Bool.false_or]
    clear h1 h3
    go_enter Tryz.func229, Tryz.ntmps229
    go_wp2_with (fail)
    refine (D.out _).mono ?_
    rintro e w1 ⟨rfl, rfl⟩
    go_wp2
    go_ret
    exact ⟨ret_bool (by first | rfl | rw [h4, Bool.false_or]), rfl⟩

theorem at_mkB (l : List UInt8) (k : Nat) (h : k < l.length) : (mkB l)[k]'(by rw [mkB_size]; exact h) = l[k] := rfl
attribute [local go_sem] mkB_size
set_option maxRecDepth 100000 in
theorem match_all (l : List UInt8) (fn : FuncId) (g : UInt8 → Bool) (w : World) (hl : l.length ≤ LIM) (hen : ∀ args W, (callFunc fn args).run Tryz.prog W = .ok (.enter fn args) W)
    (hf : ∀ (c : UInt8) W, Calls Tryz.prog fn #[.int .u8 (c.toNat : Int)] W fun e w' => e = .returned (.bool (g c)) ∧ W = w') :
    Calls Tryz.prog 46 #[.string (mkB l), .func (.func fn) #[] #[]] w fun e w' => e = .returned (.bool (l.all g)) ∧ w = w' := by
  unfold LIM at hl
  have F := Lib.hid hf
  clear hf
  go_enter Tryz.func46, Tryz.ntmps46
  go_wp2
  go_loopw [8] (fun i wr => ∃ k : Nat, k ≤ l.length ∧ i = .int .i64 k ∧ Hid (l.all g = (l.drop k).all g) ∧ w = wr) (fun i _ => l.length - (intOf i).toNat)
  case atStart => exact ⟨0, Nat.zero_le _, rfl, Lib.hid rfl, rfl⟩
  case round =>
    obtain ⟨k, hk, rfl, HA, rfl⟩ := hrel
    have ha := HA.out
    clear HA
    by_cases hlt : k < l.length
    · rw [List.drop_eq_getElem_cons hlt, List.all_cons] at ha
      have G := Lib.hid (F.out l[k])
      have hat := at_mkB l k hlt
      cases hg : g l[k] with
      | false =>
        rw [hg, Bool.false_and] at ha
        rw [hg] at G
        have HA := Lib.hid ha
        clear ha hg
        go_wp2_with (fail)
        refine (G.out _).mono ?_
        rintro e w1 ⟨rfl, rfl⟩
        go_wp2
        go_ret
        exact ⟨ret_bool (by rw [HA.out]), rfl⟩
      | true =>
        rw [hg, Bool.true_and] at ha
        rw [hg] at G
        have HA := Lib.hid ha
        clear ha hg
        go_wp2_with (fail)
        refine (G.out _).mono ?_
        rintro e w1 ⟨rfl, rfl⟩
        go_wp2
        exact ⟨⟨k + 1, by omega, by go_num, Lib.hid HA.out, by first | rfl | trivial⟩, by simp [intOf]; omega⟩
    · rw [List.drop_eq_nil_of_le (by omega)] at ha
      have HA := Lib.hid ha
      clear ha
      go_wp2
      go_ret
      exact ⟨ret_bool (by rw [HA.out]; rfl), rfl⟩
end Go.Proofs.YtmgfikfcnhhnhaaGreatDoor
