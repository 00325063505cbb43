/- match: the six kinds, each with what its functions answer. -/
import Derived.Test.YtmgfikfcnhhnhaaGreatDoorKindU
import Derived.Test.YtmgfikfcnhhnhaaGreatDoorContW
import Derived.Test.YtmgfikfcnhhnhaaGreatDoorPatW
namespace Go.Proofs.YtmgfikfcnhhnhaaGreatDoor
open Go.RowKit

theorem exN_len (l n : List UInt8) (h : exN l = some n) : n.length ≤ l.length := by
  unfold exN at h
  split at h
  · cases h
  · split at h
    · cases h
      exact squeeze_length l
    · cases h
theorem loN_len (l n : List UInt8) (h : loN l = some n) : n.length ≤ l.length := by
  unfold loN at h
  split at h
  · cases h
    exact squeeze_length l
  · cases h

def kText : KindC 258 where
  nrm := foN
  pc l := collapse (fold l)
  po l := (utfBad (fold l)).isNone
  t1 := tr1
  t2 := tr2
  ln l n h := by have := exN_len _ n h; rwa [fold_length] at this
  lc l := by have := collapse_length (fold l); rwa [fold_length] at this
  l1 := tr1_length
  l2 := tr2_length
  fp := 210
  fn := 217
  fc := 218
  ft := 212
  mp w := by kernel_rfl
  mn w := by kernel_rfl
  mc w := by kernel_rfl
  mt w := by kernel_rfl
  ep args w := by kernel_rfl
  en args w := by kernel_rfl
  ec args w := by kernel_rfl
  et args w := by kernel_rfl
  cp := exact_partial
  cn l W hl _ := by have h := folded_normal (mkB l) W (by rw [mkB_size]; unfold LIM at hl; omega); rwa [mkB_data] at h
  cc l W hl _ := folded_piece l W hl
  ct l W hl := exact_trim l W hl

def kExact : KindC 256 where
  nrm := exN
  pc := collapse
  po l := (utfBad l).isNone
  t1 := tr1
  t2 := tr2
  ln := exN_len
  lc := collapse_length
  l1 := tr1_length
  l2 := tr2_length
  fp := 210
  fn := 209
  fc := 211
  ft := 212
  mp w := by kernel_rfl
  mn w := by kernel_rfl
  mc w := by kernel_rfl
  mt w := by kernel_rfl
  ep args w := by kernel_rfl
  en args w := by kernel_rfl
  ec args w := by kernel_rfl
  et args w := by kernel_rfl
  cp := exact_partial
  cn l W hl _ := by have h := exact_normal (mkB l) W (by rw [mkB_size]; unfold LIM at hl; omega); rwa [mkB_data] at h
  cc l W hl _ := exact_piece l W hl
  ct l W hl := exact_trim l W hl

def kLow : KindC 263 where
  nrm l := loN (fold l)
  pc l := collapse (fold l)
  po l := (fold l).all ascB
  t1 := tr1
  t2 := tr2
  ln l n h := by have := loN_len _ n h; rwa [fold_length] at this
  lc l := by have := collapse_length (fold l); rwa [fold_length] at this
  l1 := tr1_length
  l2 := tr2_length
  fp := 220
  fn := 224
  fc := 225
  ft := 222
  mp w := by kernel_rfl
  mn w := by kernel_rfl
  mc w := by kernel_rfl
  mt w := by kernel_rfl
  ep args w := by kernel_rfl
  en args w := by kernel_rfl
  ec args w := by kernel_rfl
  et args w := by kernel_rfl
  cp := low_partial
  cn l W hl _ := lowFolded_normal l W hl
  cc l W hl _ := lowFolded_piece l W hl
  ct l W hl := low_trim l W hl

def kNum : KindC 264 where
  nrm := nuN
  pc := repl 32 []
  po l := l.all spB
  t1 l := l
  t2 l := l
  ln l n h := by
    unfold nuN at h
    split at h
    · cases h
    · split at h
      · cases h
        exact repl_none_length 32 l
      · cases h
  lc := repl_none_length 32
  l1 _ := Nat.le_refl _
  l2 _ := Nat.le_refl _
  fp := 227
  fn := 226
  fc := 228
  ft := 193
  mp w := by kernel_rfl
  mn w := by kernel_rfl
  mc w := by kernel_rfl
  mt w := by kernel_rfl
  ep args w := by kernel_rfl
  en args w := by kernel_rfl
  ec args w := by kernel_rfl
  et args w := by kernel_rfl
  cp := numeric_partial
  cn := numeric_normal
  cc := numeric_piece
  ct l W _ := plain_trim l W

def kPhone : KindC 265 where
  nrm := phN
  pc l := repl 45 [] (repl 32 [] (fold l))
  po l := l.all prB
  t1 l := l
  t2 l := l
  ln l n h := by
    unfold phN at h
    split at h
    · cases h
    · split at h
      · cases h
        have h1 := repl_none_length 32 (fold l)
        have h2 := repl_none_length 45 (repl 32 [] (fold l))
        have h3 := fold_length l
        omega
      · cases h
  lc l := by
    have h1 := repl_none_length 32 (fold l)
    have h2 := repl_none_length 45 (repl 32 [] (fold l))
    have h3 := fold_length l
    omega
  l1 _ := Nat.le_refl _
  l2 _ := Nat.le_refl _
  fp := 233
  fn := 232
  fc := 234
  ft := 193
  mp w := by kernel_rfl
  mn w := by kernel_rfl
  mc w := by kernel_rfl
  mt w := by kernel_rfl
  ep args w := by kernel_rfl
  en args w := by kernel_rfl
  ec args w := by kernel_rfl
  et args w := by kernel_rfl
  cp := phone_partial
  cn := phone_normal
  cc := phone_piece
  ct l W _ := plain_trim l W

def kOctet : KindC 267 where
  nrm := some
  pc l := l
  po _ := true
  t1 l := l
  t2 l := l
  ln l n h := by cases h; exact Nat.le_refl _
  lc _ := Nat.le_refl _
  l1 _ := Nat.le_refl _
  l2 _ := Nat.le_refl _
  fp := 239
  fn := 238
  fc := 240
  ft := 193
  mp w := by kernel_rfl
  mn w := by kernel_rfl
  mc w := by kernel_rfl
  mt w := by kernel_rfl
  ep args w := by kernel_rfl
  en args w := by kernel_rfl
  ec args w := by kernel_rfl
  et args w := by kernel_rfl
  cp := octet_partial
  cn l W _ _ := octet_normal l W
  cc l W _ _ := octet_piece l W
  ct l W _ := plain_trim l W
end Go.Proofs.YtmgfikfcnhhnhaaGreatDoor
