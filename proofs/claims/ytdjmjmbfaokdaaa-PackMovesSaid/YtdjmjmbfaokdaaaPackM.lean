/- Plain mathematics of chapter 3: packing and unpacking. No program in sight. -/
import Derived.Test.YtdjmjmbfaokdaaaPackB
import Derived.Test.YtdjmjmbfaokdaaaRefGet
namespace Go.Proofs.Ytdjmjmbfaokdaaa
set_option linter.unusedVariables false
open Varm

namespace Pk
/-- The numbers of a list; the gap behind one. -/
def nth (l : List UInt64) (i : Nat) : Nat := (l.getD i 0).toNat
def gap (l : List UInt64) (i : Nat) : Nat := nth l (i + 1) - nth l i - 1
/-- The list rises up to place k. -/
def Rises (l : List UInt64) (k : Nat) : Prop := ∀ j, j < k → nth l j < nth l (j + 1)
instance (l : List UInt64) (k : Nat) : Decidable (Rises l k) := by unfold Rises; infer_instance
/-- The bits that the greatest gap needs. -/
def width (l : List UInt64) : Nat → Nat
  | 0 => 0
  | k + 1 => max (width l k) (Go.Lib.bitLen (gap l k))
/-- All gaps' bits, w each. -/
def bitsF (l : List UInt64) (w : Nat) : Nat → Bool := fun j => (gap l (j / w)).testBit (j % w)
/-- What is laid when i gaps are done. -/
def laid (l : List UInt64) (w i : Nat) : Nat → Bool := fun j => if j < i * w then bitsF l w j else false
def pack (l : List UInt64) : List UInt8 × Nat :=
  if 65536 < l.length then ([], 3)
  else if ¬ Rises l (l.length - 1) then ([], 1)
  else if l.length = 0 then (one 0, 0)
  else if l.length = 1 then (one 1 ++ one (nth l 0), 0)
  else (one l.length ++ one (nth l 0) ++ [UInt8.ofNat (width l (l.length - 1))] ++ mkB (laid l (width l (l.length - 1)) (l.length - 1)) (packSize (l.length - 1) (width l (l.length - 1))), 0)

theorem nth_lt (l : List UInt64) (i : Nat) : nth l i < 18446744073709551616 := UInt64.toNat_lt _
theorem gap_lt (l : List UInt64) (i : Nat) : gap l i < 18446744073709551616 := by
  have := nth_lt l (i + 1)
  unfold gap; omega
theorem bitLen_lt (x : Nat) (h : x < 18446744073709551616) : x < 2 ^ Go.Lib.bitLen x := by
  by_cases h0 : x = 0
  · subst h0; decide
  · exact (Go.Lib.bitLenAux_bounds 64 x h h0).2.2
theorem width_le (l : List UInt64) : ∀ k, width l k ≤ 64
  | 0 => by simp [width]
  | k + 1 => by
    have := width_le l k
    have h2 := Go.Lib.bitLen_le (gap l k) 64 (by omega) (gap_lt l k)
    simp only [width]; omega
theorem width_mono (l : List UInt64) {j k : Nat} (h : j < k) : Go.Lib.bitLen (gap l j) ≤ width l k := by
  induction k with
  | zero => omega
  | succ k ih =>
    simp only [width]
    rcases Nat.lt_or_ge j k with h1 | h1
    · have := ih h1; omega
    · obtain rfl : j = k := by omega
      omega
theorem gap_bits (l : List UInt64) {j k : Nat} (h : j < k) : gap l j < 2 ^ width l k :=
  Nat.lt_of_lt_of_le (bitLen_lt _ (gap_lt l j)) (Nat.pow_le_pow_right (by omega) (width_mono l h))

theorem laid_succ (l : List UInt64) (w i : Nat) (h : gap l i < 2 ^ w) : setBits (laid l w i) (i * w) w (gap l i) = laid l w (i + 1) := by
  funext j
  unfold setBits laid
  have e : (i + 1) * w = i * w + w := by rw [Nat.add_mul, Nat.one_mul]
  by_cases h1 : j < i * w
  · rw [if_neg (by omega), if_pos h1, if_pos (by omega)]
  · by_cases h2 : j < i * w + w
    · rw [if_pos (by omega), if_pos (by omega)]
      unfold bitsF
      have hw : 0 < w := by omega
      have e1 : j / w = i := by
        rw [Nat.div_eq_iff hw]
        have : (i + 1) * w = i * w + w := e
        omega
      have e2 : j % w = j - i * w := by
        have := Nat.div_add_mod j w
        rw [e1, Nat.mul_comm] at this
        omega
      rw [e1, e2]
    · rw [if_neg (by omega), if_neg h1, if_neg (by omega)]
theorem laid_zero (l : List UInt64) (w : Nat) : laid l w 0 = fun _ => false := by
  funext j; unfold laid; rw [if_neg (by omega)]
theorem laid_zero_w (l : List UInt64) (i j : Nat) : laid l 0 i = laid l 0 j := by
  funext k; unfold laid; rw [if_neg (by omega), if_neg (by omega)]
theorem mkB_false (n : Nat) : mkB (fun _ => false) n = List.replicate n 0 := by
  refine List.ext_getElem? fun k => ?_
  rcases Nat.lt_or_ge k n with h | h
  · rw [mkB_get _ _ _ h]; simp [h]; rfl
  · rw [List.getElem?_eq_none (by rw [mkB_len]; exact h)]; simp; omega
theorem packSize_bits (n w : Nat) : n * w ≤ 8 * packSize n w := by unfold packSize; omega
theorem packSize_le (n w : Nat) (hn : n ≤ 65536) (hw : w ≤ 64) : packSize n w ≤ 524288 := by
  have : n * w ≤ 65536 * 64 := Nat.mul_le_mul hn hw
  unfold packSize; omega

/-! ### unpacking -/
/-- The k-th number, bound to nothing. -/
def numAt (f : Nat → Bool) (w first : Nat) : Nat → Nat
  | 0 => first
  | k + 1 => numAt f w first k + getN f (k * w) w + 1
def needTo (f : Nat → Bool) (w : Nat) : Nat → Nat
  | 0 => 0
  | k + 1 => max (needTo f w k) (Go.Lib.bitLen (getN f (k * w) w))
/-- No bit behind the last. -/
def Clean (f : Nat → Bool) (m size : Nat) : Prop := ∀ j, j < 8 * size → m ≤ j → f j = false
instance (f : Nat → Bool) (m size : Nat) : Decidable (Clean f m size) := by unfold Clean; infer_instance
def numbers (f : Nat → Bool) (w first n : Nat) : List UInt64 := (List.range n).map fun k => UInt64.ofNat (numAt f w first k)
/-- The part behind the width. -/
def restOf (f : Nat → Bool) (w first n to : Nat) : List UInt64 × Nat × Nat :=
  if 18446744073709551616 ≤ numAt f w first n ∨ needTo f w n ≠ w ∨ ¬ Clean f (n * w) (packSize n w) then ([], 0, 6) else (numbers f w first (n + 1), to, 0)
/-- .. behind the first number. -/
def tailOf (b : List UInt8) (first n p : Nat) : List UInt64 × Nat × Nat :=
  if b.length ≤ p then ([], 0, 5)
  else if 64 < (b.getD p 0).toNat then ([], 0, 6)
  else if b.length < p + 1 + packSize n (b.getD p 0).toNat then ([], 0, 5)
  else restOf (bitAt (b.drop (p + 1))) (b.getD p 0).toNat first n (p + 1 + packSize n (b.getD p 0).toNat)
def unpack (b : List UInt8) (p : Int) : List UInt64 × Nat × Nat :=
  if (getAt b p).2.2 ≠ 0 then ([], 0, (getAt b p).2.2)
  else if 65536 < (getAt b p).1 then ([], 0, 3)
  else if (getAt b p).1 = 0 then ([], (getAt b p).2.1.toNat, 0)
  else if (getAt b (getAt b p).2.1).2.2 ≠ 0 then ([], 0, (getAt b (getAt b p).2.1).2.2)
  else if (getAt b p).1 = 1 then ([UInt64.ofNat (getAt b (getAt b p).2.1).1], (getAt b (getAt b p).2.1).2.1.toNat, 0)
  else tailOf b (getAt b (getAt b p).2.1).1 ((getAt b p).1 - 1) (getAt b (getAt b p).2.1).2.1.toNat
end Pk
end Go.Proofs.Ytdjmjmbfaokdaaa
