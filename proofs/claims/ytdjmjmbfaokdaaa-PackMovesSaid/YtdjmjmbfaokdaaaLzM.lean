/- Plain mathematics of chapter 4: parts that are laid, blocks that are expanded. No program in sight. -/
import Derived.Test.YtdjmjmbfaokdaaaLaws
import Derived.Test.YtdjmjmbfaokdaaaVarm
namespace Go.Proofs.Ytdjmjmbfaokdaaa
set_option linter.unusedVariables false
open Varm

theorem getAt_range4 (bs : List UInt8) (at_ : Int) : (getAt bs at_).1 < 18446744073709551616 ∧ 0 ≤ (getAt bs at_).2.1 ∧ (getAt bs at_).2.1 ≤ bs.length ∧ (getAt bs at_).2.2 ≤ 6 ∧ ((getAt bs at_).2.2 = 0 → 0 ≤ at_ ∧ at_ < (getAt bs at_).2.1) := by
  unfold getAt
  split
  · exact ⟨by decide, by simp, by simp, by simp, by simp⟩
  · rename_i hn
    split
    · rename_i h0
      have h1 := getA_ok0 (bs := bs.drop at_.toNat) (m := (getA (bs.drop at_.toNat) 0 0).1) (t := (getA (bs.drop at_.toNat) 0 0).2.1) (Prod.ext rfl (Prod.ext rfl h0))
      obtain ⟨h2, h3, -, -, h5⟩ := h1
      rw [List.length_drop] at h3
      exact ⟨h5, by simp only; omega, by simp only; omega, by simp, fun _ => by simp only; omega⟩
    · rename_i h0
      have := getA_errs (bs.drop at_.toNat) 0 0
      exact ⟨by simp, by simp, by simp, by simp only; omega, fun h => absurd h h0⟩

/-- So many bytes more, each the one that lies d back. -/
def copyTo (out : List UInt8) (d : Nat) : Nat → List UInt8
  | 0 => out
  | k + 1 => copyTo out d k ++ [(copyTo out d k).getD ((copyTo out d k).length - d) 0]
theorem copyTo_len (out : List UInt8) (d : Nat) : ∀ k, (copyTo out d k).length = out.length + k
  | 0 => rfl
  | k + 1 => by rw [copyTo, List.length_append, copyTo_len out d k]; simp; omega
/-- What stood ahead stays. -/
theorem copyTo_get (out : List UInt8) (d : Nat) : ∀ k i, i < out.length + k → ∀ j, k ≤ j → (copyTo out d j).getD i 0 = (copyTo out d k).getD i 0 := by
  intro k i hi j hj
  induction j with
  | zero => rw [show k = 0 by omega]
  | succ j ih =>
    by_cases e : k = j + 1
    · rw [e]
    · rw [copyTo, ← ih (by omega), List.getD, List.getD, List.getElem?_append_left (by rw [copyTo_len]; omega)]
      rfl
/-- From the start on, as the reference lays them. -/
theorem copyTo_start (out : List UInt8) (d : Nat) (hd : 0 < d) (hl : d ≤ out.length) (k : Nat) : (copyTo out d k).getD ((copyTo out d k).length - d) 0 = (copyTo out d k).getD (out.length - d + k) 0 := by
  rw [copyTo_len, show out.length + k - d = out.length - d + k by omega]

/-- One part: what is out then, from where on one reads, the error. -/
def partAt (out b : List UInt8) (at_ total : Nat) : List UInt8 × Nat × Nat :=
  if (getAt b at_).2.2 ≠ 0 then ([], 0, (getAt b at_).2.2)
  else if (getAt b at_).1 / 2 = 0 ∨ ((getAt b at_).1 % 2 = 1 ∧ (getAt b at_).1 / 2 < 4) ∨ total - out.length < (getAt b at_).1 / 2 then ([], 0, 6)
  else if (getAt b at_).1 % 2 = 0 then
    if b.length - (getAt b at_).2.1.toNat < (getAt b at_).1 / 2 then ([], 0, 5)
    else (out ++ (b.drop (getAt b at_).2.1.toNat).take ((getAt b at_).1 / 2), (getAt b at_).2.1.toNat + (getAt b at_).1 / 2, 0)
  else if (getAt b (getAt b at_).2.1).2.2 ≠ 0 then ([], 0, (getAt b (getAt b at_).2.1).2.2)
  else if (getAt b (getAt b at_).2.1).1 = 0 ∨ out.length < (getAt b (getAt b at_).2.1).1 then ([], 0, 6)
  else (copyTo out (getAt b (getAt b at_).2.1).1 ((getAt b at_).1 / 2), (getAt b (getAt b at_).2.1).2.1.toNat, 0)

theorem partAt_ok {out b : List UInt8} {at_ total : Nat} (ho : out.length ≤ total) (h : (partAt out b at_ total).2.2 = 0) :
    out.length < (partAt out b at_ total).1.length ∧ (partAt out b at_ total).1.length ≤ total ∧ at_ < (partAt out b at_ total).2.1 ∧ (partAt out b at_ total).2.1 ≤ b.length := by
  obtain ⟨r1, r2, r3, r4, r5⟩ := getAt_range4 b at_
  obtain ⟨q1, q2, q3, q4, q5⟩ := getAt_range4 b (getAt b at_).2.1
  unfold partAt at h ⊢
  split
  · rename_i h1
    rw [if_pos h1] at h
    exact absurd h h1
  · rename_i h1
    rw [if_neg h1] at h
    have r6 := r5 (by simpa using h1)
    split
    · rename_i h2
      rw [if_pos h2] at h
      cases h
    · rename_i h2
      rw [if_neg h2] at h
      split
      · rename_i h3
        rw [if_pos h3] at h
        split
        · rename_i h4
          rw [if_pos h4] at h
          cases h
        · rename_i h4
          have hl : ((b.drop (getAt b at_).2.1.toNat).take ((getAt b at_).1 / 2)).length = (getAt b at_).1 / 2 := by
            rw [List.length_take, List.length_drop]; omega
          simp only [List.length_append, hl]
          omega
      · rename_i h3
        rw [if_neg h3] at h
        split
        · rename_i h4
          rw [if_pos h4] at h
          exact absurd h h4
        · rename_i h4
          have q6 := q5 (by simpa using h4)
          rw [if_neg h4] at h
          split
          · rename_i h5
            rw [if_pos h5] at h
            cases h
          · simp only [copyTo_len]
            omega

/-- The parts one behind the other. -/
def partsAt : Nat → List UInt8 → List UInt8 → Nat → Nat → List UInt8 × Nat
  | 0, _, _, _, _ => ([], 6)
  | f + 1, out, b, at_, total =>
    if b.length ≤ at_ then (if out.length < total then ([], 5) else (out, 0))
    else if (partAt out b at_ total).2.2 ≠ 0 then ([], (partAt out b at_ total).2.2)
    else partsAt f (partAt out b at_ total).1 b (partAt out b at_ total).2.1 total
def expand (b : List UInt8) (most : Int) : List UInt8 × Nat :=
  if (getAt b 0).2.2 ≠ 0 then ([], (getAt b 0).2.2)
  else if most < 0 ∨ most < (getAt b 0).1 ∨ 65536 < (getAt b 0).1 then ([], 4)
  else partsAt (b.length + 1) [] b (getAt b 0).2.1.toNat (getAt b 0).1
end Go.Proofs.Ytdjmjmbfaokdaaa
