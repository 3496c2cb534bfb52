/- Plain mathematics of chapter 4: compressing. No program in sight. -/
import Derived.Test.YtdjmjmbfaokdaaaLzM
namespace Go.Proofs.Ytdjmjmbfaokdaaa
set_option linter.unusedVariables false
open Varm

/-- How many bytes two lists have alike from the head on. -/
def cpl : List UInt8 → List UInt8 → Nat
  | x :: xs, y :: ys => if x = y then cpl xs ys + 1 else 0
  | _, _ => 0
def sameAt (b : List UInt8) (i j : Nat) : Nat := cpl (b.drop i) (b.drop j)
def litOf (out l : List UInt8) : List UInt8 := if l = [] then out else out ++ one (2 * l.length) ++ l
def keyAt (b : List UInt8) (p : Nat) : List UInt8 := (b.drop p).take 4

theorem cpl_le : ∀ (x y : List UInt8), cpl x y ≤ y.length
  | [], y => by simp [cpl]
  | _ :: _, [] => by simp [cpl]
  | a :: xs, c :: ys => by
    have := cpl_le xs ys
    simp only [cpl]
    split
    · simp; omega
    · simp
theorem cpl_get : ∀ (x y : List UInt8) (k : Nat), k < cpl x y → x[k]? = y[k]?
  | [], y, k, h => by simp [cpl] at h
  | _ :: _, [], k, h => by simp [cpl] at h
  | a :: xs, c :: ys, k, h => by
    simp only [cpl] at h
    split at h
    · rename_i e
      cases k with
      | zero => simp [e]
      | succ k => simpa using cpl_get xs ys k (by omega)
    · omega
theorem cpl_stop : ∀ (x y : List UInt8) (k : Nat) (hx : k < x.length) (hy : k < y.length), (∀ i, i < k → x[i]? = y[i]?) → x[k] ≠ y[k] → cpl x y = k
  | [], _, k, hx, _, _, _ => by simp at hx
  | _ :: _, [], k, _, hy, _, _ => by simp at hy
  | a :: xs, c :: ys, k, hx, hy, h, hne => by
    cases k with
    | zero =>
      simp only [List.getElem_cons_zero] at hne
      simp [cpl, hne]
    | succ k =>
      have h0 := h 0 (by omega)
      simp only [List.getElem?_cons_zero, Option.some.injEq] at h0
      simp only [List.getElem_cons_succ] at hne
      have := cpl_stop xs ys k (by simpa using hx) (by simpa using hy) (fun i hi => by simpa using h (i + 1) (by omega)) hne
      simp [cpl, h0, this]
theorem cpl_end : ∀ (x y : List UInt8), y.length ≤ x.length → (∀ i, i < y.length → x[i]? = y[i]?) → cpl x y = y.length
  | x, [], _, _ => by cases x <;> simp [cpl]
  | [], c :: ys, hl, _ => by simp at hl
  | a :: xs, c :: ys, hl, h => by
    have h0 := h 0 (by simp)
    simp only [List.getElem?_cons_zero, Option.some.injEq] at h0
    have := cpl_end xs ys (by simpa using hl) (fun i hi => by simpa using h (i + 1) (by simp; omega))
    simp [cpl, h0, this]

/-- The compressing, round by round. -/
def compS (b : List UInt8) : Nat → List UInt8 → (List UInt8 → Option Nat) → Nat → Nat → List UInt8
  | 0, out, _, from_, _ => litOf out (b.drop from_)
  | f + 1, out, S, from_, p =>
    if b.length < p + 4 then litOf out (b.drop from_)
    else if (if (S (keyAt b p)).isSome then sameAt b ((S (keyAt b p)).getD 0) p else 0) < 8 then compS b f out (fun k => if k = keyAt b p then some p else S k) from_ (p + 1)
    else compS b f (litOf out ((b.drop from_).take (p - from_)) ++ (one (2 * sameAt b ((S (keyAt b p)).getD 0) p + 1) ++ one (p - (S (keyAt b p)).getD 0))) (fun k => if k = keyAt b p then some p else S k)
      (p + sameAt b ((S (keyAt b p)).getD 0) p) (p + sameAt b ((S (keyAt b p)).getD 0) p)
def compress (b : List UInt8) : List UInt8 × Nat :=
  if 65536 < b.length then ([], 4) else (compS b (b.length + 1) (one b.length) (fun _ => none) 0 0, 0)
theorem compS_skip {b : List UInt8} {f : Nat} {out : List UInt8} {S : List UInt8 → Option Nat} {from_ p : Nat} (h : p + 4 ≤ b.length) (h8 : (if (S (keyAt b p)).isSome then sameAt b ((S (keyAt b p)).getD 0) p else 0) < 8) :
    compS b (f + 1) out S from_ p = compS b f out (fun k => if k = keyAt b p then some p else S k) from_ (p + 1) := by
  rw [compS, if_neg (by omega), if_pos h8]
theorem compS_match {b : List UInt8} {f : Nat} {out : List UInt8} {S : List UInt8 → Option Nat} {from_ p q : Nat} (h : p + 4 ≤ b.length) (hS : S (keyAt b p) = some q) (h8 : 8 ≤ sameAt b q p) :
    compS b (f + 1) out S from_ p = compS b f (litOf out ((b.drop from_).take (p - from_)) ++ (one (2 * sameAt b q p + 1) ++ one (p - q))) (fun k => if k = keyAt b p then some p else S k) (p + sameAt b q p) (p + sameAt b q p) := by
  rw [compS, if_neg (by omega), if_neg (by rw [hS]; simp; omega), hS]
  rfl
theorem compS_end {b : List UInt8} {f : Nat} {out : List UInt8} {S : List UInt8 → Option Nat} {from_ p : Nat} (h : b.length < p + 4) : compS b f out S from_ p = litOf out (b.drop from_) := by
  cases f with
  | zero => rfl
  | succ f => rw [compS, if_pos h]
theorem sameAt_le (b : List UInt8) (i j : Nat) : sameAt b i j ≤ b.length - j := by
  have := cpl_le (b.drop i) (b.drop j)
  rwa [List.length_drop] at this
theorem litOf_len (out l : List UInt8) (h : 2 * l.length < 18446744073709551616) : (litOf out l).length ≤ out.length + 10 + l.length := by
  unfold litOf
  split
  · omega
  · have := one_len (2 * l.length) h
    simp only [List.length_append]
    omega
end Go.Proofs.Ytdjmjmbfaokdaaa
