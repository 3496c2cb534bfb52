/- Plain mathematics of chapter 3: bits. No program in sight. -/
import Derived.Test.YtdjmjmbfaokdaaaLaws
import Derived.Test.YtdjmjmbfaokdaaaVarm
import Derived.Lib.BitFns
import Derived.Lib.ItoaNum
namespace Go.Proofs.Ytdjmjmbfaokdaaa
set_option linter.unusedVariables false
open Varm

namespace Pk
/-- The bytes that so many bits fill. -/
def packSize (n w : Nat) : Nat := (n * w + 7) / 8
def byte8 (b0 b1 b2 b3 b4 b5 b6 b7 : Bool) : Nat := b0.toNat + 2 * b1.toNat + 4 * b2.toNat + 8 * b3.toNat + 16 * b4.toNat + 32 * b5.toNat + 64 * b6.toNat + 128 * b7.toNat
def byteN (f : Nat → Bool) (k : Nat) : Nat := byte8 (f (8 * k)) (f (8 * k + 1)) (f (8 * k + 2)) (f (8 * k + 3)) (f (8 * k + 4)) (f (8 * k + 5)) (f (8 * k + 6)) (f (8 * k + 7))
def byteF (f : Nat → Bool) (k : Nat) : UInt8 := UInt8.ofNat (byteN f k)
def mkB (f : Nat → Bool) (n : Nat) : List UInt8 := (List.range n).map (byteF f)
/-- A list's bit. -/
def bitAt (bs : List UInt8) (j : Nat) : Bool := (bs.getD (j / 8) 0).toNat.testBit (j % 8)
/-- A number out of so many bits from one on. -/
def getN (f : Nat → Bool) (p : Nat) : Nat → Nat
  | 0 => 0
  | k + 1 => getN f p k + (f (p + k)).toNat * 2 ^ k
/-- So many bits of x are laid from one on. -/
def setBits (f : Nat → Bool) (p k x : Nat) : Nat → Bool := fun j => if p ≤ j ∧ j < p + k then x.testBit (j - p) else f j

theorem byte8_lt (b0 b1 b2 b3 b4 b5 b6 b7 : Bool) : byte8 b0 b1 b2 b3 b4 b5 b6 b7 < 256 := by
  revert b0 b1 b2 b3 b4 b5 b6 b7; decide +kernel
theorem byteN_lt (f : Nat → Bool) (k : Nat) : byteN f k < 256 := byte8_lt ..
theorem byteF_nat (f : Nat → Bool) (k : Nat) : (byteF f k).toNat = byteN f k := by
  have := byteN_lt f k
  simp [byteF]; omega
theorem byte8_bit : ∀ (b0 b1 b2 b3 b4 b5 b6 b7 : Bool), (byte8 b0 b1 b2 b3 b4 b5 b6 b7).testBit 0 = b0 ∧ (byte8 b0 b1 b2 b3 b4 b5 b6 b7).testBit 1 = b1 ∧ (byte8 b0 b1 b2 b3 b4 b5 b6 b7).testBit 2 = b2 ∧ (byte8 b0 b1 b2 b3 b4 b5 b6 b7).testBit 3 = b3 ∧
    (byte8 b0 b1 b2 b3 b4 b5 b6 b7).testBit 4 = b4 ∧ (byte8 b0 b1 b2 b3 b4 b5 b6 b7).testBit 5 = b5 ∧ (byte8 b0 b1 b2 b3 b4 b5 b6 b7).testBit 6 = b6 ∧ (byte8 b0 b1 b2 b3 b4 b5 b6 b7).testBit 7 = b7 := by decide +kernel
theorem byteN_bit (f : Nat → Bool) (k t : Nat) (ht : t < 8) : (byteN f k).testBit t = f (8 * k + t) := by
  have h := byte8_bit (f (8 * k)) (f (8 * k + 1)) (f (8 * k + 2)) (f (8 * k + 3)) (f (8 * k + 4)) (f (8 * k + 5)) (f (8 * k + 6)) (f (8 * k + 7))
  obtain ⟨h0, h1, h2, h3, h4, h5, h6, h7⟩ := h
  match t, ht with
  | 0, _ => exact h0
  | 1, _ => exact h1
  | 2, _ => exact h2
  | 3, _ => exact h3
  | 4, _ => exact h4
  | 5, _ => exact h5
  | 6, _ => exact h6
  | 7, _ => exact h7
theorem mkB_len (f : Nat → Bool) (n : Nat) : (mkB f n).length = n := by simp [mkB]
theorem mkB_get (f : Nat → Bool) (n k : Nat) (h : k < n) : (mkB f n)[k]? = some (byteF f k) := by simp [mkB, h]
theorem mkB_congr {f g : Nat → Bool} {n : Nat} (h : ∀ j, j < 8 * n → f j = g j) : mkB f n = mkB g n := by
  unfold mkB
  refine List.map_congr_left fun k hk => ?_
  have hk := List.mem_range.1 hk
  unfold byteF byteN
  rw [h _ (by omega), h _ (by omega), h _ (by omega), h _ (by omega), h _ (by omega), h _ (by omega), h _ (by omega), h _ (by omega)]
theorem bitAt_mkB {f : Nat → Bool} {n j : Nat} (h : j < 8 * n) : bitAt (mkB f n) j = f j := by
  unfold bitAt
  rw [List.getD, mkB_get f n (j / 8) (by omega), Option.getD_some, byteF_nat, byteN_bit f _ _ (Nat.mod_lt _ (by omega))]
  congr 1
  omega
/-- A byte is its eight bits. -/
theorem byte_bits : ∀ c : Fin 256, byte8 (c.val.testBit 0) (c.val.testBit 1) (c.val.testBit 2) (c.val.testBit 3) (c.val.testBit 4) (c.val.testBit 5) (c.val.testBit 6) (c.val.testBit 7) = c.val := by decide +kernel
theorem mkB_bitAt (bs : List UInt8) : mkB (bitAt bs) bs.length = bs := by
  refine List.ext_getElem? fun k => ?_
  rcases Nat.lt_or_ge k bs.length with h | h
  · rw [mkB_get _ _ _ h, List.getElem?_eq_getElem h]
    congr 1
    apply UInt8.toNat_inj.1
    rw [byteF_nat]
    have hb : ∀ t, t < 8 → bitAt bs (8 * k + t) = bs[k].toNat.testBit t := fun t ht => by
      unfold bitAt
      rw [List.getD, show (8 * k + t) / 8 = k by omega, List.getElem?_eq_getElem h, show (8 * k + t) % 8 = t by omega]
      rfl
    have h0 := hb 0 (by omega)
    rw [Nat.add_zero] at h0
    unfold byteN
    rw [h0, hb 1 (by omega), hb 2 (by omega), hb 3 (by omega), hb 4 (by omega), hb 5 (by omega), hb 6 (by omega), hb 7 (by omega)]
    exact byte_bits ⟨bs[k].toNat, UInt8.toNat_lt _⟩
  · rw [List.getElem?_eq_none h, List.getElem?_eq_none (by rw [mkB_len]; exact h)]

/-- One bit more is laid into a byte. -/
theorem byte8_or : ∀ (b0 b1 b2 b3 b4 b5 b6 b7 : Bool),
    (b0 = false → ∀ b : Bool, byte8 b b1 b2 b3 b4 b5 b6 b7 = byte8 b0 b1 b2 b3 b4 b5 b6 b7 ||| b.toNat * 1) ∧ (b1 = false → ∀ b : Bool, byte8 b0 b b2 b3 b4 b5 b6 b7 = byte8 b0 b1 b2 b3 b4 b5 b6 b7 ||| b.toNat * 2) ∧
    (b2 = false → ∀ b : Bool, byte8 b0 b1 b b3 b4 b5 b6 b7 = byte8 b0 b1 b2 b3 b4 b5 b6 b7 ||| b.toNat * 4) ∧ (b3 = false → ∀ b : Bool, byte8 b0 b1 b2 b b4 b5 b6 b7 = byte8 b0 b1 b2 b3 b4 b5 b6 b7 ||| b.toNat * 8) ∧
    (b4 = false → ∀ b : Bool, byte8 b0 b1 b2 b3 b b5 b6 b7 = byte8 b0 b1 b2 b3 b4 b5 b6 b7 ||| b.toNat * 16) ∧ (b5 = false → ∀ b : Bool, byte8 b0 b1 b2 b3 b4 b b6 b7 = byte8 b0 b1 b2 b3 b4 b5 b6 b7 ||| b.toNat * 32) ∧
    (b6 = false → ∀ b : Bool, byte8 b0 b1 b2 b3 b4 b5 b b7 = byte8 b0 b1 b2 b3 b4 b5 b6 b7 ||| b.toNat * 64) ∧ (b7 = false → ∀ b : Bool, byte8 b0 b1 b2 b3 b4 b5 b6 b = byte8 b0 b1 b2 b3 b4 b5 b6 b7 ||| b.toNat * 128) := by decide +kernel
theorem byteN_set (f : Nat → Bool) (p : Nat) (b : Bool) (h : f p = false) : byteN (fun j => if j = p then b else f j) (p / 8) = byteN f (p / 8) ||| b.toNat * 2 ^ (p % 8) := by
  obtain ⟨h0, h1, h2, h3, h4, h5, h6, h7⟩ := byte8_or (f (8 * (p / 8))) (f (8 * (p / 8) + 1)) (f (8 * (p / 8) + 2)) (f (8 * (p / 8) + 3)) (f (8 * (p / 8) + 4)) (f (8 * (p / 8) + 5)) (f (8 * (p / 8) + 6)) (f (8 * (p / 8) + 7))
  have hp : p = 8 * (p / 8) + p % 8 := (Nat.div_add_mod p 8).symm
  have ht : p % 8 < 8 := Nat.mod_lt _ (by omega)
  unfold byteN
  generalize p / 8 = k at *
  generalize p % 8 = t at *
  match t, ht with
  | 0, _ => subst hp; simpa using h0 h b
  | 1, _ => subst hp; simpa using h1 h b
  | 2, _ => subst hp; simpa using h2 h b
  | 3, _ => subst hp; simpa using h3 h b
  | 4, _ => subst hp; simpa using h4 h b
  | 5, _ => subst hp; simpa using h5 h b
  | 6, _ => subst hp; simpa using h6 h b
  | 7, _ => subst hp; simpa using h7 h b
theorem byteN_other (f : Nat → Bool) (p k : Nat) (b : Bool) (h : k ≠ p / 8) : byteN (fun j => if j = p then b else f j) k = byteN f k := by
  unfold byteN
  simp only [show 8 * k ≠ p by omega, show 8 * k + 1 ≠ p by omega, show 8 * k + 2 ≠ p by omega, show 8 * k + 3 ≠ p by omega, show 8 * k + 4 ≠ p by omega, show 8 * k + 5 ≠ p by omega, show 8 * k + 6 ≠ p by omega, show 8 * k + 7 ≠ p by omega, if_false]
/-- .. and into the bytes. -/
theorem mkB_set (f : Nat → Bool) (n p : Nat) (b : Bool) (hp : p / 8 < n) (h : f p = false) : (mkB f n).set (p / 8) (UInt8.ofNat (byteN f (p / 8) ||| b.toNat * 2 ^ (p % 8))) = mkB (fun j => if j = p then b else f j) n := by
  refine List.ext_getElem? fun k => ?_
  rcases Nat.lt_or_ge k n with hk | hk
  · rw [mkB_get _ _ _ hk, List.getElem?_set]
    split
    · rename_i e
      subst e
      rw [if_pos (by rw [mkB_len]; exact hp), ← byteN_set f p b h]
      rfl
    · rename_i e
      rw [mkB_get _ _ _ hk]
      unfold byteF
      rw [byteN_other f p k b (fun h => e h.symm)]
  · rw [List.getElem?_eq_none (by rw [List.length_set, mkB_len]; exact hk), List.getElem?_eq_none (by rw [mkB_len]; exact hk)]
theorem setBits_zero (f : Nat → Bool) (p x : Nat) : setBits f p 0 x = f := by
  funext j
  unfold setBits
  rw [if_neg (by omega)]
theorem setBits_succ (f : Nat → Bool) (p k x : Nat) : setBits f p (k + 1) x = fun j => if j = p + k then x.testBit k else setBits f p k x j := by
  funext j
  unfold setBits
  by_cases e : j = p + k
  · subst e; rw [if_pos (by omega), if_pos rfl, Nat.add_sub_cancel_left]
  · rw [if_neg e]
    by_cases h : p ≤ j ∧ j < p + k
    · rw [if_pos h, if_pos (by omega)]
    · rw [if_neg h, if_neg (by omega)]

theorem getN_lt (f : Nat → Bool) (p : Nat) : ∀ k, getN f p k < 2 ^ k
  | 0 => by simp [getN]
  | k + 1 => by
    have := getN_lt f p k
    have h2 : (f (p + k)).toNat ≤ 1 := Bool.toNat_le _
    have h3 : (f (p + k)).toNat * 2 ^ k ≤ 1 * 2 ^ k := Nat.mul_le_mul_right _ h2
    rw [getN, Nat.pow_succ]
    omega
theorem getN_congr {f g : Nat → Bool} {p q : Nat} : ∀ {k : Nat}, (∀ j, j < k → f (p + j) = g (q + j)) → getN f p k = getN g q k
  | 0, _ => rfl
  | k + 1, h => by rw [getN, getN, getN_congr (k := k) (fun j hj => h j (by omega)), h k (by omega)]
theorem testBit_split (x k : Nat) : x % 2 ^ (k + 1) = x % 2 ^ k + (x.testBit k).toNat * 2 ^ k := by
  rw [Nat.pow_succ, Nat.mod_mul, Nat.mul_comm (2 ^ k) (x / 2 ^ k % 2)]
  congr 2
  rw [Nat.testBit_eq_decide_div_mod_eq]
  rcases Nat.mod_two_eq_zero_or_one (x / 2 ^ k) with h | h <;> simp [h]
theorem getN_mod (x : Nat) : ∀ k, getN (fun j => x.testBit j) 0 k = x % 2 ^ k
  | 0 => by simp [getN, Nat.mod_one]
  | k + 1 => by rw [getN, getN_mod x k, testBit_split, Nat.zero_add]
theorem getN_of {f : Nat → Bool} {p k x : Nat} (hx : x < 2 ^ k) (h : ∀ j, j < k → f (p + j) = x.testBit j) : getN f p k = x := by
  rw [getN_congr (g := fun j => x.testBit j) (q := 0) (fun j hj => by rw [h j hj, Nat.zero_add]), getN_mod, Nat.mod_eq_of_lt hx]
theorem getN_bit (f : Nat → Bool) (p : Nat) : ∀ k j, j < k → (getN f p k).testBit j = f (p + j)
  | 0, j, h => by omega
  | k + 1, j, h => by
    have hl := getN_lt f p k
    rw [getN, Nat.add_comm, Nat.mul_comm, Nat.testBit_two_pow_mul_add _ hl]
    split
    · exact getN_bit f p k j (by assumption)
    · have : j = k := by omega
      subst this
      rw [Nat.sub_self]
      cases f (p + j) <;> rfl
theorem getN_zero (f : Nat → Bool) (p : Nat) : ∀ k, getN f p k = 0 ↔ ∀ j, j < k → f (p + j) = false
  | 0 => by simp [getN]
  | k + 1 => by
    have ih := getN_zero f p k
    have hpos : 0 < 2 ^ k := Nat.two_pow_pos k
    rw [getN]
    constructor
    · intro h j hj
      have h1 : getN f p k = 0 := by omega
      have h2 : (f (p + k)).toNat * 2 ^ k = 0 := by omega
      have h3 : (f (p + k)).toNat = 0 := by
        rcases Nat.mul_eq_zero.1 h2 with h | h
        · exact h
        · omega
      rcases Nat.lt_or_ge j k with h4 | h4
      · exact ih.1 h1 j h4
      · obtain rfl : j = k := by omega
        cases hf : f (p + j) with
        | false => rfl
        | true => rw [hf] at h3; cases h3
    · intro h
      rw [ih.2 (fun j hj => h j (by omega)), h k (by omega)]
      simp
/-- The upper part, as the reference makes it. -/
theorem getN_high (f : Nat → Bool) (p k m : Nat) : getN f p (k + m) = getN f p k + 2 ^ k * getN f (p + k) m := by
  induction m with
  | zero => simp [getN]
  | succ m ih =>
    rw [← Nat.add_assoc, getN, ih, getN, Nat.mul_add, Nat.pow_add, Nat.add_assoc, Nat.add_assoc p k m]
    congr 1
    congr 1
    rw [← Nat.mul_assoc, ← Nat.mul_assoc, Nat.mul_comm (2 ^ k)]
theorem getN_low (f : Nat → Bool) (p m : Nat) : getN f p (m + 1) = (f p).toNat + 2 * getN f (p + 1) m := by
  have := getN_high f p 1 m
  rw [Nat.add_comm 1 m] at this
  rw [this]
  simp [getN]
end Pk
end Go.Proofs.Ytdjmjmbfaokdaaa
