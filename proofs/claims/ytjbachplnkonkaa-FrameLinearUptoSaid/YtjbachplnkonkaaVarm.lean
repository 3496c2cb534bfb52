/- Plain mathematics of chapter 1: numbers by sevens of bits. No program in sight. -/
import Derived.Test.YtjbachplnkonkaaRows
namespace Go.Proofs.Ytjbachplnkonkaa.Varm
set_option linter.unusedVariables false

/-- A number's shortest form. -/
def one (n : Nat) : List UInt8 := if n < 128 then [UInt8.ofNat n] else UInt8.ofNat (128 + n % 128) :: one (n / 128)
termination_by n
decreasing_by omega

def putAll (ns : List UInt64) : List UInt8 := ns.flatMap fun n => one n.toNat

/-- What is read of a list of bytes: the number, how many bytes, the error. -/
def getA : List UInt8 → Nat → Nat → Nat × Nat × Nat
  | [], _, _ => (0, 0, 5)
  | c :: r, k, acc =>
    if k = 9 ∧ 1 < c.toNat then (0, 0, 6)
    else if c.toNat < 128 then (if c.toNat = 0 ∧ 0 < k then (0, 0, 6) else (acc + c.toNat * 128 ^ k, k + 1, 0))
    else getA r (k + 1) (acc + c.toNat % 128 * 128 ^ k)

/-- At a place of all bytes. -/
def getAt (bs : List UInt8) (at_ : Int) : Nat × Int × Nat :=
  if at_ < 0 ∨ (bs.length : Int) < at_ then (0, 0, 1)
  else if (getA (bs.drop at_.toNat) 0 0).2.2 = 0 then ((getA (bs.drop at_.toNat) 0 0).1, at_ + (getA (bs.drop at_.toNat) 0 0).2.1, 0)
  else (0, 0, (getA (bs.drop at_.toNat) 0 0).2.2)

theorem one_lt {n : Nat} (h : n < 128) : one n = [UInt8.ofNat n] := by rw [one, if_pos h]
theorem one_ge {n : Nat} (h : 128 ≤ n) : one n = UInt8.ofNat (128 + n % 128) :: one (n / 128) := by rw [one, if_neg (by omega)]

theorem one_ne_nil (n : Nat) : one n ≠ [] := by
  by_cases h : n < 128
  · simp [one_lt h]
  · simp [one_ge (Nat.le_of_not_lt h)]

theorem one_pos (n : Nat) : 1 ≤ (one n).length := by
  have := one_ne_nil n
  cases h : one n with
  | nil => exact absurd h this
  | cons a r => simp

theorem one_len_pow : ∀ (j n : Nat), n < 128 ^ (j + 1) → (one n).length ≤ j + 1
  | 0, n, h => by rw [one_lt (by simpa using h)]; simp
  | j + 1, n, h => by
    by_cases hn : n < 128
    · rw [one_lt hn]; simp
    · rw [one_ge (by omega)]
      have : n / 128 < 128 ^ (j + 1) := by
        rw [Nat.div_lt_iff_lt_mul (by omega)]; rw [Nat.pow_succ] at h; exact h
      have := one_len_pow j (n / 128) this
      simp; omega

theorem one_len (n : Nat) (h : n < 18446744073709551616) : (one n).length ≤ 10 :=
  one_len_pow 9 n (by have : (18446744073709551616 : Nat) ≤ 128 ^ 10 := by decide
                      omega)

theorem putAll_nil : putAll [] = [] := rfl
theorem putAll_cons (n : UInt64) (r : List UInt64) : putAll (n :: r) = one n.toNat ++ putAll r := by simp [putAll]
theorem putAll_append (a b : List UInt64) : putAll (a ++ b) = putAll a ++ putAll b := by simp [putAll]
theorem putAll_length (ns : List UInt64) : (putAll ns).length ≤ 10 * ns.length := by
  induction ns with
  | nil => simp [putAll_nil]
  | cons n r ih =>
    rw [putAll_cons, List.length_append, List.length_cons]
    have := one_len n.toNat (UInt64.toNat_lt n)
    omega

/-- What is written is read, whatever stands behind it. -/
theorem getA_one : ∀ (n : Nat) (rest : List UInt8) (k acc : Nat), n * 128 ^ k < 18446744073709551616 → (0 < n ∨ k = 0) → k ≤ 9 →
    getA (one n ++ rest) k acc = (acc + n * 128 ^ k, k + (one n).length, 0) := by
  intro n
  induction n using Nat.strongRecOn with
  | _ n ih =>
    intro rest k acc hlt hpos hk
    by_cases hn : n < 128
    · rw [one_lt hn]
      have e : (UInt8.ofNat n).toNat = n := by simp; omega
      simp only [List.cons_append, List.nil_append, getA, e]
      have h9 : ¬ (k = 9 ∧ 1 < n) := by
        rintro ⟨rfl, h1⟩
        have : (128 : Nat) ^ 9 = 9223372036854775808 := by decide
        omega
      rw [if_neg h9, if_pos hn, if_neg (by omega)]
      simp
    · have hn' : 128 ≤ n := by omega
      rw [one_ge hn']
      have e : (UInt8.ofNat (128 + n % 128)).toNat = 128 + n % 128 := by simp; omega
      simp only [List.cons_append, getA, e]
      have hk9 : k ≤ 8 := by
        rcases Nat.lt_or_ge k 9 with h | h
        · omega
        · have hk9 : k = 9 := by omega
          subst hk9
          have : (128 : Nat) ^ 9 = 9223372036854775808 := by decide
          omega
      rw [if_neg (by omega), if_neg (by omega)]
      have hp : 128 ^ (k + 1) = 128 ^ k * 128 := Nat.pow_succ ..
      have hdm : n = 128 * (n / 128) + n % 128 := (Nat.div_add_mod n 128).symm
      have hle : n / 128 * 128 ^ (k + 1) ≤ n * 128 ^ k := by
        rw [hp, Nat.mul_comm (128 ^ k) 128, ← Nat.mul_assoc]
        exact Nat.mul_le_mul_right _ (by omega)
      rw [ih (n / 128) (by omega) rest (k + 1) _ (by omega) (.inl (by omega)) (by omega)]
      have h1 : (128 + n % 128) % 128 = n % 128 := by omega
      have h2 : n % 128 * 128 ^ k + n / 128 * 128 ^ (k + 1) = n * 128 ^ k := by
        rw [hp, Nat.mul_comm (128 ^ k) 128, ← Nat.mul_assoc, ← Nat.add_mul]
        congr 1
        omega
      rw [h1, List.length_cons]
      refine Prod.ext (by omega) (Prod.ext (by simp only; omega) rfl)

theorem getA_one0 (n : Nat) (rest : List UInt8) (h : n < 18446744073709551616) : getA (one n ++ rest) 0 0 = (n, (one n).length, 0) := by
  have := getA_one n rest 0 0 (by simpa using h) (.inr rfl) (by omega)
  simpa using this

/-- A beginning is too short. -/
theorem getA_short : ∀ (n : Nat) (j k acc : Nat), n * 128 ^ k < 18446744073709551616 → k ≤ 9 → j < (one n).length →
    (getA ((one n).take j) k acc).2.2 = 5 := by
  intro n
  induction n using Nat.strongRecOn with
  | _ n ih =>
    intro j k acc hlt hk hj
    cases j with
    | zero => simp [getA]
    | succ j =>
      by_cases hn : n < 128
      · rw [one_lt hn] at hj; simp at hj
      · have hn' : 128 ≤ n := by omega
        rw [one_ge hn'] at hj ⊢
        have e : (UInt8.ofNat (128 + n % 128)).toNat = 128 + n % 128 := by simp; omega
        simp only [List.take_succ_cons, getA, e]
        have hk9 : k ≤ 8 := by
          rcases Nat.lt_or_ge k 9 with h | h
          · omega
          · have hk9 : k = 9 := by omega
            subst hk9
            have : (128 : Nat) ^ 9 = 9223372036854775808 := by decide
            omega
        rw [if_neg (by omega), if_neg (by omega)]
        have hp : 128 ^ (k + 1) = 128 ^ k * 128 := Nat.pow_succ ..
        have hle : n / 128 * 128 ^ (k + 1) ≤ n * 128 ^ k := by
          rw [hp, Nat.mul_comm (128 ^ k) 128, ← Nat.mul_assoc]
          exact Nat.mul_le_mul_right _ (by omega)
        refine ih (n / 128) (by omega) j (k + 1) _ (by omega) (by omega) ?_
        simpa using hj

/-- What is read is written as the bytes that were read. -/
theorem getA_ok : ∀ (bs : List UInt8) (k acc m t : Nat), getA bs k acc = (m, t, 0) → k ≤ 9 →
    ∃ q, m = acc + q * 128 ^ k ∧ k < t ∧ t ≤ k + bs.length ∧ one q = bs.take (t - k) ∧ t ≤ 10 ∧ q * 128 ^ k < 18446744073709551616 ∧ (0 < q ∨ k = 0)
  | [], k, acc, m, t, h, _ => by simp [getA] at h
  | c :: r, k, acc, m, t, h, hk => by
    simp only [getA] at h
    by_cases h9 : k = 9 ∧ 1 < c.toNat
    · rw [if_pos h9] at h; simp at h
    · rw [if_neg h9] at h
      have hc256 : c.toNat < 256 := UInt8.toNat_lt c
      by_cases hc : c.toNat < 128
      · rw [if_pos hc] at h
        by_cases h0 : c.toNat = 0 ∧ 0 < k
        · rw [if_pos h0] at h; simp at h
        · rw [if_neg h0] at h
          simp only [Prod.mk.injEq] at h
          obtain ⟨rfl, rfl, -⟩ := h
          have hp : 128 ^ k ≤ 128 ^ 9 := Nat.pow_le_pow_right (by omega) hk
          have hp9 : (128 : Nat) ^ 9 = 9223372036854775808 := by decide
          refine ⟨c.toNat, rfl, by omega, by simp only [List.length_cons]; omega, ?_, by omega, ?_, by omega⟩
          · rw [one_lt hc]
            have : k + 1 - k = 1 := by omega
            rw [this]; simp
          · by_cases hk9 : k = 9
            · subst hk9
              have : c.toNat ≤ 1 := by omega
              calc c.toNat * 128 ^ 9 ≤ 1 * 128 ^ 9 := Nat.mul_le_mul_right _ this
                _ < _ := by decide
            · have h8 : k ≤ 8 := by omega
              have hp8 : 128 ^ k ≤ 128 ^ 8 := Nat.pow_le_pow_right (by omega) h8
              calc c.toNat * 128 ^ k ≤ 127 * 128 ^ 8 := Nat.mul_le_mul (by omega) hp8
                _ < _ := by decide
      · rw [if_neg hc] at h
        have hk8 : k ≤ 8 := by omega
        obtain ⟨q, hm, hkt, htl, hone, ht10, hq, hq0⟩ := getA_ok r (k + 1) _ m t h (by omega)
        have hq0 : 0 < q := by omega
        have hp : 128 ^ (k + 1) = 128 ^ k * 128 := Nat.pow_succ ..
        refine ⟨c.toNat % 128 + 128 * q, ?_, by omega, by simp only [List.length_cons]; omega, ?_, ht10, ?_, .inl (by omega)⟩
        · rw [hm, hp, Nat.add_mul, Nat.mul_comm (128 ^ k) 128, ← Nat.mul_assoc, Nat.mul_comm q 128, Nat.add_assoc]
        · rw [one_ge (by omega)]
          have e1 : (c.toNat % 128 + 128 * q) / 128 = q := by omega
          have e2 : 128 + (c.toNat % 128 + 128 * q) % 128 = c.toNat := by omega
          have e3 : t - k = (t - (k + 1)) + 1 := by omega
          rw [e1, e2, e3, hone, List.take_succ_cons]
          simp
        · have h1 : c.toNat % 128 * 128 ^ k + q * 128 ^ (k + 1) = (c.toNat % 128 + 128 * q) * 128 ^ k := by
            rw [hp, Nat.add_mul, Nat.mul_comm (128 ^ k) 128, ← Nat.mul_assoc, Nat.mul_comm q 128]
          rw [← h1]
          -- q * 128 ^ (k+1) < 2 ^ 64 and a multiple of 128 ^ (k+1): the rest fits below
          have hdvd : ∀ k : Nat, k ≤ 8 → ∀ q : Nat, q * 128 ^ (k + 1) < 18446744073709551616 → q * 128 ^ (k + 1) + 128 ^ (k + 1) ≤ 18446744073709551616 := by
            intro k hk q hq
            have : ∃ d, 18446744073709551616 = d * 128 ^ (k + 1) := by
              refine ⟨18446744073709551616 / 128 ^ (k + 1), ?_⟩
              match k, hk with
              | 0, _ => decide
              | 1, _ => decide
              | 2, _ => decide
              | 3, _ => decide
              | 4, _ => decide
              | 5, _ => decide
              | 6, _ => decide
              | 7, _ => decide
              | 8, _ => decide
            obtain ⟨d, hd⟩ := this
            rw [hd] at hq ⊢
            have hpos : 0 < 128 ^ (k + 1) := Nat.pow_pos (by omega)
            have : q < d := Nat.lt_of_mul_lt_mul_right hq
            calc q * 128 ^ (k + 1) + 128 ^ (k + 1) = (q + 1) * 128 ^ (k + 1) := by rw [Nat.add_mul, Nat.one_mul]
              _ ≤ d * 128 ^ (k + 1) := Nat.mul_le_mul_right _ this
          have h2 := hdvd k hk8 q hq
          have h3 : c.toNat % 128 * 128 ^ k < 128 ^ (k + 1) := by
            rw [hp, Nat.mul_comm (128 ^ k) 128]
            exact Nat.mul_lt_mul_of_pos_right (by omega) (Nat.pow_pos (by omega))
          omega

theorem getA_ok0 {bs : List UInt8} {m t : Nat} (h : getA bs 0 0 = (m, t, 0)) : 0 < t ∧ t ≤ bs.length ∧ one m = bs.take t ∧ t ≤ 10 ∧ m < 18446744073709551616 := by
  obtain ⟨q, hm, h1, h2, h3, h4, h5, -⟩ := getA_ok bs 0 0 m t h (by omega)
  simp only [Nat.pow_zero, Nat.mul_one, Nat.zero_add, Nat.sub_zero] at hm h2 h3 h5
  subst hm
  exact ⟨h1, h2, h3, h4, h5⟩

/-- Of an error nothing else is told. -/
theorem getA_err : ∀ (bs : List UInt8) (k acc : Nat), (getA bs k acc).2.2 ≠ 0 → (getA bs k acc) = (0, 0, (getA bs k acc).2.2)
  | [], k, acc, _ => by simp [getA]
  | c :: r, k, acc, h => by
    simp only [getA] at h ⊢
    by_cases h1 : k = 9 ∧ 1 < c.toNat
    · rw [if_pos h1]
    · rw [if_neg h1] at h ⊢
      by_cases h2 : c.toNat < 128
      · rw [if_pos h2] at h ⊢
        by_cases h3 : c.toNat = 0 ∧ 0 < k
        · rw [if_pos h3]
        · rw [if_neg h3] at h
          exact absurd rfl h
      · rw [if_neg h2] at h ⊢
        exact getA_err r _ _ h

theorem getA_errs : ∀ (bs : List UInt8) (k acc : Nat), (getA bs k acc).2.2 = 0 ∨ (getA bs k acc).2.2 = 5 ∨ (getA bs k acc).2.2 = 6
  | [], k, acc => by simp [getA]
  | c :: r, k, acc => by
    have := getA_errs r (k + 1) (acc + c.toNat % 128 * 128 ^ k)
    simp only [getA]
    split
    · simp
    · split
      · split <;> simp
      · exact this

end Go.Proofs.Ytjbachplnkonkaa.Varm
