/- Tiers and bounds: plain law and walks. -/
import Derived.Test.YtpfladolkkhfdaaLaws
import Derived.Deep.DeepMust
namespace Go.Proofs.Ytpfladolkkhfdaa
set_option linter.unusedVariables false
open Go.RowKit

/-- A size's tier, by fours. -/
def tierN (n : Nat) : Nat := if n < 4 then 0 else 1 + tierN (n / 4)
termination_by n
decreasing_by omega
def tier (n : Int) : Nat := tierN n.toNat
def bound (n : Int) : Int := if n < 1 then 0 else 3 * (1 + tier n)

theorem tierN_lt {n : Nat} (h : n < 4) : tierN n = 0 := by rw [tierN, if_pos h]
theorem tierN_ge {n : Nat} (h : 4 ≤ n) : tierN n = 1 + tierN (n / 4) := by rw [tierN, if_neg (by omega)]
theorem tier_lt {n : Int} (h : n < 4) : tier n = 0 := tierN_lt (by omega)
theorem tier_ge {n : Int} (h : 4 ≤ n) : tier n = 1 + tier (n / 4) := by
  unfold tier
  rw [tierN_ge (by omega)]
  congr 2
  omega
theorem tierN_pow : ∀ (k n : Nat), n < 4 ^ (k + 1) → tierN n ≤ k
  | 0, n, h => by rw [tierN_lt (by simpa using h)]; exact Nat.le_refl _
  | k + 1, n, h => by
    by_cases hn : n < 4
    · rw [tierN_lt hn]; omega
    · rw [tierN_ge (by omega)]
      have : n / 4 < 4 ^ (k + 1) := by
        rw [Nat.div_lt_iff_lt_mul (by omega)]; rw [Nat.pow_succ] at h; exact h
      have := tierN_pow k (n / 4) this
      omega
theorem tier_le (n : Int) (h : n ≤ 9223372036854775807) : tier n ≤ 31 := by
  refine tierN_pow 31 _ ?_
  have : (4 : Nat) ^ 32 = 18446744073709551616 := by decide
  omega
theorem tierN_div : ∀ (t n : Nat), 4 ^ t ≤ n → tierN n = t + tierN (n / 4 ^ t)
  | 0, n, _ => by simp
  | t + 1, n, h => by
    have hp : 4 ^ (t + 1) = 4 ^ t * 4 := Nat.pow_succ ..
    have hpos : 0 < 4 ^ t := Nat.pow_pos (by omega)
    have h4 : 4 ≤ n / 4 ^ t := by rw [Nat.le_div_iff_mul_le hpos]; rw [hp] at h; omega
    rw [tierN_div t n (by omega), tierN_ge h4, hp, Nat.div_div_eq_div_mul]
    omega

theorem ret_int {k : IntKind} {a b : Int} (h : a = b) : Ending.returned (.int k a) = .returned (.int k b) := by rw [h]

set_option maxRecDepth 100000 in
theorem tier_any (n : Int) (w : World) (h1 : -9223372036854775808 ≤ n) (h2 : n ≤ 9223372036854775807) :
    Calls Try.prog 19 #[.int .i64 n] w fun e w' => e = .returned (.int .i64 (tier n)) ∧ w = w' := by
  have ht := tier_le n h2
  go_enter Try.func19, Try.ntmps19
  go_wp2
  go_loop [0, 3] (fun m t => ∃ (q : Int) (k : Nat), -9223372036854775808 ≤ q ∧ q ≤ 9223372036854775807 ∧ m = .int .i64 q ∧ t = .int .i64 k ∧ k ≤ 31 ∧ Hid (tier n = k + tier q)) (fun m _ => (intOf m).toNat)
  case atStart => exact ⟨n, 0, h1, h2, rfl, rfl, by omega, Lib.hid (by omega)⟩
  case round =>
    obtain ⟨q, k, hq1, hq2, rfl, rfl, hk, HT⟩ := hrel
    by_cases h4 : 4 ≤ q
    · have HT2 : Hid (tier n = (k + 1) + tier (q / 4)) := Lib.hid (by rw [HT.out, tier_ge h4]; omega)
      have hk2 : k + 1 ≤ 31 := by have := HT2.out; omega
      go_wp2
      go_round
      case rel => exact ⟨q / 4, k + 1, by omega, by omega, by go_num, by go_num, hk2, HT2⟩
      case measure => simp [intOf]; omega
    · have HT2 : Hid ((tier n : Int) = k) := Lib.hid (by have := HT.out; rw [tier_lt (n := q) (by omega)] at this; omega)
      go_wp2
      go_ret
      exact ⟨ret_int HT2.out.symm, rfl⟩

set_option maxRecDepth 100000 in
theorem refTier_any (n : Int) (w : World) (h1 : -9223372036854775808 ≤ n) (h2 : n ≤ 9223372036854775807) :
    Calls Try.prog 20 #[.int .i64 n] w fun e w' => e = .returned (.int .i64 (tier n)) ∧ w = w' := by
  have ht := tier_le n h2
  by_cases h4 : n < 4
  · have hq : n.tdiv 4 < 1 := by
      rcases Int.lt_or_le n 0 with h | h
      · have h5 : n.tdiv 4 = -((-n) / 4) := by
          rw [show n = -(-n) by omega, Int.neg_tdiv, Int.tdiv_eq_ediv_of_nonneg (by omega)]; simp
        omega
      · rw [Int.tdiv_eq_ediv_of_nonneg h]; omega
    have HT : Hid ((tier n : Int) = 0) := Lib.hid (by rw [tier_lt h4]; rfl)
    go_enter Try.func20, Try.ntmps20
    go_wp2
    refine wp_loop_rounds 1 ?_
    rw [rounds_succ]
    go_wp2
    go_ret
    exact ⟨ret_int HT.out.symm, rfl⟩
  · obtain ⟨m, rfl⟩ := Int.eq_ofNat_of_zero_le (show 0 ≤ n by omega)
    have hT : tier (m : Int) = tierN m := by unfold tier; rw [Int.toNat_natCast]
    rw [hT] at ht ⊢
    clear hT
    go_enter Try.func20, Try.ntmps20
    go_wp2
    go_loop [3, 4] (fun t p => ∃ k P : Nat, t = .int .i64 k ∧ p = .int .i64 P ∧ k ≤ 31 ∧ 1 ≤ P ∧ P ≤ m ∧ Hid (P = 4 ^ k)) (fun _ p => m - (intOf p).toNat)
    case atStart => exact ⟨0, 1, rfl, rfl, by omega, by omega, by omega, Lib.hid rfl⟩
    case round =>
      obtain ⟨k, P, rfl, rfl, hk, hP1, hP, HP⟩ := hrel
      have hd := tierN_div k m (by rw [← HP.out]; exact hP)
      rw [← HP.out] at hd
      by_cases hc : P ≤ m / 4
      · have h4 : 4 ≤ m / P := by rw [Nat.le_div_iff_mul_le hP1]; omega
        rw [tierN_ge h4] at hd
        have hk2 : k + 1 ≤ 31 := by omega
        have HP2 : Hid (P * 4 = 4 ^ (k + 1)) := Lib.hid (by rw [HP.out, Nat.pow_succ])
        have h5 : P * 4 ≤ m := by omega
        have HD := Lib.hid hd
        clear hd h4
        go_wp2
        go_round
        case rel => exact ⟨k + 1, P * 4, by go_num, by go_num, hk2, by omega, h5, HP2⟩
        case measure => simp [intOf]; omega
      · have h4 : m / P < 4 := by rw [Nat.div_lt_iff_lt_mul hP1]; omega
        rw [tierN_lt h4] at hd
        have HD : Hid ((tierN m : Int) = k) := Lib.hid (by omega)
        clear hd h4
        go_wp2
        go_ret
        exact ⟨ret_int HD.out.symm, rfl⟩

set_option maxRecDepth 100000 in
theorem bound_any (n : Int) (w : World) (h1 : -9223372036854775808 ≤ n) (h2 : n ≤ 9223372036854775807) :
    Calls Try.prog 21 #[.int .i64 n] w fun e w' => e = .returned (.int .i64 (bound n)) ∧ w = w' := by
  have ht := tier_le n h2
  have H := Lib.hid (fun w => tier_any n w h1 h2)
  by_cases h : n < 1
  · have HB : Hid (bound n = 0) := Lib.hid (if_pos h)
    go_enter Try.func21, Try.ntmps21
    go_wp2_with fail
    go_ret
    exact ⟨ret_int HB.out.symm, rfl⟩
  · have HB : Hid (bound n = 3 * (1 + tier n)) := Lib.hid (if_neg h)
    go_enter Try.func21, Try.ntmps21
    go_wp2_with fail
    refine (H.out _).mono ?_
    rintro e w' ⟨rfl, rfl⟩
    go_wp2_with fail
    go_ret
    exact ⟨ret_int HB.out.symm, rfl⟩
set_option maxRecDepth 100000 in
theorem refBound_any (n : Int) (w : World) (h1 : -9223372036854775808 ≤ n) (h2 : n ≤ 9223372036854775807) :
    Calls Try.prog 22 #[.int .i64 n] w fun e w' => e = .returned (.int .i64 (bound n)) ∧ w = w' := by
  have ht := tier_le n h2
  have H := Lib.hid (fun w => refTier_any n w h1 h2)
  by_cases h : n < 1
  · have HB : Hid (bound n = 0) := Lib.hid (if_pos h)
    go_enter Try.func22, Try.ntmps22
    go_wp2_with fail
    go_ret
    exact ⟨ret_int HB.out.symm, rfl⟩
  · have HB : Hid (3 + 3 * (tier n : Int) = bound n) := Lib.hid (by rw [bound, if_neg h]; omega)
    go_enter Try.func22, Try.ntmps22
    go_wp2_with fail
    refine (H.out _).mono ?_
    rintro e w' ⟨rfl, rfl⟩
    go_wp2_with fail
    go_ret
    exact ⟨ret_int HB.out, rfl⟩
end Go.Proofs.Ytpfladolkkhfdaa
