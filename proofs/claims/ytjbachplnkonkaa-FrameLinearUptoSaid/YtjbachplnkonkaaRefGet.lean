/- The walk of the reference's Get. -/
import Derived.Test.YtjbachplnkonkaaRef1
namespace Go.Proofs.Ytjbachplnkonkaa
set_option linter.unusedVariables false
open Go.RowKit
open Varm

theorem mul_add (acc : Nat) (x : UInt8) (k U : Nat) (hU : U = 128 ^ k) (h : acc < 128 ^ k) (hk : k ≤ 9) (hx : 9 ≤ k → x.toNat % 128 ≤ 1) :
    IntKind.u64.wrap ((acc : Int) + IntKind.u64.wrap (((x.toNat : Int) % 128) * (U : Int))) = ((acc + x.toNat % 128 * 128 ^ k : Nat) : Int) := by
  subst hU
  have hp9 : (128 : Nat) ^ 9 = 9223372036854775808 := by decide
  have hp8 : (128 : Nat) ^ 8 = 72057594037927936 := by decide
  have hlt : x.toNat % 128 * 128 ^ k + 128 ^ k ≤ 18446744073709551616 := by
    rcases Nat.lt_or_ge k 9 with h9 | h9
    · have hp : 128 ^ k ≤ 128 ^ 8 := Nat.pow_le_pow_right (by omega) (by omega)
      have : x.toNat % 128 * 128 ^ k ≤ 127 * 128 ^ 8 := Nat.mul_le_mul (by omega) hp
      omega
    · obtain rfl : k = 9 := by omega
      have h1 := hx (by omega)
      rcases (by omega : x.toNat % 128 = 0 ∨ x.toNat % 128 = 1) with h2 | h2 <;> rw [h2] <;> decide
  have e : ((x.toNat : Int) % 128) * ((128 ^ k : Nat) : Int) = ((x.toNat % 128 * 128 ^ k : Nat) : Int) := by
    rw [Int.natCast_mul]; rfl
  rw [e, IntWalk.u64_in ((x.toNat % 128 * 128 ^ k : Nat) : Int) (by omega), IntWalk.u64_in _ (by omega)]
  omega

theorem mul_add0 (acc k : Nat) (h : acc < 128 ^ k) (hk : k ≤ 9) : IntKind.u64.wrap ((acc : Int) + IntKind.u64.wrap 0) = ((acc + 0 * 128 ^ k : Nat) : Int) := by
  have := mul_add acc 0 k (128 ^ k) rfl h hk (by simp)
  simpa using this

theorem unit_next (k U : Nat) (hU : U = 128 ^ k) (hk : k ≤ 8) : IntKind.u64.wrap ((U : Int) * 128) = ((128 * U : Nat) : Int) := by
  have hp8 : (128 : Nat) ^ 8 = 72057594037927936 := by decide
  have hp : 128 ^ k ≤ 128 ^ 8 := Nat.pow_le_pow_right (by omega) (by omega)
  rw [IntWalk.u64_in _ (by omega)]
  omega

set_option maxHeartbeats 1000000 in
set_option maxRecDepth 100000 in
theorem refGet_in (bs : List UInt8) (A : Option Addr) (c : Nat) (j : Nat) (w : World) (B : Nat) (hj : j ≤ bs.length) (hl : bs.length ≤ 9223372036854775807)
    (hr : Reads w B A (bs.map vb)) :
    Calls Try.prog 31 #[.slice A bs.length c, .int .i64 j] w fun e w' => e = .returned (getV (getAt bs j)) ∧ w = w' := by
  have hb1 : decide ((j : Int) < 0) = false := decide_eq_false (by omega)
  have hb2 : decide (bs.length < j) = false := decide_eq_false (by omega)
  go_enter Try.func31, Try.ntmps31
  go_wp2
  go_loop [7, 8, 9] (fun n u i => ∃ k acc U : Nat, k ≤ bs.length - j ∧ k ≤ 9 ∧ Hid (acc < 128 ^ k) ∧ Hid (U = 128 ^ k) ∧ Hid (getA (bs.drop j) 0 0 = getA (bs.drop (j + k)) k acc) ∧ n = .int .u64 acc ∧ u = .int .u64 U ∧ i = .int .i64 k) (fun _ _ i => bs.length - j - (intOf i).toNat)
  case atStart => exact ⟨0, 0, 1, by omega, by omega, Lib.hid (by decide), Lib.hid rfl, Lib.hid rfl, rfl, rfl, rfl⟩
  case round =>
    obtain ⟨k, acc, U, hk, hk9, HA, HU, HG, rfl, rfl, rfl⟩ := hrel
    by_cases hlt : k < bs.length - j
    · have hx : j + k < bs.length := by omega
      obtain ⟨b, off, rfl, _, hcell⟩ := hr.at_ (k := j + k) (by simpa using hx)
      have hcl : w.cell? ⟨b, off + (j + k), none⟩ = some (.int .u8 (bs[j + k].toNat : Int)) := Reads.byte hcell hx
      have HD := Lib.hid (drop_cons hx)
      clear hcell hr
      generalize bs[j + k] = x at hcl HD
      have hx1 : x.toNat ≤ 255 := by have := UInt8.toNat_lt x; omega
      have hstep : getA (bs.drop j) 0 0 = getA (x :: bs.drop (j + k + 1)) k acc := by rw [HG.out, HD.out]
      clear HG HD
      have hj' : j < bs.length := by omega
      rcases Nat.lt_or_ge x.toNat 128 with h128 | h128
      · rcases Nat.lt_or_ge k 9 with h9 | h9
        · rcases Nat.lt_or_ge 0 x.toNat with h0 | h0
          · have HF := Lib.hid (getAt_in bs j hj' (acc + x.toNat * 128 ^ k) (k + 1) 0 (by rw [hstep]; simp only [getA]; rw [if_neg (by omega), if_pos (by omega), if_neg (by omega)]) (by simp))
            have HV := Lib.hid ((mul_add acc x k U HU.out HA.out hk9 (by omega)).trans (by rw [Nat.mod_eq_of_lt h128]))
            clear hstep HA HU
            go_wp2
            go_ret3
            exact ⟨by rw [HF.out]; exact getV_ok HV.out rfl rfl, rfl⟩
          · rcases Nat.lt_or_ge 0 k with hk0 | hk0
            · have HF := Lib.hid (getAt_in bs j hj' 0 0 6 (by rw [hstep]; simp only [getA]; rw [if_neg (by omega), if_pos (by omega), if_pos (by omega)]) (by simp))
              clear hstep HA HU
              go_wp2
              go_ret3
              exact ⟨by rw [HF.out]; rfl, rfl⟩
            · have HF := Lib.hid (getAt_in bs j hj' (acc + 0 * 128 ^ k) (k + 1) 0 (by rw [hstep]; simp only [getA]; rw [if_neg (by omega), if_pos (by omega), if_neg (by omega), show x.toNat = 0 by omega]) (by simp))
              have HV := Lib.hid (mul_add0 acc k HA.out hk9)
              clear hstep HA HU
              go_wp2
              go_ret3
              exact ⟨by rw [HF.out]; exact getV_ok HV.out rfl rfl, rfl⟩
        · obtain rfl : k = 9 := by omega
          rcases Nat.lt_or_ge 1 x.toNat with h1 | h1
          · have HF := Lib.hid (getAt_in bs j hj' 0 0 6 (by rw [hstep]; simp [getA, h1]) (by simp))
            clear hstep HA HU
            go_wp2
            go_ret3
            exact ⟨by rw [HF.out]; rfl, rfl⟩
          · rcases Nat.lt_or_ge 0 x.toNat with h0 | h0
            · have HF := Lib.hid (getAt_in bs j hj' (acc + x.toNat * 128 ^ 9) (9 + 1) 0 (by rw [hstep]; simp only [getA]; rw [if_neg (by omega), if_pos (by omega), if_neg (by omega)]) (by simp))
              have HV := Lib.hid ((mul_add acc x 9 U HU.out HA.out hk9 (by omega)).trans (by rw [Nat.mod_eq_of_lt h128]))
              clear hstep HA HU
              go_wp2
              go_ret3
              exact ⟨by rw [HF.out]; exact getV_ok HV.out rfl rfl, rfl⟩
            · have HF := Lib.hid (getAt_in bs j hj' 0 0 6 (by rw [hstep]; simp only [getA]; rw [if_neg (by omega), if_pos (by omega), if_pos (by omega)]) (by simp))
              clear hstep HA HU
              go_wp2
              go_ret3
              exact ⟨by rw [HF.out]; rfl, rfl⟩
      · rcases Nat.lt_or_ge k 9 with h9 | h9
        · have HS := Lib.hid (hstep.trans (getA_go x _ k acc h128 h9))
          have HB := Lib.hid (acc_lt acc x k HA.out)
          have HV := Lib.hid (mul_add acc x k U HU.out HA.out hk9 (by omega))
          have HU2 := Lib.hid (unit_next k U HU.out (by omega))
          clear hstep HA
          go_wp2
          go_round
          case rel => exact ⟨k + 1, acc + x.toNat % 128 * 128 ^ k, 128 * U, by omega, by omega, HB, Lib.hid (by rw [HU.out, Nat.pow_succ, Nat.mul_comm]), HS, congrArg _ HV.out, congrArg _ HU2.out, by go_num⟩
          case measure => simp [intOf]; omega
        · have HF := Lib.hid (getAt_in bs j hj' 0 0 6 (by rw [hstep]; simp only [getA]; rw [if_pos (by omega)]) (by simp))
          clear hstep HA HU
          go_wp2
          go_ret3
          exact ⟨by rw [HF.out]; rfl, rfl⟩
    · have HF := Lib.hid (show getAt bs j = (0, 0, 5) by
        have h5 : getA (bs.drop j) 0 0 = (0, 0, 5) := by rw [HG.out, List.drop_eq_nil_of_le (by omega)]; rfl
        unfold getAt; rw [if_neg (by omega), Int.toNat_natCast, h5]; simp)
      go_wp2
      go_ret3
      exact ⟨by rw [HF.out]; rfl, rfl⟩

set_option maxRecDepth 100000 in
theorem refGet_lo (bs : List UInt8) (A : Option Addr) (c : Nat) (at_ : Int) (w : World) (h : at_ < 0) (hl : bs.length ≤ 9223372036854775807) :
    Calls Try.prog 31 #[.slice A bs.length c, .int .i64 at_] w fun e w' => e = .returned (getV (getAt bs at_)) ∧ w = w' := by
  have HF := Lib.hid (show getAt bs at_ = (0, 0, 1) by unfold getAt; rw [if_pos (.inl h)])
  have hb1 : decide (at_ < 0) = true := decide_eq_true h
  go_enter Try.func31, Try.ntmps31
  go_wp2
  go_ret3
  exact ⟨by rw [HF.out]; rfl, rfl⟩

set_option maxRecDepth 100000 in
theorem refGet_hi (bs : List UInt8) (A : Option Addr) (c : Nat) (at_ : Int) (w : World) (h : (bs.length : Int) < at_) (hl : bs.length ≤ 9223372036854775807) :
    Calls Try.prog 31 #[.slice A bs.length c, .int .i64 at_] w fun e w' => e = .returned (getV (getAt bs at_)) ∧ w = w' := by
  have HF := Lib.hid (show getAt bs at_ = (0, 0, 1) by unfold getAt; rw [if_pos (.inr h)])
  have hb1 : decide (at_ < 0) = false := decide_eq_false (by omega)
  go_enter Try.func31, Try.ntmps31
  go_wp2
  go_ret3
  exact ⟨by rw [HF.out]; rfl, rfl⟩

/-- The reference's Get, at every place. -/
theorem refGet_any (bs : List UInt8) (A : Option Addr) (c : Nat) (at_ : Int) (w : World) (B : Nat) (hr : Reads w B A (bs.map vb)) (hl : bs.length ≤ 9223372036854775807) :
    Calls Try.prog 31 #[.slice A bs.length c, .int .i64 at_] w fun e w' => e = .returned (getV (getAt bs at_)) ∧ w = w' := by
  rcases Int.lt_or_le at_ 0 with h | h
  · exact refGet_lo bs A c at_ w h (by omega)
  · rcases Int.lt_or_le bs.length at_ with h1 | h1
    · exact refGet_hi bs A c at_ w h1 (by omega)
    · obtain ⟨j, rfl⟩ := Int.eq_ofNat_of_zero_le h
      exact refGet_in bs A c j w B (by omega) hl hr
end Go.Proofs.Ytjbachplnkonkaa
