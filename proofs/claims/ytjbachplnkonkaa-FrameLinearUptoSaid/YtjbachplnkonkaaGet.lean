/- The walk of varint.Get. -/
import Derived.Test.YtjbachplnkonkaaLaws
import Derived.Test.YtjbachplnkonkaaVarm
import Derived.Deep.DeepMust
namespace Go.Proofs.Ytjbachplnkonkaa
set_option linter.unusedVariables false
open Go.RowKit
open Varm

/-- The answer of a Get, as a value. -/
def getV (r : Nat × Int × Nat) : Value := .tuple #[.int .u64 (r.1 : Int), .int .i64 r.2.1, .int .i64 (r.2.2 : Int)]

theorem mask127 (c : UInt8) : bits .and .u8 (c.toNat : Int) 127 = ((c.toNat % 128 : Nat) : Int) := by
  have h := u8_and_nat c.toNat 127 (UInt8.toNat_lt c) (by omega)
  rw [nat_mask7] at h
  exact h

theorem pow7 (k : Nat) : (128 : Nat) ^ k = 2 ^ (7 * k) := by rw [Nat.pow_mul]

theorem or_join (acc x k : Nat) (h : acc < 128 ^ k) : acc ||| x * 128 ^ k = acc + x * 128 ^ k := by
  rw [Nat.or_comm, Nat.add_comm]
  refine nat_join (7 * k) _ _ ?_ (by rw [← pow7]; exact h)
  rw [← pow7]; exact Nat.mul_mod_left _ _

theorem drop_cons {l : List UInt8} {k : Nat} (h : k < l.length) : l.drop k = l[k] :: l.drop (k + 1) := List.drop_eq_getElem_cons h

theorem getAt_in (bs : List UInt8) (j : Nat) (hj : j < bs.length) (m t e : Nat) (h : getA (bs.drop j) 0 0 = (m, t, e)) (he : e ≠ 0 → m = 0) :
    getAt bs j = (m, (if e = 0 then (j : Int) + t else 0), e) := by
  unfold getAt
  rw [if_neg (by omega), Int.toNat_natCast, h]
  by_cases h0 : e = 0
  · simp [h0]
  · simp [h0, he h0]

theorem acc_lt (acc : Nat) (x : UInt8) (k : Nat) (h : acc < 128 ^ k) : acc + x.toNat % 128 * 128 ^ k < 128 ^ (k + 1) := by
  rw [Nat.pow_succ, Nat.mul_comm (128 ^ k) 128]
  have h1 : x.toNat % 128 * 128 ^ k ≤ 127 * 128 ^ k := Nat.mul_le_mul_right _ (by omega)
  omega

theorem getA_go (x : UInt8) (r : List UInt8) (k acc : Nat) (h : 128 ≤ x.toNat) (h9 : k < 9) : getA (x :: r) k acc = getA r (k + 1) (acc + x.toNat % 128 * 128 ^ k) := by
  simp only [getA]; rw [if_neg (by omega), if_neg (by omega)]

theorem shl_or (acc : Nat) (x : UInt8) (k : Nat) (h : acc < 128 ^ k) (hk : k ≤ 9) (hx : 9 ≤ k → x.toNat % 128 ≤ 1) :
    bits .or .u64 (acc : Int) (IntKind.u64.wrap (IntKind.u64.wrap (bits .and .u8 (x.toNat : Int) 127) * 2 ^ (7 * k))) = ((acc + x.toNat % 128 * 128 ^ k : Nat) : Int) := by
  have hp9 : (128 : Nat) ^ 9 = 9223372036854775808 := by decide
  have hp8 : (128 : Nat) ^ 8 = 72057594037927936 := by decide
  have hlt : x.toNat % 128 * 128 ^ k < 18446744073709551616 ∧ acc < 18446744073709551616 := by
    rcases Nat.lt_or_ge k 9 with h9 | h9
    · have hp : 128 ^ k ≤ 128 ^ 8 := Nat.pow_le_pow_right (by omega) (by omega)
      have : x.toNat % 128 * 128 ^ k ≤ 127 * 128 ^ 8 := Nat.mul_le_mul (by omega) hp
      omega
    · obtain rfl : k = 9 := by omega
      have := hx (by omega)
      have : x.toNat % 128 * 128 ^ 9 ≤ 1 * 128 ^ 9 := Nat.mul_le_mul_right _ this
      omega
  rw [mask127, IntWalk.u64_in ((x.toNat % 128 : Nat) : Int) (by omega)]
  have e : ((x.toNat % 128 : Nat) : Int) * 2 ^ (7 * k) = ((x.toNat % 128 * 128 ^ k : Nat) : Int) := by
    rw [pow7, Int.natCast_mul, Int.natCast_pow]; rfl
  rw [e, IntWalk.u64_in _ (by omega), u64_or_nat _ _ hlt.2 hlt.1, or_join _ _ _ h]

theorem shl_or0 (acc : Nat) (k : Nat) (h : acc < 128 ^ k) (hk : k ≤ 9) :
    bits .or .u64 (acc : Int) (IntKind.u64.wrap (IntKind.u64.wrap (bits .and .u8 0 127) * 2 ^ (7 * k))) = ((acc + 0 * 128 ^ k : Nat) : Int) := by
  have := shl_or acc 0 k h hk (by simp)
  simpa using this

theorem getV_ok {m t : Nat} {j k : Nat} {v kI : Int} (hv : v = (m : Int)) (hk : kI = k) (ht : t = k + 1) :
    Ending.returned (.tuple #[.int .u64 v, .int .i64 ((j : Int) + kI + 1), .int .i64 0]) = .returned (getV (m, (if (0 : Nat) = 0 then (j : Int) + (t : Nat) else 0), 0)) := by
  subst hv ht hk
  simp [getV]; omega

set_option maxHeartbeats 1000000 in
set_option maxRecDepth 100000 in
theorem get_in (bs : List UInt8) (b off c : Nat) (j : Nat) (w : World) (hj : j < bs.length) (hc : bs.length ≤ c) (hl : bs.length ≤ 9223372036854775807)
    (hcell : ∀ j u, (bs.map vb)[j]? = some u → w.cell? ⟨b, off + j, none⟩ = some u) :
    Calls Try.prog 18 #[.slice (some ⟨b, off, none⟩) bs.length c, .int .i64 j] w fun e w' => e = .returned (getV (getAt bs j)) ∧ w = w' := by
  have hne : ¬ c = j := by omega
  have hb1 : decide ((j : Int) < 0) = false := decide_eq_false (by omega)
  have hb2 : decide (bs.length < j) = false := decide_eq_false (by omega)
  go_enter Try.func18, Try.ntmps18
  go_wp2
  go_loop [7, 22] (fun n i => ∃ k acc : Nat, k ≤ bs.length - j ∧ k ≤ 9 ∧ Hid (acc < 128 ^ k) ∧ Hid (getA (bs.drop j) 0 0 = getA (bs.drop (j + k)) k acc) ∧ n = .int .u64 acc ∧ i = .int .i64 k) (fun _ i => bs.length - j - (intOf i).toNat)
  case atStart => exact ⟨0, 0, by omega, by omega, Lib.hid (by decide), Lib.hid rfl, rfl, rfl⟩
  case round =>
    obtain ⟨k, acc, hk, hk9, HA, HG, rfl, rfl⟩ := hrel
    by_cases hlt : k < bs.length - j
    · have hx : j + k < bs.length := by omega
      have hcl : w.cell? ⟨b, off + j + k, none⟩ = some (.int .u8 (bs[j + k].toNat : Int)) := by rw [Nat.add_assoc]; exact Reads.byte hcell hx
      have HD := Lib.hid (drop_cons hx)
      clear hcell
      generalize bs[j + k] = x at hcl HD
      have hx1 : x.toNat ≤ 255 := by have := UInt8.toNat_lt x; omega
      have hstep : getA (bs.drop j) 0 0 = getA (x :: bs.drop (j + k + 1)) k acc := by rw [HG.out, HD.out]
      rcases Nat.lt_or_ge x.toNat 128 with h128 | h128
      · rcases Nat.lt_or_ge k 9 with h9 | h9
        · rcases Nat.lt_or_ge 0 x.toNat with h0 | h0
          · have HF := Lib.hid (getAt_in bs j hj (acc + x.toNat * 128 ^ k) (k + 1) 0 (by rw [hstep]; simp only [getA]; rw [if_neg (by omega), if_pos (by omega), if_neg (by omega)]) (by simp))
            have HV := Lib.hid ((shl_or acc x k HA.out hk9 (by omega)).trans (by rw [Nat.mod_eq_of_lt h128]))
            clear hstep HG HD HA
            go_wp2
            go_ret3
            exact ⟨by rw [HF.out]; exact getV_ok HV.out rfl rfl, rfl⟩
          · rcases Nat.lt_or_ge 0 k with hk0 | hk0
            · have HF := Lib.hid (getAt_in bs j hj 0 0 6 (by rw [hstep]; simp only [getA]; rw [if_neg (by omega), if_pos (by omega), if_pos (by omega)]) (by simp))
              clear hstep HG HD HA
              go_wp2
              go_ret3
              exact ⟨by rw [HF.out]; rfl, rfl⟩
            · have HF := Lib.hid (getAt_in bs j hj (acc + 0 * 128 ^ k) (k + 1) 0 (by rw [hstep]; simp only [getA]; rw [if_neg (by omega), if_pos (by omega), if_neg (by omega), show x.toNat = 0 by omega]) (by simp))
              have HV := Lib.hid (shl_or0 acc k HA.out hk9)
              clear hstep HG HD HA
              go_wp2
              go_ret3
              exact ⟨by rw [HF.out]; exact getV_ok HV.out rfl rfl, rfl⟩
        · obtain rfl : k = 9 := by omega
          rcases Nat.lt_or_ge 1 x.toNat with h1 | h1
          · have HF := Lib.hid (getAt_in bs j hj 0 0 6 (by rw [hstep]; simp [getA, h1]) (by simp))
            clear hstep HG HD HA
            go_wp2
            go_ret3
            exact ⟨by rw [HF.out]; rfl, rfl⟩
          · rcases Nat.lt_or_ge 0 x.toNat with h0 | h0
            · have HF := Lib.hid (getAt_in bs j hj (acc + x.toNat * 128 ^ 9) (9 + 1) 0 (by rw [hstep]; simp only [getA]; rw [if_neg (by omega), if_pos (by omega), if_neg (by omega)]) (by simp))
              have HV := Lib.hid ((shl_or acc x 9 HA.out hk9 (by omega)).trans (by rw [Nat.mod_eq_of_lt h128]))
              clear hstep HG HD HA
              go_wp2
              go_ret3
              exact ⟨by rw [HF.out]; exact getV_ok HV.out rfl rfl, rfl⟩
            · have HF := Lib.hid (getAt_in bs j hj 0 0 6 (by rw [hstep]; simp only [getA]; rw [if_neg (by omega), if_pos (by omega), if_pos (by omega)]) (by simp))
              clear hstep HG HD HA
              go_wp2
              go_ret3
              exact ⟨by rw [HF.out]; rfl, rfl⟩
      · rcases Nat.lt_or_ge k 9 with h9 | h9
        · have HS := Lib.hid (hstep.trans (getA_go x _ k acc h128 h9))
          have HB := Lib.hid (acc_lt acc x k HA.out)
          have HV := Lib.hid (shl_or acc x k HA.out hk9 (by omega))
          clear hstep HG HD HA
          go_wp2
          go_round
          case rel => exact ⟨k + 1, acc + x.toNat % 128 * 128 ^ k, by omega, by omega, HB, HS, congrArg _ HV.out, by go_num⟩
          case measure => simp [intOf]; omega
        · have HF := Lib.hid (getAt_in bs j hj 0 0 6 (by rw [hstep]; simp only [getA]; rw [if_pos (by omega)]) (by simp))
          clear hstep HG HD HA
          go_wp2
          go_ret3
          exact ⟨by rw [HF.out]; rfl, rfl⟩
    · have HF := Lib.hid (getAt_in bs j hj 0 0 5 (by rw [HG.out, List.drop_eq_nil_of_le (by omega)]; rfl) (by simp))
      go_wp2
      go_ret3
      exact ⟨by rw [HF.out]; rfl, rfl⟩

set_option maxRecDepth 100000 in
theorem get_lo (bs : List UInt8) (A : Option Addr) (c : Nat) (at_ : Int) (w : World) (h : at_ < 0) (hl : bs.length ≤ 9223372036854775807) :
    Calls Try.prog 18 #[.slice A bs.length c, .int .i64 at_] w fun e w' => e = .returned (getV (getAt bs at_)) ∧ w = w' := by
  have HF := Lib.hid (show getAt bs at_ = (0, 0, 1) by unfold getAt; rw [if_pos (.inl h)])
  have hb1 : decide (at_ < 0) = true := decide_eq_true h
  go_enter Try.func18, Try.ntmps18
  go_wp2
  go_ret3
  exact ⟨by rw [HF.out]; rfl, rfl⟩

set_option maxRecDepth 100000 in
theorem get_hi (bs : List UInt8) (A : Option Addr) (c : Nat) (at_ : Int) (w : World) (h : (bs.length : Int) < at_) (hl : bs.length ≤ 9223372036854775807) :
    Calls Try.prog 18 #[.slice A bs.length c, .int .i64 at_] w fun e w' => e = .returned (getV (getAt bs at_)) ∧ w = w' := by
  have HF := Lib.hid (show getAt bs at_ = (0, 0, 1) by unfold getAt; rw [if_pos (.inr h)])
  have hb1 : decide (at_ < 0) = false := decide_eq_false (by omega)
  go_enter Try.func18, Try.ntmps18
  go_wp2
  go_ret3
  exact ⟨by rw [HF.out]; rfl, rfl⟩

set_option maxRecDepth 100000 in
theorem get_end (bs : List UInt8) (A : Option Addr) (c : Nat) (w : World) (hc : bs.length ≤ c) (hl : bs.length ≤ 9223372036854775807) :
    Calls Try.prog 18 #[.slice A bs.length c, .int .i64 bs.length] w fun e w' => e = .returned (getV (getAt bs bs.length)) ∧ w = w' := by
  have HF := Lib.hid (show getAt bs bs.length = (0, 0, 5) by unfold getAt; rw [if_neg (by omega)]; simp [getA])
  generalize bs.length = n at hc hl HF
  by_cases hcn : c = n
  all_goals
    go_enter Try.func18, Try.ntmps18
    go_wp2
    refine wp_loop_rounds 1 ?_
    rw [rounds_succ]
    go_wp2
    go_ret3
    exact ⟨by rw [HF.out]; rfl, rfl⟩

/-- varint.Get, at every place. -/
theorem get_any (bs : List UInt8) (A : Option Addr) (c : Nat) (at_ : Int) (w : World) (B : Nat) (hr : Reads w B A (bs.map vb)) (hc : bs.length ≤ c) (hl : bs.length ≤ 9223372036854775807) :
    Calls Try.prog 18 #[.slice A bs.length c, .int .i64 at_] w fun e w' => e = .returned (getV (getAt bs at_)) ∧ w = w' := by
  rcases Int.lt_or_le at_ 0 with h | h
  · exact get_lo bs A c at_ w h hl
  · rcases Int.lt_or_le bs.length at_ with h1 | h1
    · exact get_hi bs A c at_ w h1 hl
    · obtain ⟨j, rfl⟩ := Int.eq_ofNat_of_zero_le h
      rcases Nat.lt_or_ge j bs.length with h2 | h2
      · obtain ⟨b, off, rfl, _, hcell⟩ := hr.at_ (k := j) (by simpa using h2)
        exact get_in bs b off c j w h2 hc hl hcell
      · obtain rfl : j = bs.length := by omega
        exact get_end bs A c w hc hl
end Go.Proofs.Ytjbachplnkonkaa
