/- The walks of pack.get, pack.size and the reference's Need. -/
import Derived.Test.YtdjmjmbfaokdaaaPackP
namespace Go.Proofs.Ytdjmjmbfaokdaaa
set_option linter.unusedVariables false
open Go.RowKit
open Varm Pk

theorem and_bit8 (x : UInt8) (t : Nat) (ht : t < 8) : bits .and .u8 ((x.toNat : Int) / 2 ^ t) 1 = ((x.toNat.testBit t).toNat : Int) := by
  have hx := UInt8.toNat_lt x
  have e : (x.toNat : Int) / 2 ^ t = ((x.toNat / 2 ^ t : Nat) : Int) := by
    rw [Int.natCast_ediv]; congr 1
  have hle : x.toNat / 2 ^ t ≤ x.toNat := Nat.div_le_self _ _
  have := u8_and_nat (x.toNat / 2 ^ t) 1 (by omega) (by omega)
  rw [Nat.and_one_is_mod] at this
  rw [e]
  refine this.trans ?_
  rw [Nat.testBit_eq_decide_div_mod_eq]
  rcases Nat.mod_two_eq_zero_or_one (x.toNat / 2 ^ t) with h | h <;> simp [h]
theorem or_get (X : Nat) (b : Bool) (k : Nat) (hX : X < 2 ^ k) (hk : k < 64) : bits .or .u64 (X : Int) (IntKind.u64.wrap ((b.toNat : Int) * 2 ^ k)) = ((X + b.toNat * 2 ^ k : Nat) : Int) := by
  have hp : 2 ^ k ≤ 2 ^ 63 := Nat.pow_le_pow_right (by omega) (by omega)
  have hb := Bool.toNat_le b
  have h1 : b.toNat * 2 ^ k ≤ 1 * 2 ^ k := Nat.mul_le_mul_right _ hb
  have e : (b.toNat : Int) * 2 ^ k = ((b.toNat * 2 ^ k : Nat) : Int) := by
    rw [Int.natCast_mul, Int.natCast_pow]; rfl
  rw [e, IntWalk.u64_in _ (by omega), u64_or_nat _ _ (by omega) (by omega)]
  congr 1
  rw [Nat.or_comm, Nat.add_comm X]
  exact nat_join k _ _ (Nat.mul_mod_left _ _) hX

set_option maxRecDepth 100000 in
theorem getBits_any (bs : List UInt8) (A : Option Addr) (c p wd : Nat) (w : World) (B : Nat) (hr : Reads w B A (bs.map vb)) (hp : p + wd ≤ 8 * bs.length) (hwd : wd ≤ 64) (hl : bs.length ≤ 1000000000000) :
    Calls Try.prog 37 #[.slice A bs.length c, .int .i64 p, .int .i64 wd] w fun e w' => e = .returned (.int .u64 (getN (bitAt bs) p wd : Nat)) ∧ w = w' := by
  go_enter Try.func37, Try.ntmps37
  go_wp2_with fail
  go_loop [7, 10] (fun x i => ∃ k : Nat, k ≤ wd ∧ i = .int .i64 k ∧ x = .int .u64 (getN (bitAt bs) p k : Nat)) (fun _ i => wd - (intOf i).toNat)
  case atStart => exact ⟨0, Nat.zero_le _, rfl, rfl⟩
  case round =>
    obtain ⟨k, hk, rfl, rfl⟩ := hrel
    rcases Nat.lt_or_ge k wd with hlt | hge
    · obtain ⟨b, off, rfl, hbB, hc⟩ := hr.at_ (k := 0) (by simp; omega)
      obtain ⟨q, hq⟩ : ∃ q, q = p + k := ⟨_, rfl⟩
      have hq8 : q / 8 < bs.length := by omega
      have h1 := Reads.byte hc hq8
      have w1 : IntKind.i64.wrap ((p : Int) + (k : Int)) = (q : Int) := (IntWalk.i64_in _ (by omega)).trans (by omega)
      have HB : Hid (bitAt bs (p + k) = bs[q / 8].toNat.testBit (q % 8)) := Lib.hid (by
        unfold bitAt
        rw [← hq, List.getD, List.getElem?_eq_getElem hq8]; rfl)
      have hpq : (p : Int) + (k : Int) = (q : Int) := by omega
      clear hc hq
      generalize bs[q / 8] = x at h1 HB
      have hx := UInt8.toNat_lt x
      have HV : Hid (bits .or .u64 (getN (bitAt bs) p k : Int) (IntKind.u64.wrap (IntKind.u64.wrap (bits .and .u8 ((x.toNat : Int) / 2 ^ (q % 8)) 1) * 2 ^ k)) = (getN (bitAt bs) p (k + 1) : Nat)) := Lib.hid (by
        rw [and_bit8 x (q % 8) (Nat.mod_lt _ (by omega)), IntWalk.u64_in ((x.toNat.testBit (q % 8)).toNat : Int) (by have := Bool.toNat_le (x.toNat.testBit (q % 8)); omega), or_get _ _ _ (getN_lt _ _ _) (by omega), getN, HB.out])
      go_wp2_with fail
      go_round
      case rel => exact ⟨k + 1, by omega, by go_num, by rw [HV.out]⟩
      case measure => simp [intOf]; omega
    · obtain rfl : wd = k := by omega
      go_wp2_with fail
      go_ret
      exact ⟨rfl, rfl⟩

set_option maxRecDepth 100000 in
theorem size_any (n wd : Nat) (w : World) (h : n * wd ≤ 1000000000000) (hn : n ≤ 1000000) (hw : wd ≤ 1000000) :
    Calls Try.prog 32 #[.int .i64 n, .int .i64 wd] w fun e w' => e = .returned (.int .i64 (packSize n wd : Nat)) ∧ w = w' := by
  obtain ⟨m, hm⟩ : ∃ m, m = n * wd := ⟨_, rfl⟩
  have hI : (n : Int) * (wd : Int) = (m : Int) := by rw [hm, Int.natCast_mul]
  have hm2 : m ≤ 1000000000000 := by omega
  have HS : Hid (packSize n wd = (m + 7) / 8) := Lib.hid (by rw [hm]; rfl)
  clear hm h
  go_enter Try.func32, Try.ntmps32
  go_wp2_with fail
  go_ret
  exact ⟨by rw [HS.out]; simp, rfl⟩

theorem bitLen_zero : Go.Lib.bitLen 0 = 0 := rfl

set_option maxRecDepth 100000 in
theorem need_any (x : Nat) (w : World) (h : x < 18446744073709551616) :
    Calls Try.prog 25 #[.int .u64 x] w fun e w' => e = .returned (.int .i64 (Go.Lib.bitLen x : Nat)) ∧ w = w' := by
  have hle : Go.Lib.bitLen x ≤ 64 := Go.Lib.bitLen_le x 64 (by omega) h
  go_enter Try.func25, Try.ntmps25
  go_wp2_with fail
  go_loop [0, 3] (fun y n => ∃ (z k : Nat), z ≤ x ∧ y = .int .u64 z ∧ n = .int .i64 k ∧ Hid (k + Go.Lib.bitLen z = Go.Lib.bitLen x)) (fun y _ => (intOf y).toNat)
  case atStart => exact ⟨x, 0, Nat.le_refl _, rfl, rfl, Lib.hid (by omega)⟩
  case round =>
    obtain ⟨z, k, hz, rfl, rfl, HK⟩ := hrel
    have hk : k ≤ 64 := by have := HK.out; omega
    rcases Nat.eq_zero_or_pos z with h0 | hpos
    · subst h0
      have HE : Hid (k = Go.Lib.bitLen x) := Lib.hid (by have := HK.out; rw [bitLen_zero] at this; omega)
      go_wp2_with fail
      go_ret
      exact ⟨by rw [← HE.out]; rfl, rfl⟩
    · have HN : Hid ((k + 1) + Go.Lib.bitLen (z / 2) = Go.Lib.bitLen x) := Lib.hid (by
        have h1 := HK.out
        rw [Go.Lib.bitLen_half z (by omega) (by omega)] at h1
        omega)
      go_wp2_with fail
      go_round
      case rel => exact ⟨z / 2, k + 1, by omega, by go_num, by go_num, HN⟩
      case measure => simp [intOf]; omega
end Go.Proofs.Ytdjmjmbfaokdaaa
