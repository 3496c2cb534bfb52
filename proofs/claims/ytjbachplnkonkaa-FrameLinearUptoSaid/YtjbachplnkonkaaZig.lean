/- Numbers with a sign and without one. -/
import Derived.Test.YtjbachplnkonkaaRefGet
import Derived.WalkSmall
namespace Go.Proofs.Ytjbachplnkonkaa
set_option linter.unusedVariables false
open Go.RowKit

def zig (n : Int) : Int := if 0 ≤ n then 2 * n else -2 * n - 1
def zag (u : Int) : Int := if u % 2 = 0 then u / 2 else -(u / 2) - 1

theorem zig_range (n : Int) (h1 : -9223372036854775808 ≤ n) (h2 : n ≤ 9223372036854775807) : 0 ≤ zig n ∧ zig n ≤ 18446744073709551615 := by
  unfold zig; split <;> omega
theorem zag_range (n : Int) (h1 : 0 ≤ n) (h2 : n ≤ 18446744073709551615) : -9223372036854775808 ≤ zag n ∧ zag n ≤ 9223372036854775807 := by
  unfold zag; split <;> omega
theorem zag_zig (n : Int) : zag (zig n) = n := by unfold zig zag; split <;> split <;> omega
theorem zig_zag (n : Int) (h : 0 ≤ n) : zig (zag n) = n := by unfold zag; split <;> (unfold zig; split <;> omega)
theorem zig_odd (n : Int) : zig n % 2 = 1 ↔ n < 0 := by unfold zig; split <;> omega

theorem xor_ones64 (a : Int) (h0 : 0 ≤ a) (h1 : a ≤ 18446744073709551615) : bits .xor .u64 a 18446744073709551615 = 18446744073709551615 - a := by
  obtain ⟨k, rfl⟩ := Int.eq_ofNat_of_zero_le h0
  have h := u64_xor_nat k 18446744073709551615 (by omega) (by omega)
  have e : k ^^^ 18446744073709551615 = 18446744073709551615 - k := by
    have hb : (BitVec.ofNat 64 k ^^^ BitVec.allOnes 64) = ~~~(BitVec.ofNat 64 k) := BitVec.xor_allOnes
    have := congrArg BitVec.toNat hb
    rw [BitVec.toNat_xor, BitVec.toNat_ofNat, BitVec.toNat_allOnes, BitVec.toNat_not, BitVec.toNat_ofNat, Nat.mod_eq_of_lt (by omega)] at this
    exact this
  rw [e] at h
  refine h.trans ?_
  omega

theorem xor_zero64 (a : Int) (h0 : 0 ≤ a) (h1 : a ≤ 18446744073709551615) : bits .xor .u64 a 0 = a := by
  obtain ⟨k, rfl⟩ := Int.eq_ofNat_of_zero_le h0
  have h := u64_xor_nat k 0 (by omega) (by omega)
  rw [Nat.xor_zero] at h
  exact h

theorem ixor_zero (a : Int) (h0 : 0 ≤ a) (h1 : a ≤ 9223372036854775807) : bits .xor .i64 a 0 = a := by
  show IntKind.i64.wrap ((BitVec.ofInt 64 a ^^^ BitVec.ofInt 64 0).toNat : Int) = a
  have e : (BitVec.ofInt 64 0) = 0#64 := rfl
  rw [e, BitVec.xor_zero, BitVec.toNat_ofInt, IntKind.wrap_i64]
  omega

theorem ixor_ones (a : Int) (h0 : 0 ≤ a) (h1 : a ≤ 9223372036854775807) : bits .xor .i64 a (-1) = -a - 1 := by
  show IntKind.i64.wrap ((BitVec.ofInt 64 a ^^^ BitVec.ofInt 64 (-1)).toNat : Int) = -a - 1
  have e : (BitVec.ofInt 64 (-1)) = BitVec.allOnes 64 := by decide +kernel
  rw [e, BitVec.xor_allOnes, BitVec.toNat_not, BitVec.toNat_ofInt, IntKind.wrap_i64]
  omega

theorem zig_val (n : Int) (h1 : -9223372036854775808 ≤ n) (h2 : n ≤ 9223372036854775807) :
    bits .xor .u64 (IntKind.u64.wrap (wrap64 (n * 2))) (IntKind.u64.wrap (n / 9223372036854775808)) = zig n := by
  unfold zig wrap64
  rw [IntKind.wrap_u64, IntKind.wrap_u64]
  split
  · rw [show n / 9223372036854775808 % 18446744073709551616 = 0 by omega, xor_zero64 _ (by omega) (by omega)]
    omega
  · rw [show n / 9223372036854775808 % 18446744073709551616 = 18446744073709551615 by omega, xor_ones64 _ (by omega) (by omega)]
    omega

theorem zag_val (n : Int) (h1 : 0 ≤ n) (h2 : n ≤ 18446744073709551615) :
    bits .xor .i64 (n / 2) (wrap64 (-wrap64 (bits .and .u64 n 1))) = zag n := by
  rw [and_one_u64 n h1 h2]
  unfold zag wrap64
  split
  · rename_i h
    rw [h, show (-((0 + 9223372036854775808) % 18446744073709551616 - 9223372036854775808) + 9223372036854775808) % 18446744073709551616 - 9223372036854775808 = (0 : Int) by omega]
    exact ixor_zero _ (by omega) (by omega)
  · rw [show (-((n % 2 + 9223372036854775808) % 18446744073709551616 - 9223372036854775808) + 9223372036854775808) % 18446744073709551616 - 9223372036854775808 = (-1 : Int) by omega]
    exact ixor_ones _ (by omega) (by omega)

theorem ret_int {k : IntKind} {a b : Int} (h : a = b) : Ending.returned (.int k a) = .returned (.int k b) := by rw [h]

set_option maxRecDepth 100000 in
theorem zig_any (n : Int) (w : World) (h1 : -9223372036854775808 ≤ n) (h2 : n ≤ 9223372036854775807) :
    Calls Try.prog 19 #[.int .i64 n] w fun e w' => e = .returned (.int .u64 (zig n)) ∧ w = w' := by
  have HV := Lib.hid (zig_val n h1 h2)
  go_enter Try.func19, Try.ntmps19
  go_wp2
  go_ret
  exact ⟨ret_int HV.out, rfl⟩
set_option maxRecDepth 100000 in
theorem zag_any (n : Int) (w : World) (h1 : 0 ≤ n) (h2 : n ≤ 18446744073709551615) :
    Calls Try.prog 21 #[.int .u64 n] w fun e w' => e = .returned (.int .i64 (zag n)) ∧ w = w' := by
  have HV := Lib.hid (zag_val n h1 h2)
  go_enter Try.func21, Try.ntmps21
  go_wp2
  go_ret
  exact ⟨ret_int HV.out, rfl⟩
set_option maxRecDepth 100000 in
theorem refZig_any (n : Int) (w : World) (h1 : -9223372036854775808 ≤ n) (h2 : n ≤ 9223372036854775807) :
    Calls Try.prog 20 #[.int .i64 n] w fun e w' => e = .returned (.int .u64 (zig n)) ∧ w = w' := by
  by_cases h : 0 ≤ n
  · go_enter Try.func20, Try.ntmps20
    go_wp2
    go_ret
    exact ⟨ret_int (by unfold zig; rw [if_pos h]), rfl⟩
  · go_enter Try.func20, Try.ntmps20
    go_wp2
    go_ret
    exact ⟨ret_int (by unfold zig; split <;> omega), rfl⟩
set_option maxRecDepth 100000 in
theorem refZag_any (n : Int) (w : World) (h1 : 0 ≤ n) (h2 : n ≤ 18446744073709551615) :
    Calls Try.prog 22 #[.int .u64 n] w fun e w' => e = .returned (.int .i64 (zag n)) ∧ w = w' := by
  by_cases h : n % 2 = 0
  · have hb : (n % 2 == 0) = true := by simpa using h
    have H := Lib.hid h
    clear h
    go_enter Try.func22, Try.ntmps22
    go_wp2
    go_ret
    exact ⟨ret_int (by unfold zag; rw [if_pos H.out]), rfl⟩
  · have hb : (n % 2 == 0) = false := by simpa using h
    have H := Lib.hid h
    clear h
    go_enter Try.func22, Try.ntmps22
    go_wp2
    go_ret
    exact ⟨ret_int (by unfold zag; rw [if_neg H.out]), rfl⟩
end Go.Proofs.Ytjbachplnkonkaa
