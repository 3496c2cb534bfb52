/- BloomHas: plain facts. -/
import Derived.Test.YtpfladolkkhfdaaAwake12
import Derived.Test.YtpfladolkkhfdaaBloomB
import Derived.Deep.RegionWith
import Derived.Deep.DrawnRows
namespace Go.Proofs.Ytpfladolkkhfdaa
set_option linter.unusedVariables false
open Go.RowKit
attribute [local go_sem ↓] Go.wp_at_zero Go.wp_at_succ

/-- The first k bytes with more bits on. -/
def orTo (g more : List UInt8) : Nat → List UInt8
  | 0 => g
  | k + 1 => (orTo g more k).set k ((orTo g more k).getD k 0 ||| more.getD k 0)
theorem orTo_len (g more : List UInt8) : ∀ k, (orTo g more k).length = g.length
  | 0 => rfl
  | k + 1 => by rw [orTo, List.length_set, orTo_len g more k]
theorem orTo_bits (g more : List UInt8) (q : Nat) (h : bitAt g q = true) : ∀ k, k ≤ g.length → bitAt (orTo g more k) q = true
  | 0, _ => h
  | k + 1, hk => by
    have ih := orTo_bits g more q h k (by omega)
    unfold bitAt at ih ⊢
    rw [orTo, getD_set _ _ _ _ (by rw [orTo_len]; omega)]
    split
    · rename_i e
      rw [UInt8.toNat_or, Nat.testBit_or]
      rw [← e] at ih
      rw [ih]; rfl
    · exact ih
theorem or8 (y z : UInt8) : bits .or .u8 (y.toNat : Int) (z.toNat : Int) = ((y ||| z).toNat : Int) := by
  have := y.toNat_lt
  have := z.toNat_lt
  rw [u8_or_nat _ _ (by omega) (by omega), UInt8.toNat_or]

theorem wrapU (x : Int) : 0 ≤ IntKind.u64.wrap x ∧ IntKind.u64.wrap x ≤ 18446744073709551615 := by
  rw [IntKind.wrap_u64]
  omega
theorem wrap64_small (x : Int) (h1 : 0 ≤ x) (h2 : x ≤ 9223372036854775807) : wrap64 x = x := by
  unfold wrap64
  omega
end Go.Proofs.Ytpfladolkkhfdaa
