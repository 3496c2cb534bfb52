/- PackReads: the walk of the law. -/
import Derived.Test.YtdjmjmbfaokdaaaAwake3
namespace Go.Proofs.Ytdjmjmbfaokdaaa
set_option linter.unusedVariables false
open Go.RowKit
open Varm Pk

namespace Pk
theorem restOf_rng (f : Nat → Bool) (w first n to : Nat) : (restOf f w first n to).1.length ≤ n + 1 := by
  unfold restOf; split
  · simp
  · rw [numbers_len]; simp
theorem tailOf_rng (b : List UInt8) (first n p : Nat) : (tailOf b first n p).1.length ≤ n + 1 := by
  unfold tailOf
  split
  · simp
  · split
    · simp
    · split
      · simp
      · exact restOf_rng _ _ _ _ _
theorem unpack_rng (b : List UInt8) (p : Int) : (unpack b p).1.length ≤ 65536 := by
  unfold unpack
  split
  · simp
  · split
    · simp
    · split
      · simp
      · split
        · simp
        · split
          · simp
          · have := tailOf_rng b (getAt b (getAt b p).2.1).1 ((getAt b p).1 - 1) (getAt b (getAt b p).2.1).2.1.toNat
            omega
end Pk

set_option maxRecDepth 100000 in
theorem one3_any (b : List UInt8) (A : Option Addr) (c : Nat) (p : Int) (w : World) (B : Nat) (hr : Reads w B A (b.map vb)) (hB : B ≤ w.heap.size) (hc : b.length ≤ c) (hc2 : c ≤ 9223372036854775807) (hl : b.length ≤ 140737488355328) :
    Calls Try.prog 22 #[.slice A b.length c, .int .i64 p] w fun e w' => e = .returned (.bool true) ∧ Below B w w' := by
  have hrng := unpack_rng b p
  go_enter Try.func22, Try.ntmps22
  go_wp2_with fail
  refine (unpack_any b A c p w w.heap.size (hr.more hB) (Nat.le_refl _) hc hc2 hl).mono ?_
  rintro e w1 ⟨v1, rfl, hown1, hb1⟩
  obtain ⟨A1, c1, rfl, -, -⟩ := own_slice hown1
  have hs1 := hb1.size
  go_wp2_with fail
  refine (refUnpack_any b A c p w1 w1.heap.size ((hr.below (hb1.mono hB)).more (by omega)) (Nat.le_refl _) hc hc2 hl).mono ?_
  rintro e w2 ⟨v2, rfl, hown2, hb2⟩
  obtain ⟨A2, c2, rfl, -, -⟩ := own_slice hown2
  have hs2 := hb2.size
  have hown12 := own_past hown1 hb2 (Nat.le_refl _)
  have HB := Lib.hid ((hb1.mono hB).trans (hb2.mono (by omega)))
  have H4 := Lib.hid (same_yes _ A1 A2 c1 c2 w2 w2.heap.size (Reads.of_own hown12) (Reads.of_own hown2) (by omega))
  clear hown1 hown2 hown12 hb1 hb2
  generalize (unpack b p).1 = x at *
  generalize ((unpack b p).2.1 : Int) = y at *
  generalize ((unpack b p).2.2 : Int) = z at *
  have hy : (y == y) = true := by simp
  have hz : (z == z) = true := by simp
  go_wp2_with fail
  refine H4.out.mono ?_
  rintro e w3 ⟨rfl, nn, rfl⟩
  go_wp2
  go_ret
  exact ⟨rfl, below_drewN HB.out⟩

set_option maxRecDepth 100000 in
theorem packReads_any (b : List UInt8) (A : Option Addr) (c : Nat) (p : Int) (w : World) (hr : Reads w w.heap.size A (b.map vb)) (hc : b.length ≤ c) (hc2 : c ≤ 9223372036854775807) (hl : b.length ≤ 140737488355328) :
    Calls Try.prog 9 #[.slice A b.length c, .int .i64 p] w fun e w' => e = .returned (.bool true) ∧ Below w.heap.size w w' := by
  go_enter Try.func9, Try.ntmps9
  go_wp2_with fail
  refine (awake3_any w).mono ?_
  rintro e w0 ⟨rfl, hb0⟩
  have HONE := Lib.hid (fun w' (hb : Below w.heap.size w w') (q : Int) => one3_any b A c q w' w.heap.size (hr.below hb) hb.size hc hc2 hl)
  clear hr
  go_wp2_with fail
  go_loopw [5] (fun i wr => ∃ k : Int, -1 ≤ k ∧ k ≤ 12 ∧ i = .int .i64 k ∧ Below w.heap.size w wr) (fun i _ => (13 - intOf i).toNat)
  case atStart => exact ⟨-1, by omega, by omega, rfl, hb0⟩
  case round =>
    clear hb0
    obtain ⟨k, hk1, hk2, rfl, hbr⟩ := hrel
    have HO := Lib.hid (HONE.out wr hbr)
    obtain ⟨N, hN, hN2, hN3⟩ : ∃ N : Int, N = min (b.length : Int) 10 ∧ N ≤ 10 ∧ 0 ≤ N := ⟨_, rfl, by omega, by omega⟩
    have HN : min (b.length : Int) 10 = N := hN.symm
    rcases Int.lt_or_le (N + 1) k with hgt | hle
    · have q1 : ¬ (k ≤ N + 1) := by omega
      have q2 : decide (k ≤ N + 1) = false := decide_eq_false q1
      clear hN
      go_wp2_with fail
      refine (HO.out p).mono ?_
      rintro e w5 ⟨rfl, hb5⟩
      have HB := Lib.hid (hbr.trans hb5)
      go_wp2_with fail
      go_ret
      exact ⟨rfl, HB.out⟩
    · have q2 : decide (k ≤ N + 1) = true := decide_eq_true hle
      clear hN
      go_wp2_with fail
      refine (HO.out k).mono ?_
      rintro e w5 ⟨rfl, hb5⟩
      have hb6 := hbr.trans hb5
      clear hbr hb5
      go_wp2_with fail
      go_roundw
      case rel => exact ⟨k + 1, by omega, by omega, rfl, hb6⟩
      case measure => simp [intOf]; omega
end Go.Proofs.Ytdjmjmbfaokdaaa
