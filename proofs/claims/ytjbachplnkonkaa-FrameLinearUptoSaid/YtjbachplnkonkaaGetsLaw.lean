/- VarintGets: the walk of the law. -/
import Derived.Test.YtjbachplnkonkaaAwake1
namespace Go.Proofs.Ytjbachplnkonkaa
set_option linter.unusedVariables false
open Go.RowKit
open Varm

theorem getAt_range (bs : List UInt8) (at_ : Int) (hl : bs.length ≤ 9223372036854775807) : (getAt bs at_).1 < 18446744073709551616 ∧ 0 ≤ (getAt bs at_).2.1 ∧ (getAt bs at_).2.1 ≤ bs.length ∧ (getAt bs at_).2.2 ≤ 6 := by
  unfold getAt
  split
  · exact ⟨by decide, by simp, by simp, by simp⟩
  · rename_i hn
    split
    · rename_i h0
      have h1 := getA_ok0 (bs := bs.drop at_.toNat) (m := (getA (bs.drop at_.toNat) 0 0).1) (t := (getA (bs.drop at_.toNat) 0 0).2.1) (Prod.ext rfl (Prod.ext rfl h0))
      obtain ⟨h2, h3, -, -, h5⟩ := h1
      rw [List.length_drop] at h3
      exact ⟨h5, by simp only; omega, by simp only; omega, by simp⟩
    · have := getA_errs (bs.drop at_.toNat) 0 0
      exact ⟨by simp, by simp, by simp, by simp only; omega⟩

set_option maxRecDepth 100000 in
theorem one_law (bs : List UInt8) (A : Option Addr) (c : Nat) (at_ : Int) (w : World) (B : Nat) (hr : Reads w B A (bs.map vb)) (hc : bs.length ≤ c) (hl : bs.length ≤ 9223372036854775807) :
    Calls Try.prog 17 #[.slice A bs.length c, .int .i64 at_] w fun e w' => e = .returned (.bool true) ∧ w = w' := by
  have h1 := get_any bs A c at_ w B hr hc hl
  have h2 := refGet_any bs A c at_ w B hr hl
  unfold getV at h1 h2
  generalize ((getAt bs at_).1 : Int) = a1 at h1 h2
  generalize (getAt bs at_).2.1 = a2 at h1 h2
  generalize ((getAt bs at_).2.2 : Int) = a3 at h1 h2
  have b1 : (a1 == a1) = true := by simp
  have b2 : (a2 == a2) = true := by simp
  have b3 : (a3 == a3) = true := by simp
  have H1 := Lib.hid h1
  have H2 := Lib.hid h2
  clear h1 h2
  go_enter Try.func17, Try.ntmps17
  go_wp2_with (first | (go_at_call 18; refine H1.out.mono ?_; rintro e w' ⟨rfl, rfl⟩) | (go_at_call 31; refine H2.out.mono ?_; rintro e w' ⟨rfl, rfl⟩))
  go_ret
  exact ⟨rfl, rfl⟩

set_option maxRecDepth 100000 in
theorem gets_any (bs : List UInt8) (A : Option Addr) (c : Nat) (at_ : Int) (w : World) (hr : Reads w w.heap.size A (bs.map vb)) (hc : bs.length ≤ c) (hl : bs.length ≤ 140737488355328) :
    Calls Try.prog 4 #[.slice A bs.length c, .int .i64 at_] w fun e w' => e = .returned (.bool true) ∧ Below w.heap.size w w' := by
  go_enter Try.func4, Try.ntmps4
  go_wp2_with (go_at_call 14; refine (awake1_any _).mono ?_; rintro e w1 ⟨rfl, hb1⟩)
  go_loop [5] (fun i => ∃ k : Int, -1 ≤ k ∧ k ≤ 202 ∧ i = .int .i64 k) (fun i => (203 - intOf i).toNat)
  case atStart => exact ⟨-1, by omega, by omega, rfl⟩
  case round =>
    obtain ⟨k, hk1, hk2, rfl⟩ := hrel
    go_wp2_with (go_at_call 17; refine (one_law bs A c _ _ w.heap.size (hr.below hb1) hc (by omega)).mono ?_; rintro e w' ⟨rfl, rfl⟩)
    all_goals first
      | (go_ret; exact ⟨rfl, hb1⟩)
      | skip
    go_round
    case rel =>
      have hk3 : k ≤ (if (200 : Int) < bs.length then 200 else (bs.length : Int)) + 1 := by assumption
      exact ⟨k + 1, by omega, by split at hk3 <;> omega, rfl⟩
    case measure => simp [intOf]; omega
end Go.Proofs.Ytjbachplnkonkaa
