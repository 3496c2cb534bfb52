/- The walk of the reference's Same, at two slices that read as one list. -/
import Derived.Test.YtdjmjmbfaokdaaaLaws
import Derived.Deep.DeepMust
import Derived.Deep.QuietTactic
import Derived.BigQuiet
namespace Go.Proofs.Ytdjmjmbfaokdaaa
set_option linter.unusedVariables false
open Go.RowKit

set_option maxRecDepth 100000 in
theorem same_yes (x : List UInt64) (A A2 : Option Addr) (c c2 : Nat) (w : World) (B : Nat) (hr : Reads w B A (x.map vq)) (hr2 : Reads w B A2 (x.map vq)) (hl : x.length ≤ 140737488355328) :
    Calls Try.prog 24 #[.slice A x.length c, .slice A2 x.length c2] w fun e w' => e = .returned (.bool true) ∧ ∃ nn, w' = w.drewN nn := by
  go_enter Try.func24, Try.ntmps24
  go_wp2_with fail
  go_loopw [5] (fun i wr => ∃ k : Nat, k ≤ x.length ∧ i = .int .i64 k ∧ ∃ nn, wr = w.drewN nn) (fun i _ => x.length - (intOf i).toNat)
  case atStart => exact ⟨0, Nat.zero_le _, rfl, 0, rfl⟩
  case round =>
    obtain ⟨k, hk, rfl, nn, rfl⟩ := hrel
    rcases Nat.lt_or_ge k x.length with hlt | hge
    · obtain ⟨b, off, rfl, _, hcell⟩ := hr.at_ (k := k) (by simpa using hlt)
      obtain ⟨b2, off2, rfl, _, hcell2⟩ := hr2.at_ (k := k) (by simpa using hlt)
      have h1 := Reads.num hcell hlt
      have h2 := Reads.num hcell2 hlt
      clear hcell hcell2
      generalize (x[k].toNat : Int) = z at h1 h2
      have hx : (z != z) = false := by simp
      go_wp2_with fail
      go_quiet (fail)
      go_wp2_with fail
      go_roundw
      case rel => exact ⟨k + 1, by omega, by go_num, _, rfl⟩
      case measure => simp [intOf]; omega
    · obtain rfl : x.length = k := by omega
      go_wp2_with fail
      go_ret
      exact ⟨rfl, nn, rfl⟩
end Go.Proofs.Ytdjmjmbfaokdaaa
