/- The walks of lz.same and lz.literal. -/
import Derived.Test.YtdjmjmbfaokdaaaLzC
import Derived.Test.YtdjmjmbfaokdaaaLzPart
import Derived.Test.YtdjmjmbfaokdaaaPut
import Derived.Deep.RegionWith
import Derived.Deep.QuietTactic
import Derived.BigQuiet
namespace Go.Proofs.Ytdjmjmbfaokdaaa
set_option linter.unusedVariables false
open Go.RowKit
open Varm

set_option maxRecDepth 100000 in
theorem same_any (b : List UInt8) (A : Option Addr) (c i j : Nat) (w : World) (B : Nat) (hr : Reads w B A (b.map vb)) (hij : i < j) (hj : j ≤ b.length) (hl : b.length ≤ 65536) :
    Calls Try.prog 29 #[.slice A b.length c, .int .i64 i, .int .i64 j] w fun e w' => e = .returned (.int .i64 (sameAt b i j : Nat)) ∧ ∃ nn, w' = w.drewN nn := by
  go_enter Try.func29, Try.ntmps29
  go_wp2_with fail
  go_loopw [7] (fun n wr => ∃ k : Nat, j + k ≤ b.length ∧ n = .int .i64 k ∧ Hid (∀ m, m < k → b[i + m]? = b[j + m]?) ∧ ∃ nn, wr = w.drewN nn) (fun n _ => b.length - j - (intOf n).toNat)
  case atStart => exact ⟨0, by omega, rfl, Lib.hid (fun m' hm' => by omega), 0, rfl⟩
  case round =>
    obtain ⟨k, hk, rfl, HK, nn, rfl⟩ := hrel
    obtain ⟨q, hq⟩ : ∃ q, q = j + k := ⟨_, rfl⟩
    obtain ⟨m, hm⟩ : ∃ m, m = i + k := ⟨_, rfl⟩
    have w1 : IntKind.i64.wrap ((j : Int) + (k : Int)) = (q : Int) := (IntWalk.i64_in _ (by omega)).trans (by omega)
    have w2 : IntKind.i64.wrap ((i : Int) + (k : Int)) = (m : Int) := (IntWalk.i64_in _ (by omega)).trans (by omega)
    rcases Nat.lt_or_ge q b.length with hlt | hge
    · obtain ⟨bb, off, rfl, hbB, hc⟩ := hr.at_ (k := j) (by simp; omega)
      have h1 := Reads.byte hc (k := m) (by omega)
      have h2 := Reads.byte hc (k := q) (by omega)
      have g1 : m < b.length := by omega
      by_cases hx : b[m]'(by omega) = b[q]
      · have HK2 : Hid (∀ m, m < k + 1 → b[i + m]? = b[j + m]?) := Lib.hid (fun m' hm' => by
          rcases Nat.lt_or_ge m' k with h | h
          · exact HK.out m' h
          · obtain rfl : m' = k := by omega
            rw [← hm, ← hq, List.getElem?_eq_getElem (by omega), List.getElem?_eq_getElem hlt, hx])
        rw [hx] at h1
        clear hx
        generalize b[q] = x at h1 h2
        have hxx : ((x.toNat : Int) == (x.toNat : Int)) = true := by simp
        have HQ := Lib.hid hq
        clear hc hq hm
        go_wp2_with fail
        go_quiet (fail)
        go_wp2_with fail
        go_roundw
        case rel => exact ⟨k + 1, by have := HQ.out; omega, by go_num, HK2, nn + nq, rfl⟩
        case measure => have := HQ.out; simp [intOf]; omega
      · have HS : Hid (sameAt b i j = k) := Lib.hid (by
          unfold sameAt
          refine cpl_stop _ _ k (by rw [List.length_drop]; omega) (by rw [List.length_drop]; omega) (fun m' hm' => ?_) ?_
          · rw [List.getElem?_drop, List.getElem?_drop]; exact HK.out m' hm'
          · rw [List.getElem_drop, List.getElem_drop]; subst hm hq; exact hx)
        have hxx : (((b[m]'(by omega)).toNat : Int) == ((b[q]).toNat : Int)) = false := by
          simp only [beq_eq_false_iff_ne, ne_eq]
          intro h
          exact hx (UInt8.toNat_inj.1 (by omega))
        clear hx
        generalize (b[m]'(by omega)).toNat = x1 at h1 hxx
        generalize (b[q]).toNat = x2 at h2 hxx
        have HQ := Lib.hid hq
        clear hc hq hm
        go_wp2_with fail
        go_quiet (fail)
        go_wp2_with fail
        go_ret
        exact ⟨by rw [HS.out]; rfl, nn + nq, World.drewN_drewN ..⟩
    · have HS : Hid (sameAt b i j = k) := Lib.hid (by
        unfold sameAt
        rw [cpl_end _ _ (by rw [List.length_drop, List.length_drop]; omega) (fun m' hm' => ?_), List.length_drop]
        · omega
        · rw [List.length_drop] at hm'
          rw [List.getElem?_drop, List.getElem?_drop]; exact HK.out m' (by omega))
      have hg2 : decide (q < b.length) = false := decide_eq_false (by omega)
      clear hq hm
      go_wp2_with fail
      go_quiet (fail)
      go_wp2_with fail
      go_ret
      exact ⟨by rw [HS.out]; rfl, nn + nq, World.drewN_drewN ..⟩
end Go.Proofs.Ytdjmjmbfaokdaaa
