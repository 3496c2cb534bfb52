/- VarintPuts: the walk of the law. -/
import Derived.Test.YtjbachplnkonkaaAwake1
import Derived.Deep.RegionWith
namespace Go.Proofs.Ytjbachplnkonkaa
set_option linter.unusedVariables false
open Go.RowKit
open Varm

set_option maxRecDepth 100000 in
theorem puts_any (us : List UInt64) (A : Option Addr) (c : Nat) (w : World) (hr : Reads w w.heap.size A (us.map vq)) (hl : us.length ≤ 7000000000000) :
    Calls Try.prog 3 #[.slice A us.length c] w fun e w' => e = .returned (.bool true) ∧ Below w.heap.size w w' := by
  go_enter Try.func3, Try.ntmps3
  go_wp2_with fail
  go_region_with (first
    | (go_at_call 14; refine (awake1_any _).mono ?_; rintro e w1 ⟨rfl, hb0⟩; have hb1 : Below w.heap.size w w1 := below_of_drew hb0; clear hb0; have hs1 := hb1.size)
    | (go_at_call 15; go_must (refine (put_any us A c _ w1.heap.size (Nat.le_refl _) ((hr.below hb1).more hs1) hl).mono ?_); rintro e w2 ⟨v2, rfl, hown2, hb2⟩; obtain ⟨A2, c2, rfl, -⟩ := own_slice hown2; have hs2 := hb2.size; have hstr2 := run_str (c := c2) (Reads.of_own hown2) rfl)
    | (go_at_call 16; refine (refPut_any us A c _ w2.heap.size (Nat.le_refl _) (((hr.below hb1).more hs1).below hb2 |>.more hs2) hl).mono ?_; rintro e w3 ⟨v3, rfl, hown3, hb3⟩; obtain ⟨A3, c3, rfl, -⟩ := own_slice hown3; have hs3 := hb3.size; have hstr3 := run_str (c := c3) (Reads.of_own hown3) rfl; have hstr2' := run_str (c := c2) ((Reads.of_own hown2).below hb3) rfl))
  all_goals
    go_wp2
    go_ret
    exact ⟨rfl, (hb1.trans (hb2.mono hs1)).trans (hb3.mono (by omega))⟩
end Go.Proofs.Ytjbachplnkonkaa
