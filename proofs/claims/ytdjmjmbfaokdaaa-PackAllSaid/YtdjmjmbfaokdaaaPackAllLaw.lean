/- PackAll: the walk of the law. -/
import Derived.Test.YtdjmjmbfaokdaaaAwake3
namespace Go.Proofs.Ytdjmjmbfaokdaaa
set_option linter.unusedVariables false
open Go.RowKit
open Varm Pk

set_option maxRecDepth 100000 in
theorem packAll_any (l : List UInt64) (A : Option Addr) (c : Nat) (w : World) (hr : Reads w w.heap.size A (l.map vq)) (hc : l.length ≤ c) (hl : l.length ≤ 140737488351232) :
    Calls Try.prog 8 #[.slice A l.length c] w fun e w' => e = .returned (.bool true) ∧ Below w.heap.size w w' := by
  go_enter Try.func8, Try.ntmps8
  go_wp2_with fail
  refine (awake3_any w).mono ?_
  rintro e w0 ⟨rfl, hb0⟩
  have hs0 := hb0.size
  go_wp2_with fail
  refine (pack_any l A c w0 w0.heap.size ((hr.below hb0).more hs0) (Nat.le_refl _) hc (by omega)).mono ?_
  rintro e w1 ⟨v1, rfl, hown1, hb1⟩
  obtain ⟨A1, c1, rfl, -, -⟩ := own_slice hown1
  have hs1 := hb1.size
  have hb01 := hb0.trans (hb1.mono hs0)
  clear hb0 hb1
  go_wp2_with fail
  refine (refPack_any l A c w1 w1.heap.size ((hr.below hb01).more (by omega)) (Nat.le_refl _) hc (by omega)).mono ?_
  rintro e w2 ⟨v2, rfl, hown2, hb2⟩
  obtain ⟨A2, c2, rfl, -, -⟩ := own_slice hown2
  have HB := Lib.hid (hb01.trans (hb2.mono (by omega)))
  have hown12 := own_past hown1 hb2 (Nat.le_refl _)
  have s1 := run_str (c := c1) (Reads.of_own hown12) rfl
  have s2 := run_str (c := c2) (Reads.of_own hown2) rfl
  clear hb01 hb2 hown1 hown2 hown12 hr
  generalize (pack l).1 = x at *
  generalize (pack l).2 = xe at *
  go_wp2
  go_ret
  exact ⟨rfl, HB.out⟩
end Go.Proofs.Ytdjmjmbfaokdaaa
