/- LzExpands: the walk of the law. -/
import Derived.Test.YtdjmjmbfaokdaaaAwake4
namespace Go.Proofs.Ytdjmjmbfaokdaaa
set_option linter.unusedVariables false
open Go.RowKit
open Varm

set_option maxRecDepth 100000 in
theorem lzExpands_any (b : List UInt8) (A : Option Addr) (c : Nat) (most : Int) (w : World) (hr : Reads w w.heap.size A (b.map vb)) (hc : b.length ≤ c) (hc2 : c ≤ 9223372036854775807) (hm1 : -9223372036854775808 ≤ most) (hm2 : most ≤ 9223372036854775807) :
    Calls Try.prog 3 #[.slice A b.length c, .int .i64 most] w fun e w' => e = .returned (.bool true) ∧ Below w.heap.size w w' := by
  go_enter Try.func3, Try.ntmps3
  go_wp2_with fail
  refine (awake4_any w).mono ?_
  rintro e w0 ⟨rfl, hb0⟩
  have hs0 := hb0.size
  go_wp2_with fail
  refine (expand_any b A c most w0 w0.heap.size ((hr.below hb0).more hs0) (Nat.le_refl _) hc hc2 hm1 hm2).mono ?_
  rintro e w1 ⟨v1, rfl, hown1, hb1⟩
  obtain ⟨A1, c1, rfl, -, -⟩ := own_slice hown1
  have hs1 := hb1.size
  have hb01 := hb0.trans (hb1.mono hs0)
  clear hb0 hb1
  go_wp2_with fail
  refine (refExpand_any b A c most w1 w1.heap.size ((hr.below hb01).more (by omega)) (Nat.le_refl _) hc hc2 hm1 hm2).mono ?_
  rintro e w2 ⟨v2, rfl, hown2, hb2⟩
  obtain ⟨A2, c2, rfl, -, -⟩ := own_slice hown2
  have hs2 := hb2.size
  have hb02 := hb01.trans (hb2.mono (by omega))
  have hown12 := own_past hown1 hb2 (Nat.le_refl _)
  clear hb01 hb2 hown1
  go_wp2_with fail
  refine (expand_any b A c 65536 w2 w2.heap.size ((hr.below hb02).more (by omega)) (Nat.le_refl _) hc hc2 (by omega) (by omega)).mono ?_
  rintro e w3 ⟨v3, rfl, hown3, hb3⟩
  obtain ⟨A3, c3, rfl, -, -⟩ := own_slice hown3
  have hs3 := hb3.size
  have hb03 := hb02.trans (hb3.mono (by omega))
  have hown13 := own_past hown12 hb3 (Nat.le_refl _)
  have hown23 := own_past hown2 hb3 (Nat.le_refl _)
  clear hb02 hb3 hown12 hown2
  go_wp2_with fail
  refine (refExpand_any b A c 65536 w3 w3.heap.size ((hr.below hb03).more (by omega)) (Nat.le_refl _) hc hc2 (by omega) (by omega)).mono ?_
  rintro e w4 ⟨v4, rfl, hown4, hb4⟩
  obtain ⟨A4, c4, rfl, -, -⟩ := own_slice hown4
  have HB := Lib.hid (hb03.trans (hb4.mono (by omega)))
  have hown14 := own_past hown13 hb4 (Nat.le_refl _)
  have hown24 := own_past hown23 hb4 (Nat.le_refl _)
  have hown34 := own_past hown3 hb4 (Nat.le_refl _)
  have s1 := run_str (c := c1) (Reads.of_own hown14) rfl
  have s2 := run_str (c := c2) (Reads.of_own hown24) rfl
  have s3 := run_str (c := c3) (Reads.of_own hown34) rfl
  have s4 := run_str (c := c4) (Reads.of_own hown4) rfl
  clear hb03 hb4 hown13 hown23 hown3 hown14 hown24 hown34 hown4 hr
  generalize (expand b most).1 = x at *
  generalize (expand b most).2 = xe at *
  generalize (expand b 65536).1 = z at *
  generalize (expand b 65536).2 = ze at *
  go_wp2
  go_ret
  exact ⟨rfl, HB.out⟩
end Go.Proofs.Ytdjmjmbfaokdaaa
