/- VarintZigs: the walk of the law. -/
import Derived.Test.YtjbachplnkonkaaAwake1
import Derived.Deep.RegionWith
namespace Go.Proofs.Ytjbachplnkonkaa
set_option linter.unusedVariables false
open Go.RowKit

set_option maxRecDepth 100000 in
theorem zigs_any (n u : Int) (w : World) (h1 : -9223372036854775808 ≤ n) (h2 : n ≤ 9223372036854775807) (h3 : 0 ≤ u) (h4 : u ≤ 18446744073709551615) :
    Calls Try.prog 6 #[.int .i64 n, .int .u64 u] w fun e w' => e = .returned (.bool true) ∧ Below w.heap.size w w' := by
  have Z1 := fun w => zig_any n w h1 h2
  have Z2 := fun w => refZig_any n w h1 h2
  have Z3 := fun w => zag_any u w h3 h4
  have Z4 := fun w => refZag_any u w h3 h4
  have Z5 := fun w => zag_any (zig n) w (zig_range n h1 h2).1 (zig_range n h1 h2).2
  have Z6 := fun w => zig_any (zag u) w (zag_range u h3 h4).1 (zag_range u h3 h4).2
  rw [zag_zig] at Z5
  rw [zig_zag _ h3] at Z6
  have o := zig_odd n
  have hr := zig_range n h1 h2
  generalize zig n = a at Z1 Z2 Z5 o hr
  generalize zag u = b at Z3 Z4 Z6
  have H1 := Lib.hid Z1
  have H2 := Lib.hid Z2
  have H3 := Lib.hid Z3
  have H4 := Lib.hid Z4
  have H5 := Lib.hid Z5
  have H6 := Lib.hid Z6
  obtain ⟨hr1, hr2⟩ := hr
  have e1 : (a == a) = true := by simp
  have e1' : (a != a) = false := by simp
  have e2' : (b != b) = false := by simp
  have e3 : (n == n) = true := by simp
  have e4 : (u == u) = true := by simp
  have e5 : ((a % 2 == 1) == decide (n < 0)) = true := by
    rw [beq_iff_eq, Bool.eq_iff_iff]; simp; exact o
  clear Z1 Z2 Z3 Z4 Z5 Z6 o
  go_enter Try.func6, Try.ntmps6
  go_wp2_with (go_at_call 14; refine (awake1_any _).mono ?_; rintro e w1 ⟨rfl, hb1⟩)
  refine (H1.out _).mono ?_
  rintro e w2 ⟨rfl, rfl⟩
  go_wp2_with fail
  refine (H2.out _).mono ?_
  rintro e w2 ⟨rfl, rfl⟩
  go_wp2_with fail
  refine (H3.out _).mono ?_
  rintro e w2 ⟨rfl, rfl⟩
  go_wp2_with fail
  refine (H4.out _).mono ?_
  rintro e w2 ⟨rfl, rfl⟩
  go_wp2_with fail
  refine (H1.out _).mono ?_
  rintro e w2 ⟨rfl, rfl⟩
  go_wp2_with fail
  refine (H5.out _).mono ?_
  rintro e w2 ⟨rfl, rfl⟩
  go_wp2_with fail
  refine (H3.out _).mono ?_
  rintro e w2 ⟨rfl, rfl⟩
  go_wp2_with fail
  refine (H6.out _).mono ?_
  rintro e w2 ⟨rfl, rfl⟩
  go_wp2_with fail
  refine (H1.out _).mono ?_
  rintro e w2 ⟨rfl, rfl⟩
  go_wp2_with fail
  go_ret
  exact ⟨rfl, hb1⟩
end Go.Proofs.Ytjbachplnkonkaa
