/- 'awake' of chapter 4's laws. -/
import Derived.Test.YtdjmjmbfaokdaaaLzRef
import Derived.Test.YtdjmjmbfaokdaaaLzComp
import Derived.Lib.SlBytesConst
namespace Go.Proofs.Ytdjmjmbfaokdaaa
set_option linter.unusedVariables false
open Go.RowKit
open Varm

abbrev ab6 : List UInt8 := [97, 98, 97, 98, 97, 98]
abbrev ab16 : List UInt8 := [97, 98, 97, 98, 97, 98, 97, 98, 97, 98, 97, 98, 97, 98, 97, 98]
theorem exp_ab : expand [6, 4, 97, 98, 9, 2] 9 = (ab6, 0) := by decide +kernel
theorem comp_ab : compress ab16 = ([16, 4, 97, 98, 29, 2], 0) := by decide +kernel
theorem exp_ab2 : expand [16, 4, 97, 98, 29, 2] 16 = (ab16, 0) := by decide +kernel

set_option maxRecDepth 100000 in
theorem awake4_any (w : World) :
    Calls Try.prog 14 #[] w fun e w' => e = .returned (.bool true) ∧ Below w.heap.size w w' := by
  have kc := fun (w : World) (C : Array Value) (n c : Nat) => Lib.run_convert_bytes_const (P := Try.prog) w 22 5 C n c Try.underlying22 Try.underlying5
  go_enter Try.func14, Try.ntmps14
  go_wp2_with fail
  have h1 := expand_any [6, 4, 97, 98, 9, 2] (some ⟨w.heap.size, 0, none⟩) 6 9 (w.alloc (.cells #[.int .u8 6, .int .u8 4, .int .u8 97, .int .u8 98, .int .u8 9, .int .u8 2] 5)) (w.heap.size + 1) (Reads.of_block (heap_alloc_new w _) (by omega)) (by simp) (by simp) (by omega) (by omega) (by omega)
  rw [exp_ab] at h1
  refine h1.mono ?_
  rintro e w1 ⟨v1, rfl, hown1, hb1⟩
  obtain ⟨A1, c1, rfl, -, -⟩ := own_slice hown1
  have hs1 := hb1.size
  rw [World.size_alloc] at hs1
  clear h1
  go_wp2_with fail
  have h2 := comp_any ab16 (some ⟨w1.heap.size, 0, none⟩) 16 (w1.alloc (.cells #[.int .u8 97, .int .u8 98, .int .u8 97, .int .u8 98, .int .u8 97, .int .u8 98, .int .u8 97, .int .u8 98, .int .u8 97, .int .u8 98, .int .u8 97, .int .u8 98, .int .u8 97, .int .u8 98, .int .u8 97, .int .u8 98] 5 (16, 17))) (w1.heap.size + 1) (Reads.of_block (heap_alloc_new w1 _) (by omega)) (by simp) (by simp) (by simp)
  rw [comp_ab] at h2
  refine h2.mono ?_
  rintro e w2 ⟨v2, rfl, hown2, hb2⟩
  obtain ⟨A2, c2, rfl, hc2, hm2⟩ := own_slice hown2
  have hs2 := hb2.size
  rw [World.size_alloc] at hs2
  have hown12 := own_past (hown1.alloc _) hb2 (by simp)
  clear h2
  go_wp2_with fail
  have h3 := refExpand_any [16, 4, 97, 98, 29, 2] A2 c2 16 w2 w2.heap.size (Reads.of_own hown2) (Nat.le_refl _) (by simpa using hc2) (by unfold maxLen at hm2; omega) (by omega) (by omega)
  rw [exp_ab2] at h3
  refine h3.mono ?_
  rintro e w3 ⟨v3, rfl, hown3, hb3⟩
  obtain ⟨A3, c3, rfl, -, -⟩ := own_slice hown3
  have hs3 := hb3.size
  have hown13 := own_past hown12 hb3 (Nat.le_refl _)
  have hstr1 := run_str (n := 6) (c := c1) (Reads.of_own hown13) rfl
  have hstr2 := run_str (n := 16) (c := c3) (Reads.of_own hown3) rfl
  have HB := Lib.hid (show Below w.heap.size w w3 from
    ((((((Below.refl w.heap.size w).alloc (Nat.le_refl _) _).trans (hb1.mono (by omega))).alloc (by omega) _).trans (hb2.mono (by omega))).trans (hb3.mono (by omega))))
  clear h3 hown1 hown2 hown12 hown13 hown3 hb1 hb2 hb3
  go_wp2
  go_ret
  exact ⟨rfl, HB.out⟩
end Go.Proofs.Ytdjmjmbfaokdaaa
