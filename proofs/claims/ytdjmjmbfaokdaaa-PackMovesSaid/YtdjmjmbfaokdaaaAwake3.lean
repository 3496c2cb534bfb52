/- 'awake' of chapter 3's laws. -/
import Derived.Test.YtdjmjmbfaokdaaaSame64
import Derived.Test.YtdjmjmbfaokdaaaPackR
import Derived.Test.YtdjmjmbfaokdaaaUnpRef
import Derived.Deep.RegionWith
namespace Go.Proofs.Ytdjmjmbfaokdaaa
set_option linter.unusedVariables false
open Go.RowKit
open Varm Pk

theorem pack_145 : pack [1, 4, 5] = ([3, 1, 2, 2], 0) := by decide +kernel
theorem unpack_350 : unpack [3, 5, 0] 0 = ([5, 6, 7], 3, 0) := by decide +kernel
theorem unpack_bad : unpack [3, 1, 2, 18] 0 = ([], 0, 6) := by decide +kernel

set_option maxRecDepth 100000 in
theorem awake3_any (w : World) :
    Calls Try.prog 19 #[] w fun e w' => e = .returned (.bool true) ∧ Below w.heap.size w w' := by
  go_enter Try.func19, Try.ntmps19
  go_wp2_with fail
  have h1 := pack_any [1, 4, 5] (some ⟨w.heap.size, 0, none⟩) 3 (w.alloc (.cells #[.int .u64 1, .int .u64 4, .int .u64 5] 33)) (w.heap.size + 1) (Reads.of_block (heap_alloc_new w _) (by omega)) (by simp) (by simp) (by simp)
  rw [pack_145] at h1
  refine h1.mono ?_
  rintro e w1 ⟨v1, rfl, hown1, hb1⟩
  obtain ⟨A1, c1, rfl, -, -⟩ := own_slice hown1
  have hs1 := hb1.size
  rw [World.size_alloc] at hs1
  clear h1
  go_wp2_with fail
  have h2 := unpack_any [3, 5, 0] (some ⟨w1.heap.size, 0, none⟩) 3 0 (w1.alloc (.cells #[.int .u8 3, .int .u8 5, .int .u8 0] 5)) (w1.heap.size + 1) (Reads.of_block (heap_alloc_new w1 _) (by omega)) (by simp) (by simp) (by omega) (by simp)
  rw [unpack_350] at h2
  refine h2.mono ?_
  rintro e w2 ⟨v2, rfl, hown2, hb2⟩
  obtain ⟨A2, c2, rfl, -, -⟩ := own_slice hown2
  have hs2 := hb2.size
  rw [World.size_alloc] at hs2
  have hown12 := own_past (hown1.alloc _) hb2 (by simp)
  clear h2 hown1
  go_wp2_with fail
  have h3 := unpack_any [3, 1, 2, 18] (some ⟨w2.heap.size, 0, none⟩) 4 0 (w2.alloc (.cells #[.int .u8 3, .int .u8 1, .int .u8 2, .int .u8 18] 5)) (w2.heap.size + 1) (Reads.of_block (heap_alloc_new w2 _) (by omega)) (by simp) (by simp) (by omega) (by simp)
  rw [unpack_bad] at h3
  refine h3.mono ?_
  rintro e w3 ⟨v3, rfl, hown3, hb3⟩
  obtain ⟨A3, c3, rfl, -, -⟩ := own_slice hown3
  have hs3 := hb3.size
  rw [World.size_alloc] at hs3
  have hown13 := own_past (hown12.alloc _) hb3 (by simp)
  have hown23 := own_past (hown2.alloc _) hb3 (by simp)
  have hstr1 := run_str (n := 4) (c := c1) (Reads.of_own hown13) rfl
  have HB := Lib.hid (show Below w.heap.size w w3 from
    (((((Below.refl w.heap.size w).alloc (Nat.le_refl _) _).trans (hb1.mono (by omega))).alloc (by omega) _).trans (hb2.mono (by omega))).alloc (by omega) _ |>.trans (hb3.mono (by omega)))
  have hr23 := Reads.of_own hown23
  clear h3 hown12 hown2 hown3 hown13 hown23 hb1 hb2 hb3
  go_wp2_with fail
  have h4 := same_yes [5, 6, 7] A2 (some ⟨w3.heap.size, 0, none⟩) c2 3 (w3.alloc (.cells #[.int .u64 5, .int .u64 6, .int .u64 7] 33)) (w3.heap.size + 1) ((hr23.alloc (Nat.le_refl _) _).more (by omega)) (Reads.of_block (heap_alloc_new w3 _) (by omega)) (by simp)
  refine h4.mono ?_
  rintro e w4 ⟨rfl, nn, rfl⟩
  have HB2 := Lib.hid (below_drewN (n := nn) (HB.out.alloc (by have := HB.out.size; omega) (.cells #[.int .u64 5, .int .u64 6, .int .u64 7] 33)))
  clear h4 hstr1
  go_wp2
  go_ret
  exact ⟨rfl, HB2.out⟩
end Go.Proofs.Ytdjmjmbfaokdaaa
