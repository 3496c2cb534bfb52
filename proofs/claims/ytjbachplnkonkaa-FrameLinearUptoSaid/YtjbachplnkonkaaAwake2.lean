/- 'awake' of chapter 2's laws. -/
import Derived.Test.YtjbachplnkonkaaRefRead
import Derived.Lib.SlBytesConst
namespace Go.Proofs.Ytjbachplnkonkaa
set_option linter.unusedVariables false
open Go.RowKit
open Varm Frm

theorem sum_a : sum [97] = 3904355907 := by decide +kernel
theorem sum_9 : sum [49, 50, 51, 52, 53, 54, 55, 56, 57] = 3421780262 := by decide +kernel
theorem frame_a : frame [97] = [1, 97, 67, 190, 183, 232] := by
  unfold frame
  rw [sum_a, show ([97] : List UInt8).length = 1 from rfl, one_lt (by omega)]
  decide +kernel
theorem frameR_a : frameR [97] = ([1, 97, 67, 190, 183, 232], 0) := by
  unfold frameR
  rw [if_neg (by simp), frame_a]
theorem read_a : readAt [1, 97, 67, 190, 183, 232] 0 = ([97], 6, 0) := by
  have h := readAt_frame [] [97] [] (by simp)
  rw [frame_a] at h
  exact h

set_option maxRecDepth 100000 in
theorem awake2_any (w : World) :
    Calls Try.prog 23 #[] w fun e w' => e = .returned (.bool true) ∧ Below w.heap.size w w' := by
  have kc := fun (w : World) (C : Array Value) (n c : Nat) => Lib.run_convert_bytes_const (P := Try.prog) w 24 5 C n c Try.underlying24 Try.underlying5
  go_enter Try.func23, Try.ntmps23
  go_wp2_with fail
  have h1 := frame_any [97] (some ⟨w.heap.size, 0, none⟩) 1 (w.alloc (.cells #[.int .u8 97] 5 (1, 2))) (Reads.of_block (heap_alloc_new w _) (by simp)) (by simp)
  rw [frameR_a] at h1
  refine h1.mono ?_
  rintro e w1 ⟨v1, rfl, hown1, hb1⟩
  obtain ⟨A1, c1, rfl, -, -⟩ := own_slice hown1
  have hs1 := hb1.size
  rw [World.size_alloc] at hs1
  go_wp2_with fail
  have h2 := read_any [1, 97, 67, 190, 183, 232] (some ⟨w1.heap.size, 0, none⟩) 6 0 (w1.alloc (.cells #[.int .u8 1, .int .u8 97, .int .u8 67, .int .u8 190, .int .u8 183, .int .u8 232] 5 (6, 7))) (Reads.of_block (heap_alloc_new w1 _) (by simp)) (by simp) (by simp)
  rw [read_a] at h2
  refine h2.mono ?_
  rintro e w2 ⟨v2, rfl, hown2, hb2⟩
  obtain ⟨A2, c2, rfl, -, -⟩ := own_slice hown2
  have hs2 := hb2.size
  rw [World.size_alloc] at hs2
  have hown12 := own_past (hown1.alloc _) hb2 (Nat.le_refl _)
  obtain ⟨D, hD⟩ : ∃ D, D = Obj.cells #[.int .u8 49, .int .u8 50, .int .u8 51, .int .u8 52, .int .u8 53, .int .u8 54, .int .u8 55, .int .u8 56, .int .u8 57] 5 (9, 10) := ⟨_, rfl⟩
  obtain ⟨E, hE⟩ : ∃ E, E = Obj.cells #[.slice (some ⟨w2.heap.size, 0, none⟩) 9 9] 24 := ⟨_, rfl⟩
  have hstr1 := run_str (n := 6) (c := c1) (((Reads.of_own hown12).alloc (Nat.le_refl _) D).alloc (by simp) E) rfl
  have hstr2 := run_str (n := 1) (c := c2) (((Reads.of_own hown2).alloc (Nat.le_refl _) D).alloc (by simp) E) rfl
  have h3 := sum1 [49, 50, 51, 52, 53, 54, 55, 56, 57] (some ⟨w2.heap.size, 0, none⟩) 9 (w2.heap.size + 1) ((w2.alloc D).alloc E) (w2.heap.size + 2) (by subst hE; have h := cell_new (w2.alloc D) (.slice (some ⟨w2.heap.size, 0, none⟩) 9 9) 24; rw [World.size_alloc] at h; exact h) (by omega)
    (((by subst hD; exact Reads.of_block (heap_alloc_new w2 _) (by omega) : Reads (w2.alloc D) (w2.heap.size + 1) (some ⟨w2.heap.size, 0, none⟩) (([49, 50, 51, 52, 53, 54, 55, 56, 57] : List UInt8).map vb)).alloc (by simp) E).more (by omega)) (by simp)
  rw [sum_9] at h3
  have HB := Lib.hid (show Below w.heap.size w ((w2.alloc D).alloc E) from
    (((((Below.refl w.heap.size w).alloc (Nat.le_refl _) _).trans (hb1.mono (by simp))).alloc (by omega) _).trans (hb2.mono (by simp; omega))).alloc (by omega) D |>.alloc (by simp; omega) E)
  have H3 := Lib.hid h3
  clear h1 h2 h3 hown1 hown2 hown12 hb1 hb2
  subst hD hE
  go_wp2_with fail
  refine H3.out.mono ?_
  rintro e w' ⟨rfl, rfl⟩
  go_wp2
  go_ret
  exact ⟨rfl, HB.out⟩
end Go.Proofs.Ytjbachplnkonkaa
