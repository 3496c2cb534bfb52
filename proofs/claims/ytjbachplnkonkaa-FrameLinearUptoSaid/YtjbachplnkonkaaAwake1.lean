/- 'awake' of chapter 1's laws. -/
import Derived.Test.YtjbachplnkonkaaZig
namespace Go.Proofs.Ytjbachplnkonkaa
set_option linter.unusedVariables false
open Go.RowKit
open Varm

/-- The same, its block's number a letter. -/
theorem reads_at {w : World} {cs : Array Value} {t : TypeId} {b : Nat} (hb : b = w.heap.size) : Reads (w.alloc (.cells cs t)) (b + 1) (some ⟨b, 0, none⟩) cs.toList := by
  subst hb
  exact Reads.of_block (heap_alloc_new w _) (by omega)

/-- A list of bytes laid by the call itself, written out. -/
theorem reads_lit {w : World} {cs : Array Value} {t : TypeId} {B : Nat} (hB : w.heap.size < B) : Reads (w.alloc (.cells cs t)) B (some ⟨w.heap.size, 0, none⟩) cs.toList :=
  Reads.of_block (heap_alloc_new w _) hB

theorem put2 (w : World) (b : Nat) (hb : b = w.heap.size) : Calls Try.prog 15 #[.slice (some ⟨b, 0, none⟩) 2 2] (w.alloc (.cells #[.int .u64 300, .int .u64 0] 29)) fun e w' =>
    ∃ v, e = .returned v ∧ w'.ownsRow (w.heap.size + 1) 5 1 v 3 (([172, 2, 0] : List UInt8).map vb) ∧ Below (w.heap.size + 1) (w.alloc (.cells #[.int .u64 300, .int .u64 0] 29)) w' := by
  subst hb
  have hp : putAll [300, 0] = [172, 2, 0] := by decide +kernel
  have hr : Reads (w.alloc (.cells #[.int .u64 300, .int .u64 0] 29)) (w.heap.size + 1) (some ⟨w.heap.size, 0, none⟩) (([300, 0] : List UInt64).map vq) := by
    have := reads_lit (w := w) (cs := #[.int .u64 300, .int .u64 0]) (t := 29) (B := w.heap.size + 1) (by omega)
    simpa [vq] using this
  have := put_any [300, 0] _ 2 _ (w.heap.size + 1) (by simp) hr (by decide)
  rw [hp] at this
  exact this

set_option maxRecDepth 100000 in
theorem awake1_any (w : World) :
    Calls Try.prog 14 #[] w fun e w' => e = .returned (.bool true) ∧ Below w.heap.size w w' := by
  go_enter Try.func14, Try.ntmps14
  go_wp2_with fail
  refine (get_any [172, 2] _ 2 0 _ (w.heap.size + 1) (reads_lit (by omega)) (by decide) (by decide)).mono ?_
  rintro e w1 ⟨rfl, rfl⟩
  have e1 : getV (getAt [172, 2] 0) = .tuple #[.int .u64 300, .int .i64 2, .int .i64 0] := rfl
  rw [e1]
  go_wp2_with fail
  refine (get_any [128, 0] _ 2 0 _ (w.heap.size + 1 + 1) (reads_at (by simp)) (by decide) (by decide)).mono ?_
  rintro e w1 ⟨rfl, rfl⟩
  have e2 : getV (getAt [128, 0] 0) = .tuple #[.int .u64 0, .int .i64 0, .int .i64 6] := rfl
  rw [e2]
  go_wp2_with fail
  refine (put2 _ _ (by simp)).mono ?_
  rintro e w1 ⟨v, rfl, hown, hbel⟩
  obtain ⟨A1, c1, rfl, -⟩ := own_slice hown
  have hs1 := run_str (n := 3) (c := c1) (Reads.of_own hown) (by decide)
  go_wp2_with fail
  refine (zig_any (-1) _ (by decide) (by decide)).mono ?_
  rintro e w2 ⟨rfl, rfl⟩
  have z1 : zig (-1) = 1 := rfl
  rw [z1]
  go_wp2_with fail
  refine (zag_any 1 _ (by decide) (by decide)).mono ?_
  rintro e w2 ⟨rfl, rfl⟩
  have z2 : zag 1 = -1 := rfl
  rw [z2]
  go_wp2_with fail
  go_ret
  refine ⟨rfl, ?_⟩
  have hb := ((Below.refl w.heap.size w).alloc (Nat.le_refl _) (.cells #[.int .u8 172, .int .u8 2] 5)).alloc (by simp) (.cells #[.int .u8 128, .int .u8 0] 5)
  exact (hb.alloc (by simp; omega) _).trans (hbel.mono (by simp; omega))
end Go.Proofs.Ytjbachplnkonkaa
