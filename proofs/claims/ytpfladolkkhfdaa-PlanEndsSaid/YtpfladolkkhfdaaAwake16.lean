/- awake of the plan's statements. -/
import Derived.Test.YtpfladolkkhfdaaCounts
namespace Go.Proofs.Ytpfladolkkhfdaa
set_option linter.unusedVariables false
open Go.RowKit

/-- The same, its block's number a letter. -/
theorem reads_at {w : World} {cs : Array Value} {t : TypeId} {b : Nat} (hb : b = w.heap.size) : Reads (w.alloc (.cells cs t)) (b + 1) (some ⟨b, 0, none⟩) cs.toList := by
  subst hb
  exact Reads.of_block (heap_alloc_new w _) (by omega)

/-- A row of segments that the call owns reads as its list. -/
theorem Reads.of_own4 {w : World} {base : Nat} {e : TypeId} {n c : Nat} {A : Option Addr} {xs : List Value} (h : w.ownsRow base e 4 (.slice A n c) n xs) : Reads w w.heap.size A xs := fun hn => by
  have hl : 0 < xs.length := List.length_pos_iff.2 hn
  have h1 := h.1
  obtain ⟨g, cap, hv, _, hlt⟩ := h.form (by omega)
  have hA : A = some ⟨g, 0, none⟩ := by injection hv
  subst hA
  refine ⟨g, 0, rfl, hlt, fun j u hu => ?_⟩
  have := h.cells (g := g) rfl j u hu
  simpa [Addr.add_lit] using this

set_option maxRecDepth 100000 in
theorem awake16_any (w : World) :
    Calls Try.prog 18 #[] w fun e w' => e = .returned (.bool true) ∧ Below w.heap.size w w' := by
  go_enter Try.func18, Try.ntmps18
  go_wp2_with fail
  refine (tier_any 16 _ (by decide) (by decide)).mono ?_
  rintro e w1 ⟨rfl, rfl⟩
  have z1 : tier 16 = 2 := by decide +kernel
  rw [z1]
  go_wp2_with fail
  refine (bound_any 100 _ (by decide) (by decide)).mono ?_
  rintro e w1 ⟨rfl, rfl⟩
  have z2 : bound 100 = 12 := by decide +kernel
  rw [z2]
  go_wp2_with fail
  refine (counts_any [1, 16, 2, 3, 1, 20] _ 6 _ (w.heap.size + 1) (by simp) (reads_at rfl) (by decide)).mono ?_
  rintro e w1 ⟨v, rfl, hown, hb1⟩
  obtain ⟨A1, c1, rfl, -⟩ := own_slice hown
  go_wp2_with fail
  refine (planMerge_any (mkTo [1, 16, 2, 3, 1, 20] 6) A1 c1 w1 (Reads.of_own4 hown) (by decide)).mono ?_
  rintro e w2 ⟨v2, rfl, hown2, hb2⟩
  have z3 : merge (mkTo [1, 16, 2, 3, 1, 20] 6) = [0, 2, 3, 4] := by decide +kernel
  rw [z3] at hown2
  obtain ⟨A2, c2, rfl, -⟩ := own_slice hown2
  go_wp2_with fail
  refine (same_any [0, 2, 3, 4] [0, 2, 3, 4] A2 _ c2 4 _ (w2.heap.size + 1) (((Reads.of_own hown2).alloc (Nat.le_refl _) _).more (by omega)) (reads_at rfl) (by decide) (by decide)).mono ?_
  rintro e w3 ⟨rfl, n3, hw3⟩
  have hb3 : Below w.heap.size w w3 := by
    rw [hw3]
    refine below_drewN ?_
    refine Below.alloc ?_ (by have := hb1.size; have := hb2.size; simp at *; omega) _
    exact (((Below.refl w.heap.size w).alloc (Nat.le_refl _) _).trans (hb1.mono (by simp))).trans (hb2.mono (by have := hb1.size; simp at *; omega))
  clear hw3 hown hown2 hb1 hb2
  have hs3 := hb3.size
  go_wp2_with fail
  refine (counts_any [5, 9, 3] _ 3 _ (w3.heap.size + 1) (by simp) (reads_at rfl) (by decide)).mono ?_
  rintro e w4 ⟨v, rfl, hown, hb1⟩
  obtain ⟨A4, c4, rfl, -⟩ := own_slice hown
  go_wp2_with fail
  refine (gone_any (mkTo [5, 9, 3] 3) A4 c4 6 w4 (Reads.of_own4 hown) (by decide)).mono ?_
  rintro e w5 ⟨v2, rfl, hown2, hb2⟩
  have z4 : gone (mkTo [5, 9, 3] 3) 6 = [0, 2] := by decide +kernel
  rw [z4] at hown2
  obtain ⟨A5, c5, rfl, -⟩ := own_slice hown2
  go_wp2_with fail
  refine (same_any [0, 2] [0, 2] A5 _ c5 2 _ (w5.heap.size + 1) (((Reads.of_own hown2).alloc (Nat.le_refl _) _).more (by omega)) (reads_at rfl) (by decide) (by decide)).mono ?_
  rintro e w6 ⟨rfl, n6, hw6⟩
  have hb6 : Below w.heap.size w w6 := by
    rw [hw6]
    refine below_drewN ?_
    refine Below.alloc ?_ (by have := hb1.size; have := hb2.size; simp at *; omega) _
    exact ((hb3.alloc hs3 _).trans (hb1.mono (by simp; omega))).trans (hb2.mono (by have := hb1.size; simp at *; omega))
  clear hw6 hown hown2 hb1 hb2
  go_wp2_with fail
  go_ret
  exact ⟨rfl, hb6⟩
end Go.Proofs.Ytpfladolkkhfdaa
