/- awake of the filters' statements. -/
import Derived.Test.YtpfladolkkhfdaaBloomRMk
namespace Go.Proofs.Ytpfladolkkhfdaa
set_option linter.unusedVariables false
open Go.RowKit

theorem reads_new {w : World} {cs : Array Value} {t : TypeId} {b : Nat} {xs : List Value} (hb : b = w.heap.size) (hx : cs.toList = xs) : Reads (w.alloc (.cells cs t)) (w.alloc (.cells cs t)).heap.size (some ⟨b, 0, none⟩) xs := by
  subst hb hx
  exact Reads.of_block (heap_alloc_new w _) (by simp)

set_option maxRecDepth 100000 in
theorem awake12_any (w : World) :
    Calls Try.prog 11 #[] w fun e w' => e = .returned (.bool true) ∧ Below w.heap.size w w' := by
  go_enter Try.func11, Try.ntmps11
  go_wp2_with fail
  refine (hash_any ⟨#[97]⟩ _ (by decide)).mono ?_
  rintro e w1 ⟨rfl, rfl⟩
  have z1 : hash (ByteArray.mk #[97]).data.toList = 12638187200555641996 := by decide +kernel
  rw [z1]
  go_wp2_with fail
  refine (make_any [⟨#[97]⟩, ⟨#[97]⟩] _ 2 _ (reads_new rfl rfl) (by decide) (by decide)).mono ?_
  rintro e w2 ⟨v, rfl, hown, hb1⟩
  have z2 : (make (bl [⟨#[97]⟩, ⟨#[97]⟩])).length = 8 := by decide +kernel
  rw [z2] at hown
  obtain ⟨A1, c1, rfl, -⟩ := own_slice hown
  have hB2 : Below w.heap.size w w2 := ((Below.refl _ _).alloc (Nat.le_refl _) _).trans (hb1.mono (by simp))
  have hs2 := hB2.size
  go_wp2_with fail
  refine (make_any [⟨#[97]⟩] _ 1 _ (reads_new rfl rfl) (by decide) (by decide)).mono ?_
  rintro e w3 ⟨v, rfl, hown3, hb3⟩
  obtain ⟨A3, c3, rfl, -⟩ := own_slice hown3
  have hB3 : Below w.heap.size w w3 := (hB2.alloc hs2 _).trans (hb3.mono (by simp; omega))
  have hs3 := hB3.size
  have hl3 : (make (bl [⟨#[97]⟩])).length ≤ 1000000000000000 := by decide +kernel
  go_wp2_with fail
  refine (has_any (make (bl [⟨#[97]⟩])) A3 c3 ⟨#[97]⟩ w3 (Reads.of_own hown3) hl3 (by decide)).mono ?_
  rintro e w4 ⟨rfl, hb4⟩
  have z3 : has (make (bl [⟨#[97]⟩])) (ByteArray.mk #[97]).data.toList = true := by decide +kernel
  rw [z3]
  go_wp2_with fail
  refine (has_any [] none 0 ⟨#[97]⟩ w4 Reads.nil_ (by decide) (by decide)).mono ?_
  rintro e w5 ⟨rfl, hb5⟩
  have z4 : has [] (ByteArray.mk #[97]).data.toList = false := by decide +kernel
  rw [z4]
  have hB4 := hB3.trans (hb4.mono hs3)
  go_wp2_with fail
  go_ret
  exact ⟨rfl, hB4.trans (hb5.mono hB4.size)⟩
end Go.Proofs.Ytpfladolkkhfdaa
