/- varint.Put of one number and of two, laid by the call itself. -/
import Derived.Test.YtdjmjmbfaokdaaaPut
namespace Go.Proofs.Ytdjmjmbfaokdaaa
set_option linter.unusedVariables false
open Go.RowKit
open Varm

/-- A list of bytes laid by the call itself, its block's number a letter. -/
theorem readsAt {w : World} {cs : Array Value} {t : TypeId} {b : Nat} (hb : b = w.heap.size) : Reads (w.alloc (.cells cs t)) (b + 1) (some ⟨b, 0, none⟩) cs.toList := by
  subst hb
  exact Reads.of_block (heap_alloc_new w _) (by omega)

theorem put1_at (n : Nat) (hn : n < 18446744073709551616) (w : World) (b : Nat) (hb : b = w.heap.size) : Calls Try.prog 18 #[.slice (some ⟨b, 0, none⟩) 1 1] (w.alloc (.cells #[.int .u64 (n : Int)] 33)) fun e w' =>
    ∃ v, e = .returned v ∧ w'.ownsRow (w.heap.size + 1) 5 1 v (one n).length ((one n).map vb) ∧ Below w.heap.size w w' := by
  have hr : Reads (w.alloc (.cells #[.int .u64 (n : Int)] 33)) (w.heap.size + 1) (some ⟨b, 0, none⟩) (([UInt64.ofNat n] : List UInt64).map vq) := by
    have := readsAt (w := w) (cs := #[.int .u64 (n : Int)]) (t := 33) hb
    rw [hb] at this ⊢
    have e : (UInt64.ofNat n).toNat = n := by simp; omega
    simpa [vq, e, Nat.mod_eq_of_lt hn] using this
  have h := put_any [UInt64.ofNat n] _ 1 _ (w.heap.size + 1) (by simp) hr (by simp)
  have hp : putAll [UInt64.ofNat n] = one n := by
    rw [putAll_cons, putAll_nil, List.append_nil]
    congr 1
    simp; omega
  rw [hp] at h
  exact h.mono fun e w' ⟨v, he, hown, hbel⟩ => ⟨v, he, hown, ((Below.refl w.heap.size w).alloc (Nat.le_refl _) _).trans (hbel.mono (by omega))⟩

theorem put2_at (n m : Nat) (hn : n < 18446744073709551616) (hm : m < 18446744073709551616) (w : World) (b : Nat) (hb : b = w.heap.size) : Calls Try.prog 18 #[.slice (some ⟨b, 0, none⟩) 2 2] (w.alloc (.cells #[.int .u64 (n : Int), .int .u64 (m : Int)] 33)) fun e w' =>
    ∃ v, e = .returned v ∧ w'.ownsRow (w.heap.size + 1) 5 1 v (one n ++ one m).length ((one n ++ one m).map vb) ∧ Below w.heap.size w w' := by
  have hr : Reads (w.alloc (.cells #[.int .u64 (n : Int), .int .u64 (m : Int)] 33)) (w.heap.size + 1) (some ⟨b, 0, none⟩) (([UInt64.ofNat n, UInt64.ofNat m] : List UInt64).map vq) := by
    have := readsAt (w := w) (cs := #[.int .u64 (n : Int), .int .u64 (m : Int)]) (t := 33) hb
    rw [hb] at this ⊢
    simpa [vq, Nat.mod_eq_of_lt hn, Nat.mod_eq_of_lt hm] using this
  have h := put_any [UInt64.ofNat n, UInt64.ofNat m] _ 2 _ (w.heap.size + 1) (by simp) hr (by simp)
  have hp : putAll [UInt64.ofNat n, UInt64.ofNat m] = one n ++ one m := by
    have e1 : (UInt64.ofNat n).toNat = n := by simp; omega
    have e2 : (UInt64.ofNat m).toNat = m := by simp; omega
    rw [putAll_cons, putAll_cons, putAll_nil, List.append_nil, e1, e2]
  rw [hp] at h
  exact h.mono fun e w' ⟨v, he, hown, hbel⟩ => ⟨v, he, hown, ((Below.refl w.heap.size w).alloc (Nat.le_refl _) _).trans (hbel.mono (by omega))⟩
end Go.Proofs.Ytdjmjmbfaokdaaa
