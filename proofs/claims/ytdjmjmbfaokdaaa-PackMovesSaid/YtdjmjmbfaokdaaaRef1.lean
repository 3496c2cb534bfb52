/- The walks of the reference of chapter 1: One, Put, Get. -/
import Derived.Test.YtdjmjmbfaokdaaaGet
import Derived.Test.YtdjmjmbfaokdaaaPut
namespace Go.Proofs.Ytdjmjmbfaokdaaa
set_option linter.unusedVariables false
open Go.RowKit
open Varm

theorem own_lit {w : World} (B : Nat) (hB : B ≤ w.heap.size) (e : TypeId) (u : Value) : (w.alloc (.cells #[u] e)).ownsRow B e 1 (.slice (some ⟨w.heap.size, 0, none⟩) 1 1) 1 [u] := by
  have := World.ownsRow_lit (base := B) (e := e) (size := 1) w #[u] 1 hB (by decide) rfl
  simpa using this

theorem vb_128 {n : Nat} : Value.int .u8 (128 + (n : Int) % 128) = vb (UInt8.ofNat (128 + n % 128)) := by
  have e : (UInt8.ofNat (128 + n % 128)).toNat = 128 + n % 128 := by simp; omega
  simp only [vb, e]
  congr 1

set_option maxRecDepth 100000 in
theorem one_any (f : Nat) : ∀ (n : Nat) (w : World) (B : Nat), n < 128 ^ (f + 1) → n < 18446744073709551616 → B ≤ w.heap.size →
    Calls Try.prog 34 #[.int .u64 n] w fun e w' => ∃ v, e = .returned v ∧ w'.ownsRow B 5 1 v (one n).length ((one n).map vb) ∧ Below B w w' := by
  induction f with
  | zero =>
    intro n w B hn _ hB
    have h128 : n < 128 := by simpa using hn
    rw [one_lt h128]
    clear hn
    have HO := Lib.hid (own_lit (w := w) B hB 5 (vb (UInt8.ofNat n)))
    rw [← vb_lt h128] at HO
    go_enter Try.func34, Try.ntmps34
    go_wp2
    go_ret
    exact ⟨_, rfl, by rw [List.map_singleton, ← vb_lt h128]; exact HO.out, (Below.refl _ _).alloc hB _⟩
  | succ f ih =>
    intro n w B hn h64 hB
    rcases Nat.lt_or_ge n 128 with h128 | h128
    · rw [one_lt h128]
      clear hn
      have HO := Lib.hid (own_lit (w := w) B hB 5 (vb (UInt8.ofNat n)))
      rw [← vb_lt h128] at HO
      clear ih h64
      go_enter Try.func34, Try.ntmps34
      go_wp2
      go_ret
      exact ⟨_, rfl, by rw [List.map_singleton, ← vb_lt h128]; exact HO.out, (Below.refl _ _).alloc hB _⟩
    · rw [one_ge h128]
      have IH := Lib.hid ih
      have HN : n / 128 < 128 ^ (f + 1) := by rw [Nat.div_lt_iff_lt_mul (by omega)]; rw [Nat.pow_succ] at hn; exact hn
      have HW : IntKind.u64.wrap ((n : Int) / 128) = ((n / 128 : Nat) : Int) := IntWalk.u64_in _ (by omega)
      have H64 : n / 128 < 18446744073709551616 := by omega
      have HL := one_len (n / 128) H64
      generalize n / 128 = q at HN HW H64 HL
      have H1 := Lib.hid HN
      have H2 := Lib.hid H64
      clear ih h64 hn HN H64
      go_enter Try.func34, Try.ntmps34
      go_wp2_with fail
      refine (IH.out q _ (w.heap.size + 1) H1.out H2.out (by simp)).mono ?_
      rintro e w1 ⟨v, rfl, hown, hbel⟩
      obtain ⟨A1, c1, rfl, -⟩ := own_slice hown
      have HOL : w1.ownsRow B 5 1 (.slice (some ⟨w.heap.size, 0, none⟩) 1 1) 1 [.int .u8 (128 + (n : Int) % 128)] := own_past (own_lit (w := w) B hB 5 _) hbel (by simp)
      have hs := hbel.size
      simp only [World.size_alloc] at hs
      go_wp2_with (first | (at_builtin; go_must (refine app rowByte rfl _ _ rfl B _ _ _ rfl (by exact HOL) w1.heap.size _ _ _ ((one q).map vb) rfl (by simp) (by exact Reads.of_own hown) (oneCell_vb _) (by omega) (by omega) ?_)))
      intro v2 w2 hown2 hgr
      have hbel2 : Below B w w2 := hgr.below (((Below.refl B w).alloc hB _).trans (hbel.mono (by omega))) HOL (by omega)
      go_wp2
      go_ret
      refine ⟨_, rfl, ?_, hbel2⟩
      rw [vb_128] at hown2
      rw [Nat.add_comm] at hown2
      exact hown2

theorem one_all (n : Nat) (w : World) (B : Nat) (h : n < 18446744073709551616) (hB : B ≤ w.heap.size) :
    Calls Try.prog 34 #[.int .u64 n] w fun e w' => ∃ v, e = .returned v ∧ w'.ownsRow B 5 1 v (one n).length ((one n).map vb) ∧ Below B w w' :=
  one_any 9 n w B (by have : (18446744073709551616 : Nat) ≤ 128 ^ (9 + 1) := by decide
                      omega) h hB

end Go.Proofs.Ytdjmjmbfaokdaaa
