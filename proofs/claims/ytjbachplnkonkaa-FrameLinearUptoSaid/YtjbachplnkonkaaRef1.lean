/- The walks of the reference of chapter 1: One, Put, Get. -/
import Derived.Test.YtjbachplnkonkaaGet
import Derived.Test.YtjbachplnkonkaaPut
namespace Go.Proofs.Ytjbachplnkonkaa
set_option linter.unusedVariables false
open Go.RowKit
open Varm

theorem own_lit {w : World} (B : Nat) (hB : B ≤ w.heap.size) (e : TypeId) (u : Value) : (w.alloc (.cells #[u] e)).ownsRow B e 1 (.slice (some ⟨w.heap.size, 0, none⟩) 1 1) 1 [u] := by
  have := World.ownsRow_lit (base := B) (e := e) (size := 1) w #[u] 1 hB (by decide) rfl
  simpa using this

theorem vb_128 {n : Nat} : Value.int .u8 (128 + (n : Int) % 128) = vb (UInt8.ofNat (128 + n % 128)) := by
  have e : (UInt8.ofNat (128 + n % 128)).toNat = 128 + n % 128 := by simp; omega
  simp only [vb, e]
  congr 1

set_option maxRecDepth 100000 in
theorem one_any (f : Nat) : ∀ (n : Nat) (w : World) (B : Nat), n < 128 ^ (f + 1) → n < 18446744073709551616 → B ≤ w.heap.size →
    Calls Try.prog 30 #[.int .u64 n] w fun e w' => ∃ v, e = .returned v ∧ w'.ownsRow B 5 1 v (one n).length ((one n).map vb) ∧ Below B w w' := by
  induction f with
  | zero =>
    intro n w B hn _ hB
    have h128 : n < 128 := by simpa using hn
    rw [one_lt h128]
    clear hn
    have HO := Lib.hid (own_lit (w := w) B hB 5 (vb (UInt8.ofNat n)))
    rw [← vb_lt h128] at HO
    go_enter Try.func30, Try.ntmps30
    go_wp2
    go_ret
    exact ⟨_, rfl, by rw [List.map_singleton, ← vb_lt h128]; exact HO.out, (Below.refl _ _).alloc hB _⟩
  | succ f ih =>
    intro n w B hn h64 hB
    rcases Nat.lt_or_ge n 128 with h128 | h128
    · rw [one_lt h128]
      clear hn
      have HO := Lib.hid (own_lit (w := w) B hB 5 (vb (UInt8.ofNat n)))
      rw [← vb_lt h128] at HO
      clear ih h64
      go_enter Try.func30, Try.ntmps30
      go_wp2
      go_ret
      exact ⟨_, rfl, by rw [List.map_singleton, ← vb_lt h128]; exact HO.out, (Below.refl _ _).alloc hB _⟩
    · rw [one_ge h128]
      have IH := Lib.hid ih
      have HN : n / 128 < 128 ^ (f + 1) := by rw [Nat.div_lt_iff_lt_mul (by omega)]; rw [Nat.pow_succ] at hn; exact hn
      have HW : IntKind.u64.wrap ((n : Int) / 128) = ((n / 128 : Nat) : Int) := IntWalk.u64_in _ (by omega)
      have H64 : n / 128 < 18446744073709551616 := by omega
      have HL := one_len (n / 128) H64
      generalize n / 128 = q at HN HW H64 HL
      have H1 := Lib.hid HN
      have H2 := Lib.hid H64
      clear ih h64 hn HN H64
      go_enter Try.func30, Try.ntmps30
      go_wp2_with fail
      refine (IH.out q _ (w.heap.size + 1) H1.out H2.out (by simp)).mono ?_
      rintro e w1 ⟨v, rfl, hown, hbel⟩
      obtain ⟨A1, c1, rfl, -⟩ := own_slice hown
      have HOL : w1.ownsRow B 5 1 (.slice (some ⟨w.heap.size, 0, none⟩) 1 1) 1 [.int .u8 (128 + (n : Int) % 128)] := own_past (own_lit (w := w) B hB 5 _) hbel (by simp)
      have hs := hbel.size
      simp only [World.size_alloc] at hs
      go_wp2_with (first | (at_builtin; go_must (refine app rowByte rfl _ _ rfl B _ _ _ rfl (by exact HOL) w1.heap.size _ _ _ ((one q).map vb) rfl (by simp) (by exact Reads.of_own hown) (oneCell_vb _) (by omega) (by omega) ?_)))
      intro v2 w2 hown2 hgr
      have hbel2 : Below B w w2 := hgr.below (((Below.refl B w).alloc hB _).trans (hbel.mono (by omega))) HOL (by omega)
      go_wp2
      go_ret
      refine ⟨_, rfl, ?_, hbel2⟩
      rw [vb_128] at hown2
      rw [Nat.add_comm] at hown2
      exact hown2

theorem one_all (n : Nat) (w : World) (B : Nat) (h : n < 18446744073709551616) (hB : B ≤ w.heap.size) :
    Calls Try.prog 30 #[.int .u64 n] w fun e w' => ∃ v, e = .returned v ∧ w'.ownsRow B 5 1 v (one n).length ((one n).map vb) ∧ Below B w w' :=
  one_any 9 n w B (by have : (18446744073709551616 : Nat) ≤ 128 ^ (9 + 1) := by decide
                      omega) h hB

set_option maxRecDepth 100000 in
theorem refPut_any (us : List UInt64) (A : Option Addr) (c : Nat) (w : World) (B : Nat) (hB : B ≤ w.heap.size) (hr : Reads w B A (us.map vq)) (hl : us.length ≤ 7000000000000) :
    Calls Try.prog 16 #[.slice A us.length c] w fun e w' => ∃ v, e = .returned v ∧ w'.ownsRow B 5 1 v (putAll us).length ((putAll us).map vb) ∧ Below B w w' := by
  go_enter Try.func16, Try.ntmps16
  go_wp2
  go_loopw [3, 4] (fun v i wr => ∃ k : Nat, k ≤ us.length ∧ i = .int .i64 k ∧ wr.ownsRow B 5 1 v (putAll (us.take k)).length ((putAll (us.take k)).map vb) ∧ Below B w wr)
    (fun _ i _ => us.length - (intOf i).toNat)
  case atStart => exact ⟨0, Nat.zero_le _, rfl, World.ownsRow_nil _ _ _ _, Below.refl _ _⟩
  case round =>
    obtain ⟨k, hk, rfl, hown, hbel⟩ := hrel
    by_cases hlt : k < us.length
    · obtain ⟨b, off, rfl, hbB, hc⟩ := hr.at_ (k := k) (by simpa using hlt)
      have hcell : wr.cell? ⟨b, off + k, none⟩ = some (.int .u64 (us[k].toNat : Int)) := (hbel.cell hbB).trans (Reads.num hc hlt)
      have hT := take_one us k hlt
      have hlen := putAll_length (us.take k)
      rw [List.length_take] at hlen
      clear hc hr
      generalize us[k] = x at hcell hT
      have HT := Lib.hid hT
      have HQ := Lib.hid (UInt64.toNat_lt x)
      have hx := one_len x.toNat HQ.out
      have hsz := hbel.size
      clear hT
      go_wp2_with (first | (go_at_call 30; go_must (refine (one_all x.toNat _ wr.heap.size HQ.out (by simp)).mono ?_); rintro e w1 ⟨v1, rfl, hown1, hbel1⟩; obtain ⟨A1, c1, rfl, -⟩ := own_slice hown1; have hsz1 := hbel1.size; have hownp := own_past hown hbel1 (Nat.le_refl _)) | (at_builtin; go_must (refine app rowByte rfl _ _ rfl B _ _ _ rfl (by exact hownp) w1.heap.size _ _ _ ((one x.toNat).map vb) rfl (by simp) (by exact Reads.of_own hown1) (oneCell_vb _) (by omega) (by omega) ?_)))
      intro v2 w2 hown2 hgr
      have hbel2 := hgr.below (hbel.trans (hbel1.mono (by omega))) hownp (by omega)
      rw [← List.map_append, ← List.length_append, HT.out] at hown2
      clear hgr hownp hown1 hbel1 HT HQ hown hbel
      go_wp2
      go_roundw
      case rel => exact ⟨k + 1, by omega, by go_num, hown2, hbel2⟩
      case measure => simp [intOf]; omega
    · go_wp2
      go_ret
      obtain rfl : k = us.length := by omega
      rw [List.take_length] at hown
      exact ⟨_, rfl, hown, hbel⟩
end Go.Proofs.Ytjbachplnkonkaa
