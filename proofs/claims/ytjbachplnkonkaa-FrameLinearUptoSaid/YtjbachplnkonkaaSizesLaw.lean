/- VarintSizes: the walk of the law. -/
import Derived.Test.YtjbachplnkonkaaAwake1
import Derived.Deep.DeepMust
namespace Go.Proofs.Ytjbachplnkonkaa
set_option linter.unusedVariables false
open Go.RowKit
open Varm

theorem one_last (n : Nat) : ∃ (pre : List UInt8) (last : UInt8), one n = pre ++ [last] ∧ last.toNat < 128 ∧ (last.toNat = 0 → n = 0) ∧ ∀ c ∈ pre, 128 ≤ c.toNat := by
  induction n using Nat.strongRecOn with
  | _ n ih =>
    by_cases hn : n < 128
    · refine ⟨[], UInt8.ofNat n, by rw [one_lt hn]; rfl, ?_, ?_, by simp⟩
      · simp; omega
      · simp; omega
    · obtain ⟨pre, last, h1, h2, h3, h4⟩ := ih (n / 128) (by omega)
      refine ⟨UInt8.ofNat (128 + n % 128) :: pre, last, by rw [one_ge (by omega), h1]; rfl, h2, fun h => by have := h3 h; omega, fun c hc => ?_⟩
      rcases List.mem_cons.1 hc with rfl | hc
      · simp; omega
      · exact h4 c hc

/-- How many bytes are still to come. -/
def left (m : Nat) : Nat := if m = 0 then 0 else (one m).length
theorem left_zero : left 0 = 0 := rfl
theorem left_pos {m : Nat} (h : 0 < m) : left m = 1 + left (m / 128) := by
  unfold left
  rw [if_neg (by omega)]
  by_cases hm : m < 128
  · rw [one_lt hm, if_pos (by omega)]; rfl
  · rw [one_ge (by omega), if_neg (by omega), List.length_cons, Nat.add_comm]
theorem len_left (n : Nat) : (one n).length = 1 + left (n / 128) := by
  by_cases h : n = 0
  · subst h; rw [one_lt (by omega)]; rfl
  · have := left_pos (m := n) (by omega)
    unfold left at this
    rw [if_neg h] at this
    exact this

/-- Put of one number, laid by the call itself. -/
theorem put1 (n : Nat) (hn : n < 18446744073709551616) (w : World) (b : Nat) (hb : b = w.heap.size) : Calls Try.prog 15 #[.slice (some ⟨b, 0, none⟩) 1 1] (w.alloc (.cells #[.int .u64 n] 29)) fun e w' =>
    ∃ v, e = .returned v ∧ w'.ownsRow (w.heap.size + 1) 5 1 v (one n).length ((one n).map vb) ∧ Below w.heap.size w w' ∧ w.heap.size + 1 ≤ w'.heap.size := by
  have e : (UInt64.ofNat n).toNat = n := by simp; omega
  have hr : Reads (w.alloc (.cells #[.int .u64 n] 29)) (w.heap.size + 1) (some ⟨b, 0, none⟩) (([UInt64.ofNat n] : List UInt64).map vq) := by
    subst hb
    have := reads_lit (w := w) (cs := #[.int .u64 n]) (t := 29) (B := w.heap.size + 1) (by omega)
    simpa [vq, e] using this
  have := put_any [UInt64.ofNat n] _ 1 _ (w.heap.size + 1) (by simp) hr (by simp)
  rw [putAll_cons, putAll_nil, List.append_nil, e] at this
  refine this.mono fun e' w' ⟨v, h1, h2, h3⟩ => ⟨v, h1, h2, ((Below.refl w.heap.size w).alloc (Nat.le_refl _) _).trans (h3.mono (by simp)), ?_⟩
  have := h3.size
  simpa using this

set_option maxRecDepth 100000 in
theorem sizes_any (n : Nat) (hn : n < 18446744073709551616) (w : World) :
    Calls Try.prog 7 #[.int .u64 n] w fun e w' => e = .returned (.bool true) ∧ Below w.heap.size w w' := by
  have HN := Lib.hid hn
  have hl1 := one_pos n
  have hl2 := one_len n hn
  have HL := Lib.hid (len_left n)
  obtain ⟨pre, last, hO, hlast, hz, hpre⟩ := one_last n
  have HO := Lib.hid hO
  have HZ := Lib.hid hz
  have HP := Lib.hid hpre
  clear hn hO hz hpre
  go_enter Try.func7, Try.ntmps7
  go_wp2_with (first
    | (go_at_call 14; refine (awake1_any _).mono ?_; rintro e w1 ⟨rfl, hb1⟩)
    | (go_at_call 15; go_must (refine (put1 n HN.out w1 _ rfl).mono ?_); rintro e w2 ⟨v, rfl, hown, hb2, hs2⟩; obtain ⟨A1, c1, rfl, hc1, -⟩ := own_slice hown))
  obtain ⟨b, off, rfl, _, hcell⟩ := (Reads.of_own hown).at_ (k := 0) (by simp; omega)
  have hlast1 : w2.cell? ⟨b, off + ((one n).length - 1), none⟩ = some (.int .u8 (last.toNat : Int)) := by
    refine hcell _ _ ?_
    rw [HO.out]
    simp
  have hpre1 : ∀ i : Nat, i < (one n).length - 1 → ∃ c : UInt8, 128 ≤ c.toNat ∧ w2.cell? ⟨b, off + i, none⟩ = some (.int .u8 (c.toNat : Int)) := by
    intro i hi
    have hi' : i < pre.length := by rw [HO.out] at hi; simp at hi; exact hi
    refine ⟨pre[i], HP.out _ (List.getElem_mem _), hcell _ _ ?_⟩
    rw [HO.out]
    simp [List.getElem?_append_left, hi']
  have HPre := Lib.hid hpre1
  have HB2 := Lib.hid (show Below w.heap.size w w2 from (hb1.trans (hb2.mono hb1.size)))
  clear hown hb2 hs2 hpre1 hcell HO HP hb1
  have HL' := HL.out
  clear HL
  have H00 : Hid (IntKind.u64.wrap ((n : Int) / 128) = ((n / 128 : Nat) : Int)) := Lib.hid (by have := HN.out; rw [IntWalk.u64_in _ (by omega)]; omega)
  generalize (one n).length = L at *
  have HL := Lib.hid HL'
  clear HL'
  go_loop [4, 5] (fun k m => ∃ k' m' : Nat, Hid (L = k' + left m') ∧ 1 ≤ k' ∧ k' ≤ L ∧ Hid (m' < 18446744073709551616) ∧ k = .int .i64 k' ∧ m = .int .u64 m') (fun _ m => (intOf m).toNat)
  case atStart => exact ⟨1, n / 128, HL, by omega, by omega, Lib.hid (by have := HN.out; omega), rfl, congrArg _ H00.out⟩
  case round =>
    obtain ⟨k, m, HK, hk1, hk, HM, rfl, rfl⟩ := hrel
    rcases Nat.eq_zero_or_pos m with hm | hm
    · subst hm
      obtain rfl : L = k := by have := HK.out; rw [left_zero] at this; omega
      have hi0 : L - 1 < L := by omega
      have hkey : (((last.toNat : Int) == 0) = true ∧ ((n : Int) != 0) = false) ∨ ((last.toNat : Int) == 0) = false := by
        rcases Nat.eq_zero_or_pos last.toNat with h0 | h0
        · have hn0 := HZ.out h0
          subst hn0
          exact .inl ⟨by simp [h0], rfl⟩
        · exact .inr (by simp; omega)
      rcases hkey with ⟨hb0, hbn⟩ | hb0
      all_goals
        go_wp2
        go_loop [6] (fun i => ∃ i' : Nat, i' ≤ L - 1 ∧ i = .int .i64 i') (fun i => L - 1 - (intOf i).toNat)
        case atStart => exact ⟨0, Nat.zero_le _, rfl⟩
        case round =>
          obtain ⟨i, hi, rfl⟩ := hrel
          rcases Nat.lt_or_ge i (L - 1) with hlt | hge
          · obtain ⟨x, hx, hcx⟩ := HPre.out i hlt
            go_wp2
            go_round
            case rel => exact ⟨i + 1, by omega, by go_num⟩
            case measure => simp [intOf]; omega
          · go_wp2
            go_ret
            exact ⟨rfl, HB2.out⟩
    · have HW : Hid (IntKind.u64.wrap ((m : Int) / 128) = ((m / 128 : Nat) : Int)) := Lib.hid (by have := HM.out; rw [IntWalk.u64_in _ (by omega)]; omega)
      have HK2 : Hid (L = (k + 1) + left (m / 128)) := Lib.hid (by have := HK.out; rw [left_pos hm] at this; omega)
      have hk2 : k + 1 ≤ L := by have := HK2.out; omega
      have HM2 : Hid (m / 128 < 18446744073709551616) := Lib.hid (by have := HM.out; omega)
      go_wp2
      go_round
      case rel => exact ⟨k + 1, m / 128, HK2, by omega, hk2, HM2, by go_num, congrArg _ HW.out⟩
      case measure => rw [HW.out]; simp [intOf]; omega
end Go.Proofs.Ytjbachplnkonkaa
