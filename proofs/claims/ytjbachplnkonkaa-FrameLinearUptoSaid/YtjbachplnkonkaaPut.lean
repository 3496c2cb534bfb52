/- The walks of varint.Put. -/
import Derived.Test.YtjbachplnkonkaaLaws
import Derived.Deep.DeepMust
import Derived.Test.YtjbachplnkonkaaVarm
namespace Go.Proofs.Ytjbachplnkonkaa
set_option linter.unusedVariables false
open Go.RowKit
open Varm

theorem vb_lt {m : Nat} (h : m < 128) : Value.int .u8 (m : Int) = vb (UInt8.ofNat m) := by
  have : (UInt8.ofNat m).toNat = m := by simp; omega
  simp only [vb, this]
theorem or128 : ∀ x : Fin 256, x.val ||| 128 = 128 + x.val % 128 := by decide +kernel
theorem vb_or {m : Nat} : Value.int .u8 (bits .or .u8 ((m : Int) % 256) 128) = vb (UInt8.ofNat (128 + m % 128)) := by
  have e : (UInt8.ofNat (128 + m % 128)).toNat = 128 + m % 128 := by simp; omega
  have h := u8_or_nat (m % 256) 128 (by omega) (by omega)
  have h2 := or128 ⟨m % 256, by omega⟩
  simp only at h2
  rw [h2] at h
  simp only [vb, e]
  have e3 : ((m : Int) % 256) = ((m % 256 : Nat) : Int) := by omega
  have e4 : m % 256 % 128 = m % 128 := by omega
  rw [e3]
  rw [e4] at h
  exact congrArg _ h
theorem take_one (us : List UInt64) (k : Nat) (h : k < us.length) : putAll (us.take k) ++ one us[k].toNat = putAll (us.take (k + 1)) := by
  rw [List.take_succ_eq_append_getElem h, putAll_append, putAll_cons, putAll_nil, List.append_nil]

set_option maxRecDepth 100000 in
theorem put_any (us : List UInt64) (A : Option Addr) (c : Nat) (w : World) (B : Nat) (hB : B ≤ w.heap.size) (hr : Reads w B A (us.map vq)) (hl : us.length ≤ 7000000000000) :
    Calls Try.prog 15 #[.slice A us.length c] w fun e w' => ∃ v, e = .returned v ∧ w'.ownsRow B 5 1 v (putAll us).length ((putAll us).map vb) ∧ Below B w w' := by
  go_enter Try.func15, Try.ntmps15
  go_wp2
  go_loopw [3, 5, 8] (fun v n i wr => ∃ k : Nat, k ≤ us.length ∧ i = .int .i64 k ∧ wr.ownsRow B 5 1 v (putAll (us.take k)).length ((putAll (us.take k)).map vb) ∧ Below B w wr)
    (fun _ _ i _ => us.length - (intOf i).toNat)
  case atStart => exact ⟨0, Nat.zero_le _, rfl, World.ownsRow_nil _ _ _ _, Below.refl _ _⟩
  case round =>
    obtain ⟨k, hk, rfl, hown, hbel⟩ := hrel
    by_cases hlt : k < us.length
    · obtain ⟨b, off, rfl, hbB, hc⟩ := hr.at_ (k := k) (by simpa using hlt)
      have hcell : wr.cell? ⟨b, off + k, none⟩ = some (.int .u64 (us[k].toNat : Int)) := (hbel.cell hbB).trans (Reads.num hc hlt)
      have HT := Lib.hid (take_one us k hlt)
      clear hc hr
      generalize us[k] = x at hcell HT
      have HQ := Lib.hid (UInt64.toNat_lt x)
      go_wp2
      obtain ⟨wo, rfl⟩ : ∃ wo : World, wo = wr := ⟨_, rfl⟩
      go_loopw [3, 5] (fun v n wi => ∃ (m : Nat) (done : List UInt8), Hid (done ++ one m = putAll (us.take (k + 1))) ∧ n = .int .u64 m ∧ Hid (m < 18446744073709551616) ∧ wi.ownsRow B 5 1 v done.length (done.map vb) ∧ Below B w wi)
        (fun _ n _ => (intOf n).toNat)
      case atStart => exact ⟨x.toNat, putAll (us.take k), HT, rfl, HQ, hown, hbel⟩
      case round =>
        obtain ⟨m, done, HD, rfl, hm, hown1, hbel1⟩ := hrel
        clear hown hcell hbel
        have hB1 := hbel1.size
        have hdl : done.length + 1 ≤ 70000000000000 := by
          have h1 := congrArg List.length HD.out
          have h2 := putAll_length (us.take (k + 1))
          have h3 := one_pos m
          simp only [List.length_append, List.length_take] at h1 h2
          omega
        by_cases h128 : m < 128
        · go_wp2_with (first | (at_builtin; go_must (refine app1 rowByte rfl _ _ rfl _ B _ _ _ rfl (by exact hown1) rfl rfl (by omega) (by omega) ?_)))
          intro v2 w2 hown2 hgr
          have hbel2 := hgr.below hbel1 hown1 (by omega)
          rw [vb_lt h128, ← List.map_singleton (f := vb), ← List.map_append] at hown2
          rw [one_lt h128] at HD
          clear hgr hown1 hbel1 HT hm HQ
          go_wp2
          go_roundw
          case rel => exact ⟨k + 1, by omega, by go_num, by rw [← HD.out, List.length_append]; exact hown2, hbel2⟩
          case measure => simp [intOf]; omega
        · go_wp2_with (first | (at_builtin; go_must (refine app1 rowByte rfl _ _ rfl _ B _ _ _ rfl (by exact hown1) rfl rfl (by omega) (by omega) ?_)))
          intro v2 w2 hown2 hgr
          have hbel2 := hgr.below hbel1 hown1 (by omega)
          rw [vb_or, ← List.map_singleton (f := vb), ← List.map_append] at hown2
          rw [one_ge (by omega)] at HD
          clear hgr hown1 hbel1 HT HQ
          go_wp2
          go_roundw
          case rel => exact ⟨m / 128, done ++ [UInt8.ofNat (128 + m % 128)], Lib.hid (by rw [List.append_assoc]; exact HD.out), by go_num, Lib.hid (by have := hm.out; omega), by rw [List.length_append]; exact hown2, hbel2⟩
          case measure => simp [intOf]; omega
    · go_wp2
      go_ret
      obtain rfl : k = us.length := by omega
      rw [List.take_length] at hown
      exact ⟨_, rfl, hown, hbel⟩
end Go.Proofs.Ytjbachplnkonkaa
