/- The walks of hashes and places. -/
import Derived.Test.YtpfladolkkhfdaaBloomM
import Derived.Deep.DeepMust
namespace Go.Proofs.Ytpfladolkkhfdaa
set_option linter.unusedVariables false
open Go.RowKit

theorem str_at {s : ByteArray} {k : Nat} (h : k < s.size) (h' : k < s.data.toList.length) : s[k] = s.data.toList[k] := by
  rw [Array.getElem_toList]; rfl
theorem str_len (s : ByteArray) : s.data.toList.length = s.size := by rw [Array.length_toList]; rfl
theorem hstep_val (n : Nat) (h : n < 18446744073709551616) (b : UInt8) : IntKind.u64.wrap (bits .xor .u64 (n : Int) (IntKind.u64.wrap (b.toNat : Int)) * 1099511628211) = ((hstep n b : Nat) : Int) := by
  have hb := b.toNat_lt
  rw [IntWalk.u64_in (b.toNat : Int) (by omega), u64_xor_nat n b.toNat h (by omega), IntKind.wrap_u64]
  unfold hstep
  omega
theorem hstep_val2 (n : Nat) (h : n < 18446744073709551616) (b : UInt8) : IntKind.u64.wrap (bits .xor .u64 (n : Int) (b.toNat : Int) * 1099511628211) = ((hstep n b : Nat) : Int) := by
  have hb := b.toNat_lt
  rw [u64_xor_nat n b.toNat h (by omega), IntKind.wrap_u64]
  unfold hstep
  omega

theorem ret_u64 {k : IntKind} {a b : Int} (h : a = b) : Ending.returned (.int k a) = .returned (.int k b) := by rw [h]

set_option maxRecDepth 100000 in
theorem hash_any (s : ByteArray) (w : World) (hs : s.size ≤ 9223372036854775807) :
    Calls Try.prog 16 #[.string s] w fun e w' => e = .returned (.int .u64 (hash s.data.toList)) ∧ w = w' := by
  have HL := Lib.hid (str_len s)
  go_enter Try.func16, Try.ntmps16
  go_wp2
  go_loop [3, 7] (fun h i => ∃ k n : Nat, k ≤ s.size ∧ i = .int .i64 k ∧ h = .int .u64 n ∧ Hid (n = hash (s.data.toList.take k))) (fun _ i => s.size - (intOf i).toNat)
  case atStart => exact ⟨0, 14695981039346656037, Nat.zero_le _, rfl, rfl, Lib.hid rfl⟩
  case round =>
    obtain ⟨k, n, hk, rfl, rfl, HN⟩ := hrel
    rcases Nat.lt_or_ge k s.size with hlt | hge
    · have HV := Lib.hid (hstep_val n (by rw [HN.out]; exact hash_lt _) s[k])
      have HN2 : Hid (hstep n s[k] = hash (s.data.toList.take (k + 1))) := Lib.hid (by
        have hl : k < s.data.toList.length := by rw [HL.out]; exact hlt
        rw [hash_take hl, str_at hlt hl, HN.out])
      go_wp2
      go_round
      case rel => exact ⟨k + 1, hstep n s[k], by omega, by go_num, congrArg _ HV.out, HN2⟩
      case measure => simp [intOf]; omega
    · obtain rfl : k = s.size := by omega
      have HE : Hid ((n : Int) = ((hash s.data.toList : Nat) : Int)) := Lib.hid (by rw [HN.out, ← HL.out, List.take_length])
      go_wp2
      go_ret
      exact ⟨ret_u64 HE.out, rfl⟩

set_option maxRecDepth 100000 in
theorem refHash_any (s : ByteArray) (w : World) (hs : s.size ≤ 9223372036854775807) :
    Calls Try.prog 17 #[.string s] w fun e w' => e = .returned (.int .u64 (hash s.data.toList)) ∧ w = w' := by
  have HL := Lib.hid (str_len s)
  go_enter Try.func17, Try.ntmps17
  go_wp2
  go_loop [3, 4] (fun h i => ∃ k n : Nat, k ≤ s.size ∧ i = .int .i64 k ∧ h = .int .u64 n ∧ Hid (n = hash (s.data.toList.take k))) (fun _ i => s.size - (intOf i).toNat)
  case atStart => exact ⟨0, 14695981039346656037, Nat.zero_le _, rfl, rfl, Lib.hid rfl⟩
  case round =>
    obtain ⟨k, n, hk, rfl, rfl, HN⟩ := hrel
    rcases Nat.lt_or_ge k s.size with hlt | hge
    · have HV := Lib.hid (hstep_val n (by rw [HN.out]; exact hash_lt _) s[k])
      have HN2 : Hid (hstep n s[k] = hash (s.data.toList.take (k + 1))) := Lib.hid (by
        have hl : k < s.data.toList.length := by rw [HL.out]; exact hlt
        rw [hash_take hl, str_at hlt hl, HN.out])
      go_wp2
      go_round
      case rel => exact ⟨k + 1, hstep n s[k], by omega, by go_num, congrArg _ HV.out, HN2⟩
      case measure => simp [intOf]; omega
    · obtain rfl : k = s.size := by omega
      have HE : Hid ((n : Int) = ((hash s.data.toList : Nat) : Int)) := Lib.hid (by rw [HN.out, ← HL.out, List.take_length])
      go_wp2
      go_ret
      exact ⟨ret_u64 HE.out, rfl⟩

theorem place_val (h k o m : Nat) (hh : h < 18446744073709551616) (ho : o < 4294967296) (hk : k ≤ 2) : (IntKind.u64.wrap ((h : Int) / 4294967296 + IntKind.u64.wrap ((k : Int) * (o : Int)))).tmod (m : Int) = (((h / 4294967296 + k * o) % m : Nat) : Int) := by
  have hk3 : k = 0 ∨ k = 1 ∨ k = 2 := by omega
  have e : IntKind.u64.wrap ((h : Int) / 4294967296 + IntKind.u64.wrap ((k : Int) * (o : Int))) = ((h / 4294967296 + k * o : Nat) : Int) := by
    rw [IntKind.wrap_u64, IntKind.wrap_u64]
    rcases hk3 with rfl | rfl | rfl <;> omega
  rw [e, ← Int.ofNat_tmod]
theorem and_lo (h : Nat) (hh : h < 18446744073709551616) : Go.bits .and .u64 (h : Int) 4294967295 = ((h % 4294967296 : Nat) : Int) := by
  have := u64_and_nat h 4294967295 hh (by omega)
  have e : h &&& 4294967295 = h % 4294967296 := by
    have := Nat.and_two_pow_sub_one_eq_mod h 32
    simpa using this
  rw [e] at this
  exact this
theorem odd_val (h : Nat) (hh : h < 18446744073709551616) : Go.bits .or .u64 (Go.bits .and .u64 (h : Int) 4294967295) 1 = ((odd h : Nat) : Int) := by
  rw [and_lo h hh, ← odd_eq]
  exact u64_or_nat (h % 4294967296) 1 (by omega) (by omega)

set_option maxRecDepth 100000 in
theorem refPlace_any (s : ByteArray) (k m : Nat) (w : World) (hs : s.size ≤ 9223372036854775807) (hk : k ≤ 2) (hb : 0 < m) (hb2 : m ≤ 9223372036854775807) :
    Calls Try.prog 30 #[.string s, .int .u64 k, .int .u64 m] w fun e w' => e = .returned (.int .u64 (place s.data.toList k m)) ∧ w = w' := by
  have HP : Hid (place s.data.toList k m = (hash s.data.toList / 4294967296 + k * odd (hash s.data.toList)) % m) := Lib.hid rfl
  go_enter Try.func30, Try.ntmps30
  go_wp2_with fail
  refine (refHash_any s _ hs).mono ?_
  rintro e w1 ⟨rfl, rfl⟩
  have hh := hash_lt s.data.toList
  generalize hash s.data.toList = h at hh HP ⊢
  rcases Nat.mod_two_eq_zero_or_one h with h2 | h2
  · have e2 : ((h : Int) % 2 == 0) = true := by simp; omega
    have HO : Hid (odd h = h % 4294967296 + 1) := Lib.hid (if_pos h2)
    have HV := Lib.hid (place_val h k (h % 4294967296 + 1) m hh (by omega) hk)
    clear h2
    go_wp2_with fail
    go_ret
    refine ⟨ret_u64 ?_, rfl⟩
    rw [HP.out, HO.out, ← HV.out]
    simp
  · have e2 : ((h : Int) % 2 == 0) = false := by simp; omega
    have HO : Hid (odd h = h % 4294967296) := Lib.hid (if_neg (by omega))
    have HV := Lib.hid (place_val h k (h % 4294967296) m hh (by omega) hk)
    clear h2
    go_wp2_with fail
    go_ret
    refine ⟨ret_u64 ?_, rfl⟩
    rw [HP.out, HO.out, ← HV.out]
    simp

set_option maxRecDepth 100000 in
theorem places_any (s : ByteArray) (m : Nat) (w : World) (hs : s.size ≤ 9223372036854775807) (hb : 0 < m) (hb2 : m ≤ 9223372036854775807) :
    Calls Try.prog 28 #[.string s, .int .u64 m] w fun e w' => e = .returned (.agg #[.int .u64 (place s.data.toList 0 m), .int .u64 (place s.data.toList 1 m), .int .u64 (place s.data.toList 2 m)]) ∧ Below w.heap.size w w' := by
  have HP : Hid (∀ k, place s.data.toList k m = (hash s.data.toList / 4294967296 + k * odd (hash s.data.toList)) % m) := Lib.hid (fun _ => rfl)
  go_enter Try.func28, Try.ntmps28
  go_wp2_with fail
  refine (hash_any s _ hs).mono ?_
  rintro e w1 ⟨rfl, rfl⟩
  have hh := hash_lt s.data.toList
  generalize hash s.data.toList = h at hh HP ⊢
  go_wp2_with fail
  rw [odd_val h hh]
  have ho := odd_lt h
  have V0 := Lib.hid (place_val h 0 (odd h) m hh ho (by omega))
  have V1 := Lib.hid (place_val h 1 (odd h) m hh ho (by omega))
  have V2 := Lib.hid (place_val h 2 (odd h) m hh ho (by omega))
  generalize odd h = o at ho V0 V1 V2 HP ⊢
  have hb3 : (m : Int) ≠ 0 := by omega
  go_region
  go_wp2_with fail
  refine bodyPost_ret (v := .agg #[.int .u64 (place s.data.toList 0 m), .int .u64 (place s.data.toList 1 m), .int .u64 (place s.data.toList 2 m)]) ?_ rfl ⟨rfl, ?_⟩
  · simp [results, Try.results28, go_sem]
    rw [HP.out 0, HP.out 1, HP.out 2]
    simp
  · exact ((Below.refl _ _).alloc (Nat.le_refl _) _).drew
end Go.Proofs.Ytpfladolkkhfdaa
