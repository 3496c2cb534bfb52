/- The walks of the checksums. -/
import Derived.Test.YtjbachplnkonkaaRefGet
import Derived.Test.YtjbachplnkonkaaSizesLaw
import Derived.Test.YtjbachplnkonkaaFrm
namespace Go.Proofs.Ytjbachplnkonkaa
set_option linter.unusedVariables false
open Go.RowKit
open Varm Frm

/-- A part of several: where it lies, what it is. -/
structure Part where
  A : Option Addr
  l : List UInt8
  c : Nat
def Part.val (p : Part) : Value := .slice p.A p.l.length p.c
def allOf (ps : List Part) : List UInt8 := ps.flatMap (·.l)

theorem mask1 (c : Nat) (h : c < 4294967296) : bits .and .u32 (c : Int) 1 = ((c % 2 : Nat) : Int) := by
  have := u32_and_nat c 1 h (by omega)
  rw [nat_mask1] at this
  exact this

theorem bit_val (c : Nat) (h : c < 4294967296) :
    bits .xor .u32 ((c : Int) / 2) (bits .and .u32 3988292384 (IntKind.u32.wrap (-bits .and .u32 (c : Int) 1))) = ((stepBit c : Nat) : Int) := by
  rw [mask1 c h]
  unfold stepBit
  rcases Nat.mod_two_eq_zero_or_one c with h1 | h1
  · rw [h1, if_neg (by decide)]
    have e : IntKind.u32.wrap (-((0 : Nat) : Int)) = ((0 : Nat) : Int) := by rw [IntKind.wrap_u32]; rfl
    rw [e]
    have := u32_and_nat 3988292384 0 (by omega) (by omega)
    rw [Nat.and_zero] at this
    have e2 : bits .and .u32 3988292384 ((0 : Nat) : Int) = ((0 : Nat) : Int) := this
    rw [e2]
    have e3 := u32_xor_nat (c / 2) 0 (by omega) (by omega)
    rw [Nat.xor_zero] at e3
    exact e3
  · rw [h1, if_pos rfl]
    have e : IntKind.u32.wrap (-((1 : Nat) : Int)) = ((4294967295 : Nat) : Int) := by rw [IntKind.wrap_u32]; rfl
    rw [e]
    have := u32_and_nat 3988292384 4294967295 (by omega) (by omega)
    have e0 : (3988292384 &&& 4294967295 : Nat) = 3988292384 := by decide
    rw [e0] at this
    have e2 : bits .and .u32 3988292384 ((4294967295 : Nat) : Int) = ((3988292384 : Nat) : Int) := this
    rw [e2]
    exact u32_xor_nat (c / 2) 3988292384 (by omega) (by omega)

set_option maxHeartbeats 1000000 in
set_option maxRecDepth 100000 in
theorem sum_any (ps : List Part) (A : Option Addr) (c : Nat) (w : World) (B : Nat) (hr : Reads w B A (ps.map Part.val)) (hp : ∀ p ∈ ps, Reads w B p.A (p.l.map vb) ∧ p.l.length ≤ 9223372036854775807) (hl : ps.length ≤ 9223372036854775807) :
    Calls Try.prog 24 #[.slice A ps.length c] w fun e w' => e = .returned (.int .u32 (sum (allOf ps))) ∧ w = w' := by
  have HP := Lib.hid hp
  clear hp
  go_enter Try.func24, Try.ntmps24
  go_wp2
  go_loop [3, 10] (fun v i => ∃ k s : Nat, k ≤ ps.length ∧ i = .int .i64 k ∧ v = .int .u32 s ∧ Hid (s = run 4294967295 (allOf (ps.take k)))) (fun _ i => ps.length - (intOf i).toNat)
  case atStart => exact ⟨0, 4294967295, Nat.zero_le _, rfl, rfl, Lib.hid rfl⟩
  case round =>
    obtain ⟨k, s, hk, rfl, rfl, HK⟩ := hrel
    rcases Nat.lt_or_ge k ps.length with hlt | hge
    · obtain ⟨b, off, rfl, _, hcell⟩ := hr.at_ (k := k) (by simpa using hlt)
      have h1 : w.cell? ⟨b, off + k, none⟩ = some (ps[k].val) := hcell k _ (by simp [hlt])
      obtain ⟨hrp, hlp⟩ := HP.out ps[k] (List.getElem_mem _)
      have HK2 : Hid (run 4294967295 (allOf (ps.take (k + 1))) = run s ps[k].l) := Lib.hid (by rw [HK.out, List.take_succ_eq_append_getElem hlt, allOf, List.flatMap_append, run_append]; simp [allOf])
      have HM : Hid (s < 4294967296) := Lib.hid (by rw [HK.out]; exact run_lt _ _ (by decide))
      clear hcell hr HK
      generalize ps[k] = p at h1 hrp hlp HK2
      obtain ⟨A1, l1, c1⟩ := p
      simp only [Part.val] at h1 hrp hlp HK2
      go_wp2
      go_loop [3, 16] (fun v i => ∃ k' s' : Nat, k' ≤ l1.length ∧ i = .int .i64 k' ∧ v = .int .u32 s' ∧ Hid (s' = run s (l1.take k'))) (fun _ i => l1.length - (intOf i).toNat)
      case atStart => exact ⟨0, s, Nat.zero_le _, rfl, rfl, Lib.hid rfl⟩
      case round =>
        obtain ⟨j, t, hj, rfl, rfl, HJ⟩ := hrel
        rcases Nat.lt_or_ge j l1.length with hlj | hgj
        · obtain ⟨b2, off2, rfl, _, hcell2⟩ := hrp.at_ (k := j) (by simpa using hlj)
          have h2 := Reads.byte hcell2 hlj
          have HJ2 : Hid (run s (l1.take (j + 1)) = stepN 8 (t ^^^ l1[j].toNat)) := Lib.hid (by rw [HJ.out, run_take _ _ hlj]; rfl)
          have HT : Hid (t < 4294967296) := Lib.hid (by rw [HJ.out]; exact run_lt _ _ HM.out)
          clear hcell2 hrp HJ
          generalize l1[j] = x at h2 HJ2
          have hx : x.toNat ≤ 255 := by have := UInt8.toNat_lt x; omega
          have HX : Hid (bits .xor .u32 (t : Int) (x.toNat : Int) = ((t ^^^ x.toNat : Nat) : Int)) := Lib.hid (u32_xor_nat t x.toNat HT.out (by omega))
          go_wp2
          go_loop [3, 24] (fun v i => ∃ (q : Nat) (u : Nat), q ≤ 8 ∧ i = .int .i64 q ∧ v = .int .u32 u ∧ Hid (u = stepN q (t ^^^ x.toNat))) (fun _ i => 8 - (intOf i).toNat)
          case atStart => exact ⟨0, t ^^^ x.toNat, by omega, rfl, congrArg _ HX.out, Lib.hid rfl⟩
          case round =>
            obtain ⟨q, u, hq, rfl, rfl, HU⟩ := hrel
            rcases Nat.lt_or_ge q 8 with hlq | hgq
            · have HV := Lib.hid (bit_val u (by rw [HU.out]; exact stepN_lt _ _ (xorByte_lt x HT.out)))
              have HU2 : Hid (stepBit u = stepN (q + 1) (t ^^^ x.toNat)) := Lib.hid (by rw [HU.out, stepN_succ])
              go_wp2
              go_round
              case rel => exact ⟨q + 1, stepBit u, by omega, by go_num, congrArg _ HV.out, HU2⟩
              case measure => simp [intOf]; omega
            · obtain rfl : q = 8 := by omega
              go_wp2
              go_round
              case rel => exact ⟨j + 1, u, by omega, by go_num, rfl, Lib.hid (by rw [HJ2.out]; exact HU.out)⟩
              case measure => simp [intOf]; omega
        · obtain rfl : j = l1.length := by omega
          go_wp2
          go_round
          case rel => exact ⟨k + 1, t, by omega, by go_num, rfl, Lib.hid (by rw [HK2.out, HJ.out, List.take_length])⟩
          case measure => simp [intOf]; omega
    · obtain rfl : k = ps.length := by omega
      go_wp2
      go_ret
      rw [List.take_length] at HK
      refine ⟨?_, rfl⟩
      rw [sum, ← HK.out]
      exact ret_int (u32_xor_nat 4294967295 s (by omega) (by rw [HK.out]; exact run_lt _ _ (by decide)))

theorem refBit_odd (c : Nat) (h : c < 4294967296) (h1 : c % 2 = 1) : bits .xor .u32 ((c : Int) / 2) 3988292384 = ((stepBit c : Nat) : Int) := by
  unfold stepBit
  rw [if_pos h1]
  exact u32_xor_nat (c / 2) 3988292384 (by omega) (by omega)

set_option maxHeartbeats 1000000 in
set_option maxRecDepth 100000 in
theorem refSum_any (l : List UInt8) (A : Option Addr) (c : Nat) (w : World) (B : Nat) (hr : Reads w B A (l.map vb)) (hl : l.length ≤ 9223372036854775807) :
    Calls Try.prog 25 #[.slice A l.length c] w fun e w' => e = .returned (.int .u32 (sum l)) ∧ w = w' := by
  have HS := Lib.hid (sum_sub l)
  go_enter Try.func25, Try.ntmps25
  go_wp2
  go_loop [3, 4] (fun v i => ∃ k' s' : Nat, k' ≤ l.length ∧ i = .int .i64 k' ∧ v = .int .u32 s' ∧ Hid (s' = run 4294967295 (l.take k'))) (fun _ i => l.length - (intOf i).toNat)
  case atStart => exact ⟨0, 4294967295, Nat.zero_le _, rfl, rfl, Lib.hid rfl⟩
  case round =>
    obtain ⟨j, t, hj, rfl, rfl, HJ⟩ := hrel
    rcases Nat.lt_or_ge j l.length with hlj | hgj
    · obtain ⟨b2, off2, rfl, _, hcell2⟩ := hr.at_ (k := j) (by simpa using hlj)
      have h2 := Reads.byte hcell2 hlj
      have HJ2 : Hid (run 4294967295 (l.take (j + 1)) = stepN 8 (t ^^^ l[j].toNat)) := Lib.hid (by rw [HJ.out, run_take _ _ hlj]; rfl)
      have HT : Hid (t < 4294967296) := Lib.hid (by rw [HJ.out]; exact run_lt _ _ (by decide))
      clear hcell2 hr HJ
      generalize l[j] = x at h2 HJ2
      have hx : x.toNat ≤ 255 := by have := UInt8.toNat_lt x; omega
      have HX : Hid (bits .xor .u32 (t : Int) (x.toNat : Int) = ((t ^^^ x.toNat : Nat) : Int)) := Lib.hid (u32_xor_nat t x.toNat HT.out (by omega))
      go_wp2
      go_loop [3, 5] (fun v i => ∃ (q : Nat) (u : Nat), q ≤ 8 ∧ i = .int .i64 q ∧ v = .int .u32 u ∧ Hid (u = stepN q (t ^^^ x.toNat))) (fun _ i => 8 - (intOf i).toNat)
      case atStart => exact ⟨0, t ^^^ x.toNat, by omega, rfl, congrArg _ HX.out, Lib.hid rfl⟩
      case round =>
        obtain ⟨q, u, hq, rfl, rfl, HU⟩ := hrel
        rcases Nat.lt_or_ge q 8 with hlq | hgq
        · have hu : u < 4294967296 := by rw [HU.out]; exact stepN_lt _ _ (xorByte_lt x HT.out)
          have HU2 : Hid (stepBit u = stepN (q + 1) (t ^^^ x.toNat)) := Lib.hid (by rw [HU.out, stepN_succ])
          have HW := Lib.hid (show IntKind.u32.wrap ((u : Int) / 2) = ((u / 2 : Nat) : Int) by rw [IntWalk.u32_in _ (by omega)]; omega)
          rcases Nat.mod_two_eq_zero_or_one u with h1 | h1
          · have hb : ((u : Int) % 2 == 1) = false := by simp; omega
            have HV : Hid (((u / 2 : Nat) : Int) = ((stepBit u : Nat) : Int)) := Lib.hid (by unfold stepBit; rw [if_neg (by omega)])
            clear h1 hu
            go_wp2
            go_round
            case rel => exact ⟨q + 1, stepBit u, by omega, by go_num, congrArg _ (HW.out.trans HV.out), HU2⟩
            case measure => simp [intOf]; omega
          · have hb : ((u : Int) % 2 == 1) = true := by simp; omega
            have HV := Lib.hid (refBit_odd u hu h1)
            have HW2 : IntKind.u32.wrap ((u : Int) / 2) = (u : Int) / 2 := IntWalk.u32_in _ (by omega)
            clear h1 hu
            go_wp2
            go_round
            case rel => exact ⟨q + 1, stepBit u, by omega, by go_num, congrArg _ HV.out, HU2⟩
            case measure => simp [intOf]; omega
        · obtain rfl : q = 8 := by omega
          go_wp2
          go_round
          case rel => exact ⟨j + 1, u, by omega, by go_num, rfl, Lib.hid (by rw [HJ2.out]; exact HU.out)⟩
          case measure => simp [intOf]; omega
    · obtain rfl : j = l.length := by omega
      have hs : t ≤ 4294967295 := by have := HJ.out; have := run_lt (l.take l.length) 4294967295 (by decide); omega
      go_wp2
      go_ret
      refine ⟨?_, rfl⟩
      rw [HS.out]
      have := HJ.out
      rw [List.take_length] at this
      exact ret_int (by rw [← this]; omega)

set_option maxRecDepth 100000 in
theorem four_any (s : Nat) (hs : s < 4294967296) (w : World) (B : Nat) (hB : B ≤ w.heap.size) :
    Calls Try.prog 32 #[.int .u32 s] w fun e w' => ∃ v, e = .returned v ∧ w'.ownsRow B 5 1 v 4 ((four s).map vb) ∧ Below B w w' := by
  have hl : ((four s).map vb) = [.int .u8 ((s : Int) % 256), .int .u8 ((s : Int) / 256 % 256), .int .u8 ((s : Int) / 65536 % 256), .int .u8 ((s : Int) / 16777216)] := by
    simp [four, vb]; omega
  have HL := Lib.hid hl
  have HO := Lib.hid (World.ownsRow_lit (base := B) (e := 5) (size := 1) w #[.int .u8 ((s : Int) % 256), .int .u8 ((s : Int) / 256 % 256), .int .u8 ((s : Int) / 65536 % 256), .int .u8 ((s : Int) / 16777216)] 4 hB (by decide) rfl)
  clear hl
  go_enter Try.func32, Try.ntmps32
  go_wp2
  go_ret
  exact ⟨_, rfl, by rw [HL.out]; exact HO.out, (Below.refl _ _).alloc hB _⟩
end Go.Proofs.Ytjbachplnkonkaa
