/- The walks of looking a word up. -/
import Derived.Test.YtpfladolkkhfdaaBloomH
import Derived.Deep.QuietTactic
import Derived.BigQuiet
namespace Go.Proofs.Ytpfladolkkhfdaa
set_option linter.unusedVariables false
open Go.RowKit

theorem byte_at {w : World} {B : Nat} {A : Option Addr} {f : List UInt8} (hr : Reads w B A (f.map vb)) {p : Nat} (hp : p < 8 * f.length) :
    ∃ b off, A = some ⟨b, off, none⟩ ∧ b < B ∧ w.cell? ⟨b, off + p / 8, none⟩ = some (.int .u8 ((f.getD (p / 8) 0).toNat : Int)) := by
  have hk : p / 8 < f.length := by omega
  obtain ⟨b, off, rfl, hb, hc⟩ := hr.at_ (k := p / 8) (by simpa using hk)
  refine ⟨b, off, rfl, hb, ?_⟩
  rw [List.getD, List.getElem?_eq_getElem hk]
  exact Reads.byte hc hk

theorem bit_val (y : UInt8) (e : Nat) : (bits .and .u8 ((y.toNat : Int) / 2 ^ e) 1 == 0) = !y.toNat.testBit e := by
  have hy := y.toNat_lt
  have hle : y.toNat / 2 ^ e ≤ y.toNat := Nat.div_le_self _ _
  have e1 : ((y.toNat : Int) / 2 ^ e) = ((y.toNat / 2 ^ e : Nat) : Int) := by simp
  rw [e1]
  have h2 : bits .and .u8 ((y.toNat / 2 ^ e : Nat) : Int) 1 = ((y.toNat / 2 ^ e &&& 1 : Nat) : Int) := u8_and_nat (y.toNat / 2 ^ e) 1 (by omega) (by omega)
  rw [h2, Nat.and_one_is_mod, Nat.testBit_eq_decide_div_mod_eq]
  rcases Nat.mod_two_eq_zero_or_one (y.toNat / 2 ^ e) with h | h <;> rw [h] <;> rfl

set_option maxHeartbeats 1000000 in
set_option maxRecDepth 100000 in
theorem has_any (f : List UInt8) (A : Option Addr) (c : Nat) (s : ByteArray) (w : World) (hr : Reads w w.heap.size A (f.map vb)) (hf : f.length ≤ 1000000000000000) (hs : s.size ≤ 9223372036854775807) :
    Calls Try.prog 14 #[.slice A f.length c, .string s] w fun e w' => e = .returned (.bool (has f s.data.toList)) ∧ Below w.heap.size w w' := by
  by_cases hn : f = []
  · subst hn
    go_enter Try.func14, Try.ntmps14
    go_wp2_with fail
    go_ret
    exact ⟨rfl, Below.refl _ _⟩
  · have hpos : 0 < f.length := List.length_pos_iff.2 hn
    obtain ⟨b, off, rfl, hb0, d0⟩ := byte_at hr (place_lt s.data.toList 0 (bits := 8 * f.length) (by omega))
    obtain ⟨b1, off1, h1, -, d1⟩ := byte_at hr (place_lt s.data.toList 1 (bits := 8 * f.length) (by omega))
    cases h1
    obtain ⟨b2, off2, h2, -, d2⟩ := byte_at hr (place_lt s.data.toList 2 (bits := 8 * f.length) (by omega))
    cases h2
    have l0 := place_lt s.data.toList 0 (bits := 8 * f.length) (by omega)
    have l1 := place_lt s.data.toList 1 (bits := 8 * f.length) (by omega)
    have l2 := place_lt s.data.toList 2 (bits := 8 * f.length) (by omega)
    have HH : Hid (has f s.data.toList = (bitAt f (place s.data.toList 0 (8 * f.length)) && bitAt f (place s.data.toList 1 (8 * f.length)) && bitAt f (place s.data.toList 2 (8 * f.length)))) := Lib.hid (by simp [has, hn])
    have HPL := Lib.hid (fun w => places_any s (8 * f.length) w hs (by omega) (by omega))
    unfold bitAt at HH
    generalize place s.data.toList 0 (8 * f.length) = p0 at d0 l0 HH HPL
    generalize place s.data.toList 1 (8 * f.length) = p1 at d1 l1 HH HPL
    generalize place s.data.toList 2 (8 * f.length) = p2 at d2 l2 HH HPL
    generalize f.getD (p0 / 8) 0 = y0 at d0 HH
    generalize f.getD (p1 / 8) 0 = y1 at d1 HH
    generalize f.getD (p2 / 8) 0 = y2 at d2 HH
    have q0 := bit_val y0 (p0 % 8)
    have q1 := bit_val y1 (p1 % 8)
    have q2 := bit_val y2 (p2 % 8)
    generalize y0.toNat.testBit (p0 % 8) = t0 at q0 HH
    generalize y1.toNat.testBit (p1 % 8) = t1 at q1 HH
    generalize y2.toNat.testBit (p2 % 8) = t2 at q2 HH
    have x0 : ∀ w, (Instr.index 52 (.agg #[.int .u64 (p0 : Int), .int .u64 (p1 : Int), .int .u64 (p2 : Int)]) (.int .i64 0)).run Try.prog w = .ok (.int .u64 (p0 : Int)) w := fun _ => by kernel_rfl
    have x1 : ∀ w, (Instr.index 52 (.agg #[.int .u64 (p0 : Int), .int .u64 (p1 : Int), .int .u64 (p2 : Int)]) (.int .i64 1)).run Try.prog w = .ok (.int .u64 (p1 : Int)) w := fun _ => by kernel_rfl
    have x2 : ∀ w, (Instr.index 52 (.agg #[.int .u64 (p0 : Int), .int .u64 (p1 : Int), .int .u64 (p2 : Int)]) (.int .i64 2)).run Try.prog w = .ok (.int .u64 (p2 : Int)) w := fun _ => by kernel_rfl
    clear hr hn
    go_enter Try.func14, Try.ntmps14
    have e8 : ((8 * f.length : Nat) : Int) = 8 * (f.length : Int) := by omega
    rw [e8] at HPL
    go_wp2_with fail
    refine (HPL.out _).mono ?_
    rintro e w1 ⟨rfl, hb1⟩
    have d0' := (hb1.cell hb0).trans d0
    have d1' := (hb1.cell hb0).trans d1
    have d2' := (hb1.cell hb0).trans d2
    clear d0 d1 d2 HPL e8
    have i0 : (p0 : Int) / 8 < (f.length : Int) := by omega
    have i1 : (p1 : Int) / 8 < (f.length : Int) := by omega
    have i2 : (p2 : Int) / 8 < (f.length : Int) := by omega
    go_wp2_with fail
    refine wp_loop_rounds 4 ?_
    cases t0 with
    | false =>
      simp only [Bool.not_false] at q0
      rw [rounds_succ]
      go_wp2
      go_ret
      exact ⟨by rw [HH.out]; rfl, hb1⟩
    | true =>
      simp only [Bool.not_true] at q0
      rw [rounds_succ]
      go_wp2
      cases t1 with
      | false =>
        simp only [Bool.not_false] at q1
        rw [rounds_succ]
        go_wp2
        go_ret
        exact ⟨by rw [HH.out]; rfl, hb1⟩
      | true =>
        simp only [Bool.not_true] at q1
        rw [rounds_succ]
        go_wp2
        cases t2 with
        | false =>
          simp only [Bool.not_false] at q2
          rw [rounds_succ]
          go_wp2
          go_ret
          exact ⟨by rw [HH.out]; rfl, hb1⟩
        | true =>
          simp only [Bool.not_true] at q2
          rw [rounds_succ]
          go_wp2
          rw [rounds_succ]
          go_wp2
          go_ret
          exact ⟨by rw [HH.out]; rfl, hb1⟩

theorem bit_val2 (y : UInt8) (e : Nat) : (((y.toNat : Int) / 2 ^ e).tmod 2 == 0) = !y.toNat.testBit e := by
  have e1 : ((y.toNat : Int) / 2 ^ e) = ((y.toNat / 2 ^ e : Nat) : Int) := by simp
  have e2 : ((y.toNat / 2 ^ e : Nat) : Int).tmod 2 = ((y.toNat / 2 ^ e % 2 : Nat) : Int) := (Int.ofNat_tmod _ 2).symm
  rw [e1, e2, Nat.testBit_eq_decide_div_mod_eq]
  rcases Nat.mod_two_eq_zero_or_one (y.toNat / 2 ^ e) with h | h <;> rw [h] <;> rfl

set_option maxHeartbeats 1000000 in
set_option maxRecDepth 100000 in
theorem refHas_any (f : List UInt8) (A : Option Addr) (c : Nat) (s : ByteArray) (w : World) (B : Nat) (hr : Reads w B A (f.map vb)) (hf : f.length ≤ 1000000000000000) (hs : s.size ≤ 9223372036854775807) :
    Calls Try.prog 15 #[.slice A f.length c, .string s] w fun e w' => e = .returned (.bool (has f s.data.toList)) ∧ w = w' := by
  by_cases hn : f = []
  · subst hn
    go_enter Try.func15, Try.ntmps15
    go_wp2_with fail
    refine wp_loop_rounds 1 ?_
    rw [rounds_succ]
    go_wp2
    go_ret
    exact ⟨rfl, rfl⟩
  · have hpos : 0 < f.length := List.length_pos_iff.2 hn
    obtain ⟨b, off, rfl, hb0, d0⟩ := byte_at hr (place_lt s.data.toList 0 (bits := 8 * f.length) (by omega))
    obtain ⟨b1, off1, h1, -, d1⟩ := byte_at hr (place_lt s.data.toList 1 (bits := 8 * f.length) (by omega))
    cases h1
    obtain ⟨b2, off2, h2, -, d2⟩ := byte_at hr (place_lt s.data.toList 2 (bits := 8 * f.length) (by omega))
    cases h2
    have l0 := place_lt s.data.toList 0 (bits := 8 * f.length) (by omega)
    have l1 := place_lt s.data.toList 1 (bits := 8 * f.length) (by omega)
    have l2 := place_lt s.data.toList 2 (bits := 8 * f.length) (by omega)
    have HH : Hid (has f s.data.toList = (bitAt f (place s.data.toList 0 (8 * f.length)) && bitAt f (place s.data.toList 1 (8 * f.length)) && bitAt f (place s.data.toList 2 (8 * f.length)))) := Lib.hid (by simp [has, hn])
    have P0 := Lib.hid (refPlace_any s 0 (8 * f.length) w hs (by omega) (by omega) (by omega))
    have P1 := Lib.hid (refPlace_any s 1 (8 * f.length) w hs (by omega) (by omega) (by omega))
    have P2 := Lib.hid (refPlace_any s 2 (8 * f.length) w hs (by omega) (by omega) (by omega))
    unfold bitAt at HH
    generalize place s.data.toList 0 (8 * f.length) = p0 at d0 l0 HH P0
    generalize place s.data.toList 1 (8 * f.length) = p1 at d1 l1 HH P1
    generalize place s.data.toList 2 (8 * f.length) = p2 at d2 l2 HH P2
    generalize f.getD (p0 / 8) 0 = y0 at d0 HH
    generalize f.getD (p1 / 8) 0 = y1 at d1 HH
    generalize f.getD (p2 / 8) 0 = y2 at d2 HH
    have q0 := bit_val2 y0 (p0 % 8)
    have q1 := bit_val2 y1 (p1 % 8)
    have q2 := bit_val2 y2 (p2 % 8)
    generalize y0.toNat.testBit (p0 % 8) = t0 at q0 HH
    generalize y1.toNat.testBit (p1 % 8) = t1 at q1 HH
    generalize y2.toNat.testBit (p2 % 8) = t2 at q2 HH
    have e8 : ((8 * f.length : Nat) : Int) = 8 * (f.length : Int) := by omega
    rw [e8] at P0 P1 P2
    clear hr hn e8
    have i0 : (p0 : Int) / 8 < (f.length : Int) := by omega
    have i1 : (p1 : Int) / 8 < (f.length : Int) := by omega
    have i2 : (p2 : Int) / 8 < (f.length : Int) := by omega
    go_enter Try.func15, Try.ntmps15
    go_wp2_with fail
    refine wp_loop_rounds 4 ?_
    rw [rounds_succ]
    cases t0 with
    | false =>
      simp only [Bool.not_false] at q0
      go_wp2_with fail
      refine P0.out.mono ?_
      rintro e w1 ⟨rfl, rfl⟩
      go_wp2
      go_ret
      exact ⟨by rw [HH.out]; rfl, rfl⟩
    | true =>
      simp only [Bool.not_true] at q0
      go_wp2_with fail
      refine P0.out.mono ?_
      rintro e w1 ⟨rfl, rfl⟩
      go_wp2
      rw [rounds_succ]
      cases t1 with
      | false =>
        simp only [Bool.not_false] at q1
        go_wp2_with fail
        refine P1.out.mono ?_
        rintro e w1 ⟨rfl, rfl⟩
        go_wp2
        go_ret
        exact ⟨by rw [HH.out]; rfl, rfl⟩
      | true =>
        simp only [Bool.not_true] at q1
        go_wp2_with fail
        refine P1.out.mono ?_
        rintro e w1 ⟨rfl, rfl⟩
        go_wp2
        rw [rounds_succ]
        cases t2 with
        | false =>
          simp only [Bool.not_false] at q2
          go_wp2_with fail
          refine P2.out.mono ?_
          rintro e w1 ⟨rfl, rfl⟩
          go_wp2
          go_ret
          exact ⟨by rw [HH.out]; rfl, rfl⟩
        | true =>
          simp only [Bool.not_true] at q2
          go_wp2_with fail
          refine P2.out.mono ?_
          rintro e w1 ⟨rfl, rfl⟩
          go_wp2
          rw [rounds_succ]
          go_wp2
          go_ret
          exact ⟨by rw [HH.out]; rfl, rfl⟩
end Go.Proofs.Ytpfladolkkhfdaa
