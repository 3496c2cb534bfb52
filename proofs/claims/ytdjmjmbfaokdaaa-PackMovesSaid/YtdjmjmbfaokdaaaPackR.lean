/- The walk of the reference's Pack. -/
import Derived.Test.YtdjmjmbfaokdaaaPackW
import Derived.Test.YtdjmjmbfaokdaaaRef1
namespace Go.Proofs.Ytdjmjmbfaokdaaa
set_option linter.unusedVariables false
open Go.RowKit
open Varm Pk

/-- 'app1', the block's number a letter. -/
theorem app1k {P : Program} {w : World} {t e : TypeId} {bytes : Nat} (R : Row P t e bytes) {ops : Array Oper} {rest : List Oper} {o : Oper} {a : Act} {Q : Exit → Act → World → Prop} (hgd : o.guard = none) (s x : Operand)
    (ho : o.op = .call { callee := .builtin .append, args := #[s, x], argTypes := #[t, t] }) (u : Value)
    (base : Nat) (v : Value) (n : Nat) (xs : List Value) (hs : a.eval s = v) (hown : w.ownsRow base e 1 v n xs) (b : Nat)
    (hx : a.eval x = .slice (some ⟨b, 0, none⟩) 1 1) (hb : b = w.heap.size) (h1 : u.oneCell' = true)
    (hbytes : (n + 1) * (bytes + 1) ≤ 140737488355328) (hbase : base ≤ w.heap.size)
    (h : ∀ v' w', w'.ownsRow base e 1 v' (n + 1) (xs ++ [u]) → Grew w v w' v' → wpList P ops Q rest (a.put o.dst v') w') : wpList P ops Q (o :: rest) a (w.alloc (.cells #[u] e)) := by
  subst hb
  exact app1 R hgd s x ho u base v n xs hs hown hx h1 hbytes hbase h

namespace Pk
/-- Bits as bytes. -/
def bitsL (f : Nat → Bool) (m : Nat) : List UInt8 := (List.range m).map fun j => if f j then 1 else 0
theorem bitsL_len (f : Nat → Bool) (m : Nat) : (bitsL f m).length = m := by simp [bitsL]
theorem bitsL_succ (f : Nat → Bool) (m : Nat) : bitsL f (m + 1) = bitsL f m ++ [if f m then 1 else 0] := by
  unfold bitsL; rw [List.range_succ, List.map_append]; rfl
theorem bitsL_get (f : Nat → Bool) (m j : Nat) (h : j < m) : (bitsL f m)[j]? = some (if f j then 1 else 0) := by simp [bitsL, h]
theorem bitsL_congr {f g : Nat → Bool} {m : Nat} (h : ∀ j, j < m → f j = g j) : bitsL f m = bitsL g m := by
  unfold bitsL
  exact List.map_congr_left fun j hj => by rw [h j (List.mem_range.1 hj)]
theorem getN8 (f : Nat → Bool) (m : Nat) : getN f (8 * m) 8 = byteN f m := by
  simp only [getN, byteN, byte8, Nat.zero_add]
  simp
  omega
theorem mkB_succ (f : Nat → Bool) (m : Nat) : mkB f (m + 1) = mkB f m ++ [byteF f m] := by
  unfold mkB; rw [List.range_succ, List.map_append]; rfl
theorem laid_at (l : List UInt64) (w n j t : Nat) (hj : j < n) (ht : t < w) : laid l w n (j * w + t) = (gap l j).testBit t := by
  have hle : (j + 1) * w ≤ n * w := Nat.mul_le_mul_right _ hj
  have e : (j + 1) * w = j * w + w := by rw [Nat.add_mul, Nat.one_mul]
  unfold laid bitsF
  rw [if_pos (by omega)]
  have e1 : (j * w + t) / w = j := by
    rw [Nat.div_eq_iff (by omega)]
    omega
  have e2 : (j * w + t) % w = t := by
    rw [Nat.mul_comm, Nat.mul_add_mod, Nat.mod_eq_of_lt ht]
  rw [e1, e2]
theorem bit_val (x t : Nat) : (if x.testBit t then (1 : UInt8) else 0).toNat = x / 2 ^ t % 2 := by
  rw [Nat.testBit_eq_decide_div_mod_eq]
  rcases Nat.mod_two_eq_zero_or_one (x / 2 ^ t) with h | h <;> simp [h]
def sliceLen : Value → Nat
  | .slice _ n _ => n
  | _ => 0
end Pk

set_option maxHeartbeats 8000000 in
set_option maxRecDepth 100000 in
theorem refPack_any (l : List UInt64) (A : Option Addr) (c : Nat) (w : World) (B : Nat) (hr : Reads w B A (l.map vq)) (hB : B ≤ w.heap.size) (hc : l.length ≤ c) (hl : l.length ≤ 140737488355328) :
    Calls Try.prog 21 #[.slice A l.length c] w (BAns (pack l) B w) := by
  rcases Nat.lt_or_ge 65536 l.length with hbig | hsm
  · have hE : pack l = ([], 3) := by unfold pack; rw [if_pos hbig]
    rw [hE]
    have hd : decide ((65536 : Int) < (l.length : Int)) = true := decide_eq_true (by omega)
    go_enter Try.func21, Try.ntmps21
    go_wp2
    go_ret2
    exact bAns_err rfl (Below.refl _ _)
  · have hd : decide ((65536 : Int) < (l.length : Int)) = false := decide_eq_false (by omega)
    have ho1 := one_len l.length (by omega)
    go_enter Try.func21, Try.ntmps21
    go_wp2_with fail
    refine (one_all l.length w B (by omega) hB).mono ?_
    rintro e w1 ⟨v1, rfl, hown1, hb1⟩
    have hs1 := hb1.size
    go_wp2_with fail
    go_loopw [4, 5, 6] (fun v wd i wr => ∃ (k : Nat) (H : List UInt8), k ≤ l.length ∧ i = .int .i64 k ∧ wd = .int .i64 (width l (k - 1) : Nat) ∧ Hid (Rises l (k - 1)) ∧ Hid (H = one l.length ++ (if k = 0 then [] else one (nth l 0))) ∧ wr.ownsRow B 5 1 v H.length (H.map vb) ∧ Below B w wr) (fun _ _ i _ => l.length - (intOf i).toNat)
    case atStart => exact ⟨0, one l.length, Nat.zero_le _, rfl, rfl, Lib.hid (fun j hj => by omega), Lib.hid (by simp), hown1, hb1⟩
    case round =>
      clear hown1 hb1
      obtain ⟨k, H, hk, rfl, rfl, HR, HH, hown, hbr⟩ := hrel
      have hsr := hbr.size
      have hwl := width_le l (k - 1)
      obtain ⟨A1, c1, rfl, -⟩ := own_slice hown
      rcases Nat.lt_or_ge k l.length with hlt | hge
      · obtain ⟨b, off, rfl, hbB, hcell⟩ := hr.at_ (k := 0) (by simp; omega)
        rcases Nat.eq_zero_or_pos k with h0 | hpos
        · have c0 : wr.cell? ⟨b, off, none⟩ = some (.int .u64 (nth l 0 : Int)) := by
            have h := Reads.at_num hcell (k := 0) (by omega)
            rw [Nat.add_zero] at h
            exact (hbr.cell hbB).trans h
          subst h0
          have n0l := nth_lt l 0
          have ho2 := one_len (nth l 0) n0l
          have HH2 : Hid (H = one l.length) := Lib.hid (by rw [HH.out]; simp)
          have hHl : H.length ≤ 10 := by rw [HH2.out]; exact ho1
          have hz0 : width l (0 - 1) = 0 := rfl
          rw [hz0]
          clear hcell HR HH hz0
          go_wp2_with fail
          refine (one_all (nth l 0) wr wr.heap.size n0l (Nat.le_refl _)).mono ?_
          rintro e w2 ⟨v2, rfl, hown2, hb2⟩
          have hs2 := hb2.size
          have hown12 := own_past hown hb2 (Nat.le_refl _)
          have hbel2 := hbr.trans (hb2.mono (by omega))
          obtain ⟨A2, c2, rfl, -⟩ := own_slice hown2
          have hr2 := Reads.of_own hown2
          clear hown hb2 hown2 hbr c0
          go_wp2_with (at_builtin; go_must (refine app rowByte rfl _ _ rfl B _ _ _ rfl (by exact hown12) w2.heap.size _ _ _ ((one (nth l 0)).map vb) rfl (by rw [List.length_map]) (by exact hr2) (oneCell_vb _) (by omega) (by omega) ?_))
          intro v3 w3 hown3 hg3
          have hbel3 := hg3.below hbel2 hown12 (by omega)
          rw [← List.map_append, ← List.length_append] at hown3
          clear hown12 hr2 hg3
          go_wp2_with fail
          go_roundw
          case rel => exact ⟨1, H ++ one (nth l 0), by omega, by go_num, rfl, Lib.hid (fun j hj => by omega), Lib.hid (by rw [HH2.out]; simp), hown3, hbel3⟩
          case measure => simp [intOf]; omega
        · obtain ⟨j, hj⟩ : ∃ j, j = k - 1 := ⟨_, rfl⟩
          have hjk : k = j + 1 := by omega
          rw [← hj] at hwl HR ⊢
          have c0 := (hbr.cell hbB).trans (Reads.at_num hcell (k := j) (by omega))
          have c1 := (hbr.cell hbB).trans (Reads.at_num hcell (k := k) (by omega))
          have l0 := nth_lt l j
          have l1 := nth_lt l k
          have hk0 : ((k : Int) == 0) = false := by simp only [beq_eq_false_iff_ne, ne_eq]; omega
          have hqI2 : (k : Int) - 1 = (j : Int) := by omega
          have hwk : IntKind.i64.wrap (j : Int) = (j : Int) := IntWalk.i64_in _ (by omega)
          have hjl : j < l.length := by omega
          have HH2 : Hid (H = one l.length ++ one (nth l 0)) := Lib.hid (by rw [HH.out, if_neg (by omega)])
          have hklI : (k : Int) < (l.length : Int) := by omega
          rcases Nat.lt_or_ge (nth l j) (nth l k) with hlt2 | hge2
          · obtain ⟨d1, hd1⟩ : ∃ d1, d1 = nth l k - nth l j := ⟨_, rfl⟩
            obtain ⟨x, hx⟩ : ∃ x, x = d1 - 1 := ⟨_, rfl⟩
            have hgd : gap l j = x := by unfold gap; rw [← hjk, hx, hd1]
            have wr1 : IntKind.u64.wrap ((nth l k : Int) - (nth l j : Int)) = (d1 : Int) := (IntWalk.u64_in _ (by omega)).trans (by omega)
            have wr2 : IntKind.u64.wrap ((d1 : Int) - 1) = (x : Int) := (IntWalk.u64_in _ (by omega)).trans (by omega)
            have hxl : x < 18446744073709551616 := by omega
            have HN := Lib.hid (fun w => need_any x w hxl)
            have HR2 : Hid (Rises l k) := Lib.hid (fun i hi => by
              rcases Nat.lt_or_ge i j with h | h
              · exact HR.out i h
              · obtain rfl : i = j := by omega
                rw [← hjk]; exact hlt2)
            have HWD : Hid (width l k = max (width l j) (Go.Lib.bitLen x)) := Lib.hid (by rw [hjk, width, hgd])
            have hdd : decide ((nth l k : Int) ≤ (nth l j : Int)) = false := decide_eq_false (by omega)
            have hdn : decide (nth l k ≤ nth l j) = false := decide_eq_false (by omega)
            have HJ := Lib.hid hjk
            have hH1 : k + 1 - 1 = k := by omega
            have HHk : Hid (H = one l.length ++ (if k + 1 = 0 then [] else one (nth l 0))) := Lib.hid (by rw [if_neg (by omega)]; exact HH2.out)
            rcases Nat.lt_or_ge (width l j) (Go.Lib.bitLen x) with hw | hw
            · have hwe : Hid (width l k = Go.Lib.bitLen x) := Lib.hid (by rw [HWD.out]; omega)
              have hcI : decide ((width l j : Int) < (Go.Lib.bitLen x : Int)) = true := decide_eq_true (by omega)
              have hcN : decide (width l j < Go.Lib.bitLen x) = true := decide_eq_true hw
              clear hcell hj hjk hd1 hx hgd HR HH HWD
              go_wp2_with fail
              go_quiet (fail)
              go_wp2_with fail
              go_quiet (go_must (exact (HN.out _).mono fun _ _ h => ⟨h.1, _, h.2.symm⟩))
              go_wp2_with fail
              go_quiet (go_must (exact (HN.out _).mono fun _ _ h => ⟨h.1, _, h.2.symm⟩))
              go_wp2_with fail
              go_roundw
              case rel => exact ⟨k + 1, H, by omega, by go_num, by rw [hH1, hwe.out], by rw [hH1]; exact HR2, HHk, hown, below_drewN hbr⟩
              case measure => simp [intOf]; omega
            · have hwe : Hid (width l k = width l j) := Lib.hid (by rw [HWD.out]; omega)
              have hcI : decide ((width l j : Int) < (Go.Lib.bitLen x : Int)) = false := decide_eq_false (by omega)
              have hcN : decide (width l j < Go.Lib.bitLen x) = false := decide_eq_false (by omega)
              clear hcell hj hjk hd1 hx hgd HR HH HWD
              go_wp2_with fail
              go_quiet (fail)
              go_wp2_with fail
              go_quiet (go_must (exact (HN.out _).mono fun _ _ h => ⟨h.1, _, h.2.symm⟩))
              go_wp2_with fail
              go_roundw
              case rel => exact ⟨k + 1, H, by omega, by go_num, by rw [hH1, hwe.out], by rw [hH1]; exact HR2, HHk, hown, below_drewN hbr⟩
              case measure => simp [intOf]; omega
          · have HE : Hid (pack l = ([], 1)) := Lib.hid (by
              unfold pack
              rw [if_neg (by omega), if_pos (fun h => by have := h j (by omega); rw [← hjk] at this; omega)])
            have hdd : decide ((nth l k : Int) ≤ (nth l j : Int)) = true := decide_eq_true (by omega)
            have hdn : decide (nth l k ≤ nth l j) = true := decide_eq_true hge2
            clear hcell hj hjk HR HH
            go_wp2_with fail
            go_quiet (fail)
            go_wp2_with fail
            go_ret2
            rw [HE.out]
            exact bAns_err rfl (below_drewN hbr)
      · obtain rfl : l.length = k := by omega
        have hR := HR.out
        rcases Nat.lt_or_ge l.length 2 with h2 | h2
        · have HE : Hid (pack l = (H, 0)) := Lib.hid (by
            have hH := HH.out
            unfold pack
            rw [if_neg (by omega), if_neg (fun h => h hR)]
            rcases Nat.eq_zero_or_pos l.length with h0 | h0
            · rw [if_pos h0, hH, if_pos h0, h0, List.append_nil]
            · rw [if_neg (by omega), if_pos (by omega), hH, if_neg (by omega), show l.length = 1 by omega])
          have hd2 : decide ((l.length : Int) < 2) = true := decide_eq_true (by omega)
          clear HH HR hR h2
          go_wp2_with fail
          go_ret2
          rw [HE.out]
          exact ⟨_, rfl, hown, hbr⟩
        · obtain ⟨b, off, rfl, hbB, hcell⟩ := hr.at_ (k := 0) (by simp; omega)
          obtain ⟨k, hk2⟩ : ∃ k, k = l.length - 1 := ⟨_, rfl⟩
          rw [← hk2] at hwl hR ⊢
          obtain ⟨wd, hwd⟩ : ∃ wd, wd = width l k := ⟨_, rfl⟩
          rw [← hwd] at hwl ⊢
          have hkk : 1 ≤ k := by omega
          have hkl : k + 1 = l.length := by omega
          have hkw : k * wd ≤ 4194304 := by have : k * wd ≤ 65536 * 64 := Nat.mul_le_mul (by omega) hwl; omega
          have hps : k * wd ≤ 8 * packSize k wd := packSize_bits k wd
          have hpt : 8 * packSize k wd ≤ k * wd + 7 := by unfold packSize; omega
          have HE : Hid (pack l = (H ++ [UInt8.ofNat wd] ++ mkB (laid l wd k) (packSize k wd), 0)) := Lib.hid (by
            have hH := HH.out
            rw [if_neg (by omega)] at hH
            unfold pack
            rw [if_neg (by omega), if_neg (fun h => h (hk2 ▸ hR)), if_neg (by omega), if_neg (by omega), ← hk2, ← hwd, hH])
          have hH20 : H.length ≤ 20 := by
            have hH := HH.out
            have := one_len (nth l 0) (nth_lt l 0)
            rw [if_neg (by omega)] at hH
            rw [hH, List.length_append]; omega
          have hd2 : decide ((l.length : Int) < 2) = false := decide_eq_false (by omega)
          have HRs := Lib.hid hR
          have HCL : Hid (∀ w', Below B w w' → ∀ j, j < l.length → w'.cell? ⟨b, off + j, none⟩ = some (.int .u64 (nth l j : Int))) := Lib.hid (fun w' hb j hj => (hb.cell hbB).trans (Reads.at_num hcell hj))
          clear hk2 hwd hcell HH HR hR hk hge
          go_wp2_with (at_builtin; go_must (refine app1 rowByte rfl _ _ rfl _ B _ _ _ rfl (by exact hown) rfl rfl (by omega) (by omega) ?_))
          intro v4 w4 hown4 hg4
          have hbel4 := hg4.below hbr hown (by omega)
          have hs4 := hg4.by_.size
          have hs4' : B ≤ w4.heap.size := by omega
          rw [vb_lt (by omega), ← List.map_singleton (f := vb), ← List.map_append] at hown4
          obtain ⟨H2, hH2⟩ : ∃ H2, H2 = H ++ [UInt8.ofNat wd] := ⟨_, rfl⟩
          have hH2l : H.length + 1 = H2.length := by rw [hH2, List.length_append, List.length_singleton]
          rw [← hH2, hH2l] at hown4
          have HE3 : Hid (pack l = (H2 ++ mkB (laid l wd k) (packSize k wd), 0)) := Lib.hid (by rw [hH2]; exact HE.out)
          obtain ⟨A4, c4, rfl, -⟩ := own_slice hown4
          have hH2b : H2.length ≤ 21 := by omega
          clear hown hg4 hbr hH2 hH2l HE
          go_wp2_with fail
          go_loopw [7, 8] (fun bv i wr => ∃ j : Nat, j ≤ k ∧ i = .int .i64 (j + 1) ∧ wr.ownsRow w4.heap.size 5 1 bv (j * wd) ((bitsL (laid l wd k) (j * wd)).map vb) ∧ Below w4.heap.size w4 wr) (fun _ i _ => l.length + 1 - (intOf i).toNat)
          case atStart => exact ⟨0, Nat.zero_le _, rfl, by rw [Nat.zero_mul]; exact World.ownsRow_nil _ _ _ _, Below.refl _ _⟩
          case round =>
            obtain ⟨j, hj, rfl, hown, hbr⟩ := hrel
            have hsr := hbr.size
            obtain ⟨Ab, cb, rfl, -⟩ := own_slice hown
            have hbw := hbel4.trans (hbr.mono (by omega))
            have hle1 : j * wd ≤ k * wd := Nat.mul_le_mul_right _ hj
            rcases Nat.lt_or_ge j k with hlt | hge
            · obtain ⟨q, hq⟩ : ∃ q, q = j + 1 := ⟨_, rfl⟩
              have c0 := HCL.out wr hbw j (by omega)
              have c1 := HCL.out wr hbw q (by omega)
              have l0 := nth_lt l j
              have l1 := nth_lt l q
              have hris := HRs.out j hlt
              rw [← hq] at hris
              have hqI : (j : Int) + 1 = (q : Int) := by omega
              have hqI2 : (q : Int) - 1 = (j : Int) := by omega
              have hwj : IntKind.i64.wrap (j : Int) = (j : Int) := IntWalk.i64_in _ (by omega)
              obtain ⟨d1, hd1⟩ : ∃ d1, d1 = nth l q - nth l j := ⟨_, rfl⟩
              obtain ⟨x, hx⟩ : ∃ x, x = d1 - 1 := ⟨_, rfl⟩
              have hgd : gap l j = x := by unfold gap; rw [← hq, hx, hd1]
              have hxl := gap_lt l j
              rw [hgd] at hxl
              have wr1 : IntKind.u64.wrap ((nth l q : Int) - (nth l j : Int)) = (d1 : Int) := (IntWalk.u64_in _ (by omega)).trans (by omega)
              have wr2 : IntKind.u64.wrap ((d1 : Int) - 1) = (x : Int) := (IntWalk.u64_in _ (by omega)).trans (by omega)
              obtain ⟨P, hP⟩ : ∃ P, P = j * wd := ⟨_, rfl⟩
              have hle2 : (j + 1) * wd ≤ k * wd := Nat.mul_le_mul_right _ hlt
              have hqw : q * wd = P + wd := by rw [hq, Nat.add_mul, Nat.one_mul, hP]
              rw [Nat.add_mul, Nat.one_mul, ← hP] at hle2
              have HBIT : Hid (∀ t, t < wd → laid l wd k (P + t) = x.testBit t) := Lib.hid (fun t ht => by rw [hP, laid_at l wd k j t hlt ht, hgd])
              rw [← hP] at hown ⊢
              have hql : q < l.length := by omega
              have hjl : j < l.length := by omega
              have hqlI : (q : Int) < (l.length : Int) := by omega
              have HQ := Lib.hid hq
              have HQW := Lib.hid hqw
              clear hq hP hd1 hx hgd hris hle1 hqw
              go_wp2_with fail
              go_quiet (fail)
              have hownq : (wr.drewN nq).ownsRow w4.heap.size 5 1 (.slice Ab P cb) P ((bitsL (laid l wd k) P).map vb) := hown
              have hbrq := below_drewN (n := nq) hbr
              go_wp2_with fail
              simp only [hqI]
              go_loopw [7, 9, 10] (fun bv d t wi => ∃ s dd : Nat, s ≤ wd ∧ t = .int .i64 s ∧ d = .int .u64 dd ∧ dd ≤ x ∧ Hid (dd = x / 2 ^ s) ∧ wi.ownsRow w4.heap.size 5 1 bv (P + s) ((bitsL (laid l wd k) (P + s)).map vb) ∧ Below w4.heap.size w4 wi) (fun _ _ t _ => wd - (intOf t).toNat)
              case atStart => exact ⟨0, x, Nat.zero_le _, rfl, rfl, Nat.le_refl _, Lib.hid (by simp), hownq, hbrq⟩
              case round =>
                clear hown hbr hbw hownq hbrq c0 c1
                obtain ⟨s, dd, hs, rfl, rfl, hdx, HDD, hown, hbr⟩ := hrel
                obtain ⟨Ai, ci, rfl, -⟩ := own_slice hown
                have hsr2 := hbr.size
                rcases Nat.lt_or_ge s wd with hsl | hsg
                · go_wp2_with (at_builtin; go_must (refine app1k rowByte rfl _ _ rfl _ w4.heap.size _ _ _ rfl (by exact hown) _ rfl rfl rfl (by omega) (by omega) ?_))
                  intro v6 w6 hown6 hg6
                  have hb6 := hg6.below hbr hown (by omega)
                  have hrow : (bitsL (laid l wd k) (P + s)).map vb ++ [.int .u8 ((dd : Int) % 2)] = (bitsL (laid l wd k) (P + (s + 1))).map vb := by
                    rw [← Nat.add_assoc, bitsL_succ, List.map_append, HBIT.out s hsl]
                    congr 1
                    simp only [List.map_cons, List.map_nil, vb]
                    rw [bit_val, ← HDD.out]; simp
                  have hown7 : w6.ownsRow w4.heap.size 5 1 v6 (P + (s + 1)) ((bitsL (laid l wd k) (P + (s + 1))).map vb) := by
                    rw [← hrow, ← Nat.add_assoc]; exact hown6
                  have HD2 : Hid (dd / 2 = x / 2 ^ (s + 1)) := Lib.hid (by rw [HDD.out, Nat.pow_succ, Nat.div_div_eq_div_mul])
                  clear hown6 hg6 hown hbr hrow
                  go_wp2_with fail
                  go_roundw
                  case rel => exact ⟨s + 1, dd / 2, by omega, by go_num, by go_num, by omega, HD2, hown7, hb6⟩
                  case measure => simp [intOf]; omega
                · obtain rfl : wd = s := by omega
                  go_wp2_with fail
                  go_roundw
                  case rel => exact ⟨q, by omega, by go_num, by rw [HQW.out]; exact hown, hbr⟩
                  case measure => have := HQ.out; simp [intOf]; omega
            · obtain rfl : k = j := by omega
              have hF0 : ∀ i, k * wd ≤ i → laid l wd k i = false := fun i hi => by unfold laid; rw [if_neg (by omega)]
              have HF0 := Lib.hid hF0
              have hgI : ¬ ((k : Int) + 1 < (l.length : Int)) := by omega
              obtain ⟨P, hP⟩ : ∃ P, P = k * wd := ⟨_, rfl⟩
              obtain ⟨S, hS⟩ : ∃ S, S = packSize k wd := ⟨_, rfl⟩
              rw [← hP] at hown hle1 hps hpt hkw HF0 ⊢
              rw [← hS] at hps hpt HE3
              generalize laid l wd k = F at *
              clear hF0 hge hS hP HCL HRs
              go_wp2_with fail
              go_loopw [7] (fun bv wi => ∃ m : Nat, P ≤ m ∧ m ≤ 8 * S ∧ wi.ownsRow w4.heap.size 5 1 bv m ((bitsL F m).map vb) ∧ Below w4.heap.size w4 wi) (fun bv _ => 8 * S - sliceLen bv)
              case atStart => exact ⟨P, Nat.le_refl _, hps, hown, hbr⟩
              case round =>
                clear hown hbr hbw
                obtain ⟨m, hm1, hm2, hown, hbr⟩ := hrel
                have hsr2 := hbr.size
                obtain ⟨Ai, ci, rfl, -⟩ := own_slice hown
                rcases Nat.eq_zero_or_pos (m % 8) with h0 | hpos
                · have hm8 : 8 * S ≤ m := by omega
                  have hd8 : decide ((0 : Int) < (m : Int) % 8) = false := decide_eq_false (by omega)
                  have hd8b : ¬ ((0 : Int) < (m : Int) % 8) := by omega
                  have hout := own_past hown4 hbr (Nat.le_refl _)
                  have hbw := hbel4.trans (hbr.mono hs4')
                  have hap := (own_apart hown4 hown (Nat.le_refl _)).1
                  clear h0 hbr hown4 hbel4
                  go_wp2_with fail
                  go_loopw [4, 11] (fun v i wi => ∃ t z : Nat, t ≤ S ∧ Hid (z = 8 * t) ∧ i = .int .i64 z ∧ wi.ownsRow B 5 1 v (H2.length + t) ((H2 ++ mkB F t).map vb) ∧ wi.ownsRow w4.heap.size 5 1 (.slice Ai m ci) m ((bitsL F m).map vb) ∧ (Value.ownBlock (.slice Ai m ci) = none ∨ Value.ownBlock (.slice Ai m ci) ≠ v.ownBlock) ∧ Below B w wi) (fun _ i _ => m + 8 - (intOf i).toNat)
                  case atStart => exact ⟨0, 0, Nat.zero_le _, Lib.hid rfl, rfl, by simpa [mkB] using hout, hown, hap, hbw⟩
                  case round =>
                    clear hout hown hbw hap
                    obtain ⟨t, z, ht, HZ, rfl, hout, hown, hap, hbw⟩ := hrel
                    have hz := HZ.out
                    have hsr3 := hbw.size
                    obtain ⟨Ao, co, rfl, -⟩ := own_slice hout
                    rcases Nat.lt_or_ge t S with htl | htg
                    · have hzm : z < m := by omega
                      have hzm8 : z + 8 ≤ m := by omega
                      obtain ⟨gb, hA, -, -, -, hcl, -⟩ := own_store hown (by omega)
                      subst hA
                      have HCB : Hid (∀ q, q < m → wr.cell? ⟨gb, q, none⟩ = some (.int .u8 ((F q).toNat : Int))) := Lib.hid (fun q hq => by
                        rw [hcl q hq, List.getElem?_map, bitsL_get F m q hq]
                        cases F q <;> rfl)
                      clear hcl hz
                      go_wp2_with fail
                      go_loop [12, 13] (fun c y => ∃ (s : Nat) (yy : Int) (cc : Nat), s ≤ 8 ∧ Hid (yy = (s : Int) - 1) ∧ y = .int .i64 yy ∧ c = .int .u8 cc ∧ Hid (cc = getN F (z + s) (8 - s))) (fun _ y => (intOf y + 1).toNat)
                      case atStart => exact ⟨8, 7, 0, Nat.le_refl _, Lib.hid rfl, rfl, rfl, Lib.hid rfl⟩
                      case round =>
                        obtain ⟨s, yy, cc, hs, HY, rfl, rfl, HC⟩ := hrel
                        rcases Nat.eq_zero_or_pos s with hs0 | hsp
                        · subst hs0
                          have hyy : yy = -1 := by have := HY.out; omega
                          subst hyy
                          have hcc : cc = byteN F t := by rw [HC.out, Nat.add_zero, HZ.out]; exact getN8 F t
                          have hcl := byteN_lt F t
                          rw [← hcc] at hcl
                          have HCC := Lib.hid hcc
                          clear hcc
                          go_wp2_with (at_builtin; go_must (refine app1k rowByte rfl _ _ rfl _ B _ _ _ rfl (by exact hout) _ rfl rfl rfl (by omega) (by omega) ?_))
                          intro v6 w6 hown6 hg6
                          have hb6 := hg6.below hbw hout (by omega)
                          have hbits6 := hown.kept hg6.by_ hap
                          have hap6 : Value.ownBlock (.slice (some ⟨gb, 0, none⟩) m ci) = none ∨ Value.ownBlock (.slice (some ⟨gb, 0, none⟩) m ci) ≠ v6.ownBlock := by
                            rcases hg6.at_ with h | ⟨k', h, hk'⟩
                            · rw [h]; exact hap
                            · right
                              rw [h]
                              intro h2
                              have h3 : gb < wr.heap.size := (hown.lt gb rfl).2
                              have h4 : gb = k' := by simpa [Value.ownBlock] using h2
                              omega
                          have hrow : (H2 ++ mkB F t).map vb ++ [.int .u8 (cc : Int)] = (H2 ++ mkB F (t + 1)).map vb := by
                            rw [mkB_succ, ← List.append_assoc, List.map_append (l₁ := H2 ++ mkB F t)]
                            congr 1
                            simp only [List.map_cons, List.map_nil, vb]
                            rw [byteF_nat, ← HCC.out]
                          have hown7 : w6.ownsRow B 5 1 v6 (H2.length + (t + 1)) ((H2 ++ mkB F (t + 1)).map vb) := by
                            rw [← hrow, ← Nat.add_assoc, List.map_append, List.append_assoc]; exact hown6
                          clear hown6 hg6 hout hown hbw hrow
                          go_wp2_with fail
                          go_roundw
                          case rel => exact ⟨t + 1, z + 8, by omega, Lib.hid (by have := HZ.out; omega), by go_num, hown7, hbits6, hap6, hb6⟩
                          case measure => simp [intOf]; omega
                        · obtain ⟨s', hs'⟩ : ∃ s', s = s' + 1 := ⟨s - 1, by omega⟩
                          have hyy : yy = (s' : Int) := by have := HY.out; omega
                          subst hyy
                          obtain ⟨q, hq⟩ : ∃ q, q = z + s' := ⟨_, rfl⟩
                          have hqI : (z : Int) + (s' : Int) = (q : Int) := by omega
                          have hqm : q < m := by omega
                          have hcell := HCB.out q hqm
                          have hlow : getN F (z + s') (8 - s') = (F q).toNat + 2 * cc := by
                            rw [show 8 - s' = (8 - (s' + 1)) + 1 by omega, getN_low, HC.out, hs', hq, Nat.add_assoc]
                          have hcl : cc < 2 ^ (8 - s) := by rw [HC.out]; exact getN_lt _ _ _
                          have hc2 : 2 ^ (8 - s) ≤ 2 ^ 7 := Nat.pow_le_pow_right (by omega) (by omega)
                          have hbb := Bool.toNat_le (F q)
                          have hc127 : cc ≤ 127 := by omega
                          generalize (F q).toNat = bb at hcell hlow hbb
                          have HLOW := Lib.hid hlow
                          have hs8 : s' ≤ 7 := by omega
                          clear hlow hq hs' hs hsp hcl hc2
                          go_wp2_with fail
                          go_round
                          case rel => exact ⟨s', (s' : Int) - 1, 2 * cc + bb, by omega, Lib.hid rfl, rfl, by first | rfl | go_num, Lib.hid (by first | (rw [HLOW.out]; done) | (rw [HLOW.out]; omega) | (have := HLOW.out; omega))⟩
                          case measure => simp [intOf]
                    · obtain rfl : S = t := by omega
                      have hzm : ¬ (z < m) := by omega
                      clear hz
                      go_wp2_with fail
                      go_ret2
                      rw [HE3.out]
                      exact ⟨_, rfl, by rw [List.length_append, mkB_len]; exact hout, hbw⟩
                · have hd8 : decide ((0 : Int) < (m : Int) % 8) = true := decide_eq_true (by omega)
                  have hd8b : (0 : Int) < (m : Int) % 8 := by omega
                  go_wp2_with (at_builtin; go_must (refine app1k rowByte rfl _ _ rfl _ w4.heap.size _ _ _ rfl (by exact hown) _ rfl rfl rfl (by omega) (by omega) ?_))
                  intro v6 w6 hown6 hg6
                  have hb6 := hg6.below hbr hown (by omega)
                  have hown7 : w6.ownsRow w4.heap.size 5 1 v6 (m + 1) ((bitsL F (m + 1)).map vb) := by
                    rw [bitsL_succ, HF0.out m hm1, List.map_append]; exact hown6
                  obtain ⟨A6, c6, rfl, -⟩ := own_slice hown7
                  clear hown6 hg6 hown hbr
                  go_wp2_with fail
                  go_roundw
                  case rel => exact ⟨m + 1, by omega, by omega, hown7, hb6⟩
                  case measure => simp [sliceLen]; omega
end Go.Proofs.Ytdjmjmbfaokdaaa
