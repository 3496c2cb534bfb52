/- The walk of pack.Pack. -/
import Derived.Test.YtdjmjmbfaokdaaaPackM
import Derived.Test.YtdjmjmbfaokdaaaPackG
import Derived.Test.YtdjmjmbfaokdaaaPutN
import Derived.Test.YtdjmjmbfaokdaaaMade
import Derived.Test.YtdjmjmbfaokdaaaLen64
import Derived.Test.YtdjmjmbfaokdaaaAppZ
namespace Go.Proofs.Ytdjmjmbfaokdaaa
set_option linter.unusedVariables false
open Go.RowKit
open Varm Pk

/-- What a packing answers. -/
def BAns (r : List UInt8 × Nat) (B : Nat) (w : World) (e : Ending) (w' : World) : Prop :=
  ∃ v, e = .returned (.tuple #[v, .int .i64 (r.2 : Int)]) ∧ w'.ownsRow B 5 1 v r.1.length (r.1.map vb) ∧ Below B w w'
theorem bAns_err {B : Nat} {w w' : World} {k : Int} {n : Nat} (h : k = (n : Int)) (hb : Below B w w') : BAns ([], n) B w (.returned (.tuple #[.slice none 0 0, .int .i64 k])) w' := by
  subst h
  exact ⟨_, rfl, World.ownsRow_nil _ _ _ _, hb⟩
theorem Reads.at_num {w : World} {b off : Nat} {l : List UInt64} (hc : ∀ j u, (l.map vq)[j]? = some u → w.cell? ⟨b, off + j, none⟩ = some u) {k : Nat} (hk : k < l.length) :
    w.cell? ⟨b, off + k, none⟩ = some (.int .u64 (nth l k : Int)) := by
  rw [Reads.num hc hk, nth, List.getD, List.getElem?_eq_getElem hk]; rfl

set_option maxHeartbeats 8000000 in
set_option maxRecDepth 100000 in
theorem pack_any (l : List UInt64) (A : Option Addr) (c : Nat) (w : World) (B : Nat) (hr : Reads w B A (l.map vq)) (hB : B ≤ w.heap.size) (hc : l.length ≤ c) (hl : l.length ≤ 140737488355328) :
    Calls Try.prog 20 #[.slice A l.length c] w (BAns (pack l) B w) := by
  rcases Nat.lt_or_ge 65536 l.length with hbig | hsm
  · have hE : pack l = ([], 3) := by unfold pack; rw [if_pos hbig]
    rw [hE]
    have hd : decide ((65536 : Int) < (l.length : Int)) = true := decide_eq_true (by omega)
    go_enter Try.func20, Try.ntmps20
    go_wp2
    go_ret2
    exact bAns_err rfl (Below.refl _ _)
  · have hd : decide ((65536 : Int) < (l.length : Int)) = false := decide_eq_false (by omega)
    go_enter Try.func20, Try.ntmps20
    go_wp2_with fail
    go_loopw [4, 5] (fun wd i wr => ∃ (k : Nat), (k = 0 ∨ k + 1 ≤ l.length) ∧ i = .int .i64 (k + 1) ∧ wd = .int .i64 (width l k : Nat) ∧ Hid (Rises l k) ∧ ∃ nn, wr = w.drewN nn) (fun _ i _ => l.length + 1 - (intOf i).toNat)
    case atStart => exact ⟨0, .inl rfl, rfl, rfl, Lib.hid (fun j hj => by omega), 0, rfl⟩
    case round =>
      obtain ⟨k, hk, rfl, rfl, HR, nn, rfl⟩ := hrel
      have hwl := width_le l k
      rcases Nat.lt_or_ge (k + 1) l.length with hlt | hge
      · obtain ⟨b, off, rfl, hbB, hcell⟩ := hr.at_ (k := 0) (by simp; omega)
        have c0 := Reads.at_num hcell (k := k) (by omega)
        have c1 := Reads.at_num hcell (k := k + 1) (by omega)
        have l0 := nth_lt l k
        have l1 := nth_lt l (k + 1)
        obtain ⟨q, hq⟩ : ∃ q, q = k + 1 := ⟨_, rfl⟩
        rw [← hq] at c1 l1 hlt
        have hqI : (k : Int) + 1 = (q : Int) := by omega
        have hqI2 : (q : Int) - 1 = (k : Int) := by omega
        have hwk : IntKind.i64.wrap (k : Int) = (k : Int) := IntWalk.i64_in _ (by omega)
        have hkl : k < l.length := by omega
        rcases Nat.lt_or_ge (nth l k) (nth l q) with hlt2 | hge2
        · obtain ⟨d1, hd1⟩ : ∃ d1, d1 = nth l q - nth l k := ⟨_, rfl⟩
          have hgd : gap l k = d1 - 1 := by unfold gap; rw [← hq, hd1]
          have wr1 : IntKind.u64.wrap ((nth l q : Int) - (nth l k : Int)) = (d1 : Int) := (IntWalk.u64_in _ (by omega)).trans (by omega)
          have hI1 : (nth l q : Int) - (nth l k : Int) = (d1 : Int) := by omega
          obtain ⟨g, hg⟩ : ∃ g, g = d1 - 1 := ⟨_, rfl⟩
          rw [← hg] at hgd
          have wr2 : IntKind.u64.wrap ((d1 : Int) - 1) = (g : Int) := (IntWalk.u64_in _ (by omega)).trans (by omega)
          have hI2 : (d1 : Int) - 1 = (g : Int) := by omega
          have hlen := fun w => len64_any (g : Int) w (by omega) (by omega)
          simp only [Int.toNat_natCast] at hlen
          have HLN := Lib.hid hlen
          have HR2 : Hid (Rises l q) := Lib.hid (fun j hj => by
            rcases Nat.lt_or_ge j k with h | h
            · exact HR.out j h
            · obtain rfl : j = k := by omega
              rw [← hq]; exact hlt2)
          have HWD : Hid (width l q = max (width l k) (Go.Lib.bitLen g)) := Lib.hid (by rw [hq, width, hgd])
          have hdd : decide ((nth l q : Int) ≤ (nth l k : Int)) = false := decide_eq_false (by omega)
          have hdn : decide (nth l q ≤ nth l k) = false := decide_eq_false (by omega)
          have HQ := Lib.hid hq
          clear hq hcell hlen hd1 hg hgd hI1 hI2
          go_wp2_with fail
          go_quiet (fail)
          go_wp2_with fail
          go_quiet (go_must (exact (HLN.out _).mono fun _ _ h => ⟨h.1, _, h.2⟩))
          go_wp2_with fail
          go_roundw
          case rel => exact ⟨q, .inr (by omega), rfl, by rw [HWD.out]; congr 1; omega, HR2, _, rfl⟩
          case measure => have := HQ.out; simp [intOf]; omega
        · have HE : Hid (pack l = ([], 1)) := Lib.hid (by
            unfold pack
            rw [if_neg (by omega), if_pos (fun h => by have := h k (by omega); rw [← hq] at this; omega)])
          have hdd : decide ((nth l q : Int) ≤ (nth l k : Int)) = true := decide_eq_true (by omega)
          have hdn : decide (nth l q ≤ nth l k) = true := decide_eq_true hge2
          have HQ := Lib.hid hq
          clear hq hcell
          go_wp2_with fail
          go_quiet (fail)
          go_wp2_with fail
          go_ret2
          rw [HE.out]
          exact bAns_err rfl (below_drewN (below_drewN (Below.refl _ _)))
      · have hk1 : k = l.length - 1 := by omega
        have hbW : Below B w (w.drewN nn) := below_drewN (Below.refl _ _)
        have hrW : Reads (w.drewN nn) B A (l.map vq) := hr.drewN nn
        have hsW : B ≤ (w.drewN nn).heap.size := hB
        have hW0 : w.heap.size = (w.drewN nn).heap.size := rfl
        generalize w.drewN nn = W at *
        have HRs : Hid (Rises l (l.length - 1)) := Lib.hid (hk1 ▸ HR.out)
        have HK1 := Lib.hid hk1
        clear HR hk1
        have ho1 := one_len l.length (by omega)
        rcases Nat.eq_zero_or_pos l.length with h0 | h0
        · have HE : Hid (pack l = (one l.length, 0)) := Lib.hid (by
            unfold pack
            rw [if_neg (by omega), if_neg (fun h => h HRs.out), if_pos h0, h0])
          have hg1 : ¬ ((k : Int) + 1 < (l.length : Int)) := by omega
          have hd0 : decide ((0 : Int) < (l.length : Int)) = false := decide_eq_false (by omega)
          have hd2 : decide ((l.length : Int) < 2) = true := decide_eq_true (by omega)
          have hn0 : ¬ (0 < l.length) := by omega
          have hn2 : l.length < 2 := by omega
          clear h0 hk hge hsm
          go_wp2_with fail
          refine (put1_at l.length (by omega) W W.heap.size rfl).mono ?_
          rintro e w1 ⟨v1, rfl, hown1, hb1⟩
          have hown1b := own_base hown1 (base' := B) (by omega)
          have hbel1 := hbW.trans (hb1.mono hsW)
          obtain ⟨A1, c1, rfl, -⟩ := own_slice hown1b
          clear hown1 hb1
          go_wp2_with fail
          go_ret2
          rw [HE.out]
          exact ⟨_, rfl, hown1b, hbel1⟩
        · obtain ⟨b, off, rfl, hbB, hcell⟩ := hrW.at_ (k := 0) (by simp; omega)
          have hd0 : decide ((0 : Int) < (l.length : Int)) = true := decide_eq_true (by omega)
          have n0l := nth_lt l 0
          rcases Nat.lt_or_ge l.length 2 with h2 | h2
          · have HE : Hid (pack l = (one l.length ++ one (nth l 0), 0)) := Lib.hid (by
              unfold pack
              rw [if_neg (by omega), if_neg (fun h => h HRs.out), if_neg (by omega), if_pos (by omega), show l.length = 1 by omega])
            have hg1 : ¬ ((k : Int) + 1 < (l.length : Int)) := by omega
            have hd2 : decide ((l.length : Int) < 2) = true := decide_eq_true (by omega)
            have hlen1 : l.length ≤ 1 := by omega
            clear hk hge hsm h2
            go_wp2_with fail
            refine (put1_at l.length (by omega) W W.heap.size rfl).mono ?_
            rintro e w1 ⟨v1, rfl, hown1, hb1⟩
            have hs1 := hb1.size
            have hown1b := own_base hown1 (base' := B) (by omega)
            have hbel1 := hbW.trans (hb1.mono hsW)
            obtain ⟨A1, c1, rfl, -⟩ := own_slice hown1b
            have c0 : w1.cell? ⟨b, off, none⟩ = some (.int .u64 (nth l 0 : Int)) := by
              have h := Reads.at_num hcell (k := 0) h0
              rw [Nat.add_zero] at h
              exact (hb1.cell (by show b < _; omega)).trans h
            clear hown1 hb1 hcell
            go_wp2_with fail
            refine (put1_at (nth l 0) n0l w1 w1.heap.size rfl).mono ?_
            rintro e w2 ⟨v2, rfl, hown2, hb2⟩
            have hs2 := hb2.size
            have ho2 := one_len (nth l 0) n0l
            have hown12 := own_past hown1b hb2 (Nat.le_refl _)
            have hbel2 := hbel1.trans (hb2.mono (by omega))
            obtain ⟨A2, c2, rfl, -⟩ := own_slice hown2
            have hr2 := Reads.of_own hown2
            clear hown1b hb2 hown2 hbel1 c0
            go_wp2_with (at_builtin; go_must (refine app rowByte rfl _ _ rfl B _ _ _ rfl (by exact hown12) w2.heap.size _ _ _ ((one (nth l 0)).map vb) rfl (by rw [List.length_map]) (by exact hr2) (oneCell_vb _) (by omega) (by omega) ?_))
            intro v3 w3 hown3 hg3
            have hbel3 := hg3.below hbel2 hown12 (by omega)
            rw [← List.map_append, ← List.length_append] at hown3
            clear hown12 hr2 hg3
            go_wp2_with fail
            go_ret2
            rw [HE.out]
            exact ⟨_, rfl, hown3, hbel3⟩
          · obtain rfl : k = l.length - 1 := HK1.out
            have hlk : ((l.length - 1 : Nat) : Int) + 1 = (l.length : Int) := by omega
            obtain ⟨k, hk2⟩ : ∃ k, k = l.length - 1 := ⟨_, rfl⟩
            rw [← hk2] at hlk HRs hwl ⊢
            obtain ⟨wd, hwd⟩ : ∃ wd, wd = width l k := ⟨_, rfl⟩
            have HGB : Hid (∀ j, j < k → gap l j < 2 ^ wd) := Lib.hid (fun j hj => hwd ▸ gap_bits l hj)
            rw [← hwd] at hwl ⊢
            have hkk : 1 ≤ k := by omega
            have hkl : k + 1 = l.length := by omega
            have HE : Hid (pack l = (one l.length ++ one (nth l 0) ++ [UInt8.ofNat wd] ++ mkB (laid l wd k) (packSize k wd), 0)) := Lib.hid (by
              unfold pack
              rw [if_neg (by omega), if_neg (fun h => h (hk2 ▸ HRs.out)), if_neg (by omega), if_neg (by omega), ← hk2, ← hwd])
            have hg1 : ¬ ((k : Int) + 1 < (l.length : Int)) := by omega
            have hd2 : decide ((l.length : Int) < 2) = false := decide_eq_false (by omega)
            have hps := packSize_le k wd (by omega) hwl
            have hpb := packSize_bits k wd
            have hkw : k * wd ≤ 1000000000000 := by have : k * wd ≤ 65536 * 64 := Nat.mul_le_mul (by omega) hwl; omega
            have HK1 := Lib.hid hk2
            have HWD := Lib.hid hwd
            clear hk2 hwd hk hge
            go_wp2_with fail
            refine (put1_at l.length (by omega) W W.heap.size rfl).mono ?_
            rintro e w1 ⟨v1, rfl, hown1, hb1⟩
            have hs1 := hb1.size
            have hown1b := own_base hown1 (base' := B) (by omega)
            have hbel1 := hbW.trans (hb1.mono hsW)
            obtain ⟨A1, c1, rfl, -⟩ := own_slice hown1b
            have c0 : w1.cell? ⟨b, off, none⟩ = some (.int .u64 (nth l 0 : Int)) := by
              have h := Reads.at_num hcell (k := 0) h0
              rw [Nat.add_zero] at h
              exact (hb1.cell (by show b < _; omega)).trans h
            have hcellN := hcell
            have HCL : Hid (∀ w', Below B W w' → ∀ j, j < l.length → w'.cell? ⟨b, off + j, none⟩ = some (.int .u64 (nth l j : Int))) := Lib.hid (fun w' hb j hj => (hb.cell hbB).trans (Reads.at_num hcellN hj))
            have hbW1 := hb1.mono hsW
            clear hown1 hb1 hcell hcellN
            go_wp2_with fail
            refine (put1_at (nth l 0) n0l w1 w1.heap.size rfl).mono ?_
            rintro e w2 ⟨v2, rfl, hown2, hb2⟩
            have hs2 := hb2.size
            have ho2 := one_len (nth l 0) n0l
            have hown12 := own_past hown1b hb2 (Nat.le_refl _)
            have hbW2 := hbW1.trans (hb2.mono (by omega))
            have hbel2 := hbel1.trans (hb2.mono (by omega))
            obtain ⟨A2, c2, rfl, -⟩ := own_slice hown2
            have hr2 := Reads.of_own hown2
            clear hown1b hb2 hown2 hbel1 c0 hbW1
            go_wp2_with (at_builtin; go_must (refine app rowByte rfl _ _ rfl B _ _ _ rfl (by exact hown12) w2.heap.size _ _ _ ((one (nth l 0)).map vb) rfl (by rw [List.length_map]) (by exact hr2) (oneCell_vb _) (by omega) (by omega) ?_))
            intro v3 w3 hown3 hg3
            have hbel3 := hg3.below hbel2 hown12 (by omega)
            have hbW3 := hg3.below hbW2 hown12 (by omega)
            have hs3 := hg3.by_.size
            rw [← List.map_append, ← List.length_append] at hown3
            obtain ⟨A3, c3, rfl, -⟩ := own_slice hown3
            have hhl : (one l.length ++ one (nth l 0)).length = (one l.length).length + (one (nth l 0)).length := List.length_append
            have hh20 : (one l.length ++ one (nth l 0)).length ≤ 20 := by omega
            clear hown12 hr2 hg3 hbel2 hbW2 hhl
            obtain ⟨H1, hH1⟩ : ∃ H1, H1 = one l.length ++ one (nth l 0) := ⟨_, rfl⟩
            have HE2 : Hid (pack l = (H1 ++ [UInt8.ofNat wd] ++ mkB (laid l wd k) (packSize k wd), 0)) := Lib.hid (by rw [hH1]; exact HE.out)
            rw [← hH1] at hown3 hh20 ⊢
            clear hH1 HE
            go_wp2_with (at_builtin; go_must (refine app1 rowByte rfl _ _ rfl _ B _ _ _ rfl (by exact hown3) rfl rfl (by omega) (by omega) ?_))
            intro v4 w4 hown4 hg4
            have hbel4 := hg4.below hbel3 hown3 (by omega)
            have hbW4 := hg4.below hbW3 hown3 (by omega)
            have hs4 := hg4.by_.size
            rw [vb_lt (by omega), ← List.map_singleton (f := vb), ← List.map_append] at hown4
            obtain ⟨H2, hH2⟩ : ∃ H2, H2 = H1 ++ [UInt8.ofNat wd] := ⟨_, rfl⟩
            have hH2l : H1.length + 1 = H2.length := by rw [hH2, List.length_append, List.length_singleton]
            rw [← hH2, hH2l] at hown4
            have HE3 : Hid (pack l = (H2 ++ mkB (laid l wd k) (packSize k wd), 0)) := Lib.hid (by rw [hH2]; exact HE2.out)
            obtain ⟨A4, c4, rfl, -⟩ := own_slice hown4
            have hH2b : H2.length ≤ 21 := by omega
            have hH2p : 1 ≤ H2.length := by omega
            have hklI : (l.length : Int) - 1 = (k : Int) := by omega
            clear hown3 hg4 hbel3 hbW3 hH2 hH2l HE2
            go_wp2_with fail
            refine (size_any k wd w4 hkw (by omega) (by omega)).mono ?_
            rintro e w4' ⟨rfl, rfl⟩
            go_wp2_with (at_builtin; go_must (refine appZ rfl _ _ rfl B _ _ _ rfl (by exact hown4) (packSize k wd) rfl (by omega) (by omega) ?_))
            intro v5 w5 hown5 hg5
            have hbel5 := hg5.below hbel4 hown4 (by omega)
            have hbW5 := hg5.below hbW4 hown4 (by omega)
            have hs5 := hg5.by_.size
            replace hown5 : w5.ownsRow B 5 1 v5 (H2.length + packSize k wd) ((H2 ++ mkB (laid l wd 0) (packSize k wd)).map vb) := by
              rw [laid_zero, mkB_false, List.map_append, List.map_replicate]; exact hown5
            obtain ⟨A5, c5, rfl, hc5, -⟩ := own_slice hown5
            clear hown4 hg5 hbel4 hbW4
            go_wp2_with fail
            obtain ⟨g, hA, hbg, hgl, -, -, -⟩ := own_store hown5 (by omega)
            subst hA
            rcases Nat.eq_zero_or_pos wd with hw0 | hwp
            · have HW00 := Lib.hid hw0
              clear hw0
              by_cases hce : c5 = H2.length
              · subst hce
                go_loopw [8] (fun i wr => ∃ j : Nat, j ≤ k ∧ i = .int .i64 (j + 1) ∧ wr.ownsRow B 5 1 (.slice (some ⟨g, 0, none⟩) (H2.length + packSize k wd) H2.length) (H2.length + packSize k wd) ((H2 ++ mkB (laid l wd j) (packSize k wd)).map vb) ∧ Below B w wr ∧ Below B W wr) (fun i _ => l.length + 1 - (intOf i).toNat)
                case atStart => exact ⟨0, Nat.zero_le _, rfl, hown5, hbel5, hbW5⟩
                case round =>
                  clear hown5 hbel5 hbW5
                  obtain ⟨j, hj, rfl, hown, hbr, hbWr⟩ := hrel
                  have hsr := hbr.size
                  rcases Nat.lt_or_ge j k with hlt | hge
                  · obtain ⟨q, hq⟩ : ∃ q, q = j + 1 := ⟨_, rfl⟩
                    have c0 := HCL.out wr hbWr j (by omega)
                    have c1 := HCL.out wr hbWr q (by omega)
                    have l0 := nth_lt l j
                    have l1 := nth_lt l q
                    have hris := HRs.out j hlt
                    rw [← hq] at hris
                    have hqI : (j : Int) + 1 = (q : Int) := by omega
                    have hqI2 : (q : Int) - 1 = (j : Int) := by omega
                    have hwj : IntKind.i64.wrap (j : Int) = (j : Int) := IntWalk.i64_in _ (by omega)
                    obtain ⟨d1, hd1⟩ : ∃ d1, d1 = nth l q - nth l j := ⟨_, rfl⟩
                    obtain ⟨x, hx⟩ : ∃ x, x = d1 - 1 := ⟨_, rfl⟩
                    have hgd : gap l j = x := by unfold gap; rw [← hq, hx, hd1]
                    have hxl := gap_lt l j
                    have hbits := HGB.out j hlt
                    rw [hgd] at hxl hbits
                    have wr1 : IntKind.u64.wrap ((nth l q : Int) - (nth l j : Int)) = (d1 : Int) := (IntWalk.u64_in _ (by omega)).trans (by omega)
                    have wr2 : IntKind.u64.wrap ((d1 : Int) - 1) = (x : Int) := (IntWalk.u64_in _ (by omega)).trans (by omega)
                    obtain ⟨P, hP⟩ : ∃ P, P = j * wd := ⟨_, rfl⟩
                    have hPI : (j : Int) * (wd : Int) = (P : Int) := by rw [hP, Int.natCast_mul]
                    have hle2 : (j + 1) * wd ≤ k * wd := Nat.mul_le_mul_right _ hlt
                    rw [Nat.add_mul, Nat.one_mul, ← hP] at hle2
                    have hlaid := laid_succ l wd j (by rw [hgd]; exact hbits)
                    rw [hgd, ← hP, ← hq] at hlaid
                    have hwP : IntKind.i64.wrap (P : Int) = (P : Int) := IntWalk.i64_in _ (by omega)
                    have hql : q < l.length := by omega
                    have hjl : j < l.length := by omega
                    have hf : ∀ i, P ≤ i → laid l wd j i = false := fun i hi => by unfold laid; rw [if_neg (by rw [← hP]; omega)]
                    have HF := Lib.hid hf
                    have HLD := Lib.hid hlaid
                    have HQ := Lib.hid hq
                    have hw0 := HW00.out
                    have HW0 : Hid (wd ≤ 0) := Lib.hid (by omega)
                    have hown0 : wr.drew.ownsRow B 5 1 (.slice (some ⟨g, 0, none⟩) (H2.length + packSize k wd) H2.length) (H2.length + packSize k wd) ((H2 ++ mkB (laid l wd q) (packSize k wd)).map vb) := by
                      have e : laid l wd q = laid l wd j := by rw [hw0]; exact laid_zero_w l q j
                      rw [e]; exact hown
                    have HOWN := Lib.hid hown0
                    have hbrd := hbr.drew
                    have hbWd := hbWr.drew
                    clear hf hlaid hq hP hd1 hx hgd hown hown0 hbr hbWr hris hbits hle2 HF HLD hw0 hps hpb
                    go_wp2_with fail
                    go_region_with (first
                      | (go_at_call 33; go_must (refine (put_none wd HW0.out _ _ _ _).mono ?_); rintro e w6 ⟨rfl, rfl⟩))
                    all_goals
                      go_wp2_with fail
                      go_roundw
                      case rel => exact ⟨q, by omega, by go_num, HOWN.out, hbrd, hbWd⟩
                      case measure => have := HQ.out; simp [intOf]; omega
                  · obtain rfl : k = j := by omega
                    go_wp2_with fail
                    go_ret2
                    rw [HE3.out]
                    exact ⟨_, rfl, by rw [List.length_append, mkB_len]; exact hown, hbr⟩
              · have hce2 := hce
                go_loopw [8] (fun i wr => ∃ j : Nat, j ≤ k ∧ i = .int .i64 (j + 1) ∧ wr.ownsRow B 5 1 (.slice (some ⟨g, 0, none⟩) (H2.length + packSize k wd) c5) (H2.length + packSize k wd) ((H2 ++ mkB (laid l wd j) (packSize k wd)).map vb) ∧ Below B w wr ∧ Below B W wr) (fun i _ => l.length + 1 - (intOf i).toNat)
                case atStart => exact ⟨0, Nat.zero_le _, rfl, hown5, hbel5, hbW5⟩
                case round =>
                  clear hown5 hbel5 hbW5
                  obtain ⟨j, hj, rfl, hown, hbr, hbWr⟩ := hrel
                  have hsr := hbr.size
                  rcases Nat.lt_or_ge j k with hlt | hge
                  · obtain ⟨q, hq⟩ : ∃ q, q = j + 1 := ⟨_, rfl⟩
                    have c0 := HCL.out wr hbWr j (by omega)
                    have c1 := HCL.out wr hbWr q (by omega)
                    have l0 := nth_lt l j
                    have l1 := nth_lt l q
                    have hris := HRs.out j hlt
                    rw [← hq] at hris
                    have hqI : (j : Int) + 1 = (q : Int) := by omega
                    have hqI2 : (q : Int) - 1 = (j : Int) := by omega
                    have hwj : IntKind.i64.wrap (j : Int) = (j : Int) := IntWalk.i64_in _ (by omega)
                    obtain ⟨d1, hd1⟩ : ∃ d1, d1 = nth l q - nth l j := ⟨_, rfl⟩
                    obtain ⟨x, hx⟩ : ∃ x, x = d1 - 1 := ⟨_, rfl⟩
                    have hgd : gap l j = x := by unfold gap; rw [← hq, hx, hd1]
                    have hxl := gap_lt l j
                    have hbits := HGB.out j hlt
                    rw [hgd] at hxl hbits
                    have wr1 : IntKind.u64.wrap ((nth l q : Int) - (nth l j : Int)) = (d1 : Int) := (IntWalk.u64_in _ (by omega)).trans (by omega)
                    have wr2 : IntKind.u64.wrap ((d1 : Int) - 1) = (x : Int) := (IntWalk.u64_in _ (by omega)).trans (by omega)
                    obtain ⟨P, hP⟩ : ∃ P, P = j * wd := ⟨_, rfl⟩
                    have hPI : (j : Int) * (wd : Int) = (P : Int) := by rw [hP, Int.natCast_mul]
                    have hle2 : (j + 1) * wd ≤ k * wd := Nat.mul_le_mul_right _ hlt
                    rw [Nat.add_mul, Nat.one_mul, ← hP] at hle2
                    have hlaid := laid_succ l wd j (by rw [hgd]; exact hbits)
                    rw [hgd, ← hP, ← hq] at hlaid
                    have hwP : IntKind.i64.wrap (P : Int) = (P : Int) := IntWalk.i64_in _ (by omega)
                    have hql : q < l.length := by omega
                    have hjl : j < l.length := by omega
                    have hf : ∀ i, P ≤ i → laid l wd j i = false := fun i hi => by unfold laid; rw [if_neg (by rw [← hP]; omega)]
                    have HF := Lib.hid hf
                    have HLD := Lib.hid hlaid
                    have HQ := Lib.hid hq
                    have hw0 := HW00.out
                    have HW0 : Hid (wd ≤ 0) := Lib.hid (by omega)
                    have hown0 : wr.drew.ownsRow B 5 1 (.slice (some ⟨g, 0, none⟩) (H2.length + packSize k wd) c5) (H2.length + packSize k wd) ((H2 ++ mkB (laid l wd q) (packSize k wd)).map vb) := by
                      have e : laid l wd q = laid l wd j := by rw [hw0]; exact laid_zero_w l q j
                      rw [e]; exact hown
                    have HOWN := Lib.hid hown0
                    have hbrd := hbr.drew
                    have hbWd := hbWr.drew
                    clear hf hlaid hq hP hd1 hx hgd hown hown0 hbr hbWr hris hbits hle2 HF HLD hw0 hps hpb
                    go_wp2_with fail
                    go_region_with (first
                      | (go_at_call 33; go_must (refine (put_none wd HW0.out _ _ _ _).mono ?_); rintro e w6 ⟨rfl, rfl⟩))
                    all_goals
                      go_wp2_with fail
                      go_roundw
                      case rel => exact ⟨q, by omega, by go_num, HOWN.out, hbrd, hbWd⟩
                      case measure => have := HQ.out; simp [intOf]; omega
                  · obtain rfl : k = j := by omega
                    go_wp2_with fail
                    go_ret2
                    rw [HE3.out]
                    exact ⟨_, rfl, by rw [List.length_append, mkB_len]; exact hown, hbr⟩
            · have hpos0 := hwp
              go_loopw [8] (fun i wr => ∃ j : Nat, j ≤ k ∧ i = .int .i64 (j + 1) ∧ wr.ownsRow B 5 1 (.slice (some ⟨g, 0, none⟩) (H2.length + packSize k wd) c5) (H2.length + packSize k wd) ((H2 ++ mkB (laid l wd j) (packSize k wd)).map vb) ∧ Below B w wr ∧ Below B W wr) (fun i _ => l.length + 1 - (intOf i).toNat)
              case atStart => exact ⟨0, Nat.zero_le _, rfl, hown5, hbel5, hbW5⟩
              case round =>
                clear hown5 hbel5 hbW5
                obtain ⟨j, hj, rfl, hown, hbr, hbWr⟩ := hrel
                have hsr := hbr.size
                rcases Nat.lt_or_ge j k with hlt | hge
                · obtain ⟨q, hq⟩ : ∃ q, q = j + 1 := ⟨_, rfl⟩
                  have c0 := HCL.out wr hbWr j (by omega)
                  have c1 := HCL.out wr hbWr q (by omega)
                  have l0 := nth_lt l j
                  have l1 := nth_lt l q
                  have hris := HRs.out j hlt
                  rw [← hq] at hris
                  have hqI : (j : Int) + 1 = (q : Int) := by omega
                  have hqI2 : (q : Int) - 1 = (j : Int) := by omega
                  have hwj : IntKind.i64.wrap (j : Int) = (j : Int) := IntWalk.i64_in _ (by omega)
                  obtain ⟨d1, hd1⟩ : ∃ d1, d1 = nth l q - nth l j := ⟨_, rfl⟩
                  obtain ⟨x, hx⟩ : ∃ x, x = d1 - 1 := ⟨_, rfl⟩
                  have hgd : gap l j = x := by unfold gap; rw [← hq, hx, hd1]
                  have hxl := gap_lt l j
                  have hbits := HGB.out j hlt
                  rw [hgd] at hxl hbits
                  have wr1 : IntKind.u64.wrap ((nth l q : Int) - (nth l j : Int)) = (d1 : Int) := (IntWalk.u64_in _ (by omega)).trans (by omega)
                  have wr2 : IntKind.u64.wrap ((d1 : Int) - 1) = (x : Int) := (IntWalk.u64_in _ (by omega)).trans (by omega)
                  obtain ⟨P, hP⟩ : ∃ P, P = j * wd := ⟨_, rfl⟩
                  have hPI : (j : Int) * (wd : Int) = (P : Int) := by rw [hP, Int.natCast_mul]
                  have hle2 : (j + 1) * wd ≤ k * wd := Nat.mul_le_mul_right _ hlt
                  rw [Nat.add_mul, Nat.one_mul, ← hP] at hle2
                  have hlaid := laid_succ l wd j (by rw [hgd]; exact hbits)
                  rw [hgd, ← hP, ← hq] at hlaid
                  have hwP : IntKind.i64.wrap (P : Int) = (P : Int) := IntWalk.i64_in _ (by omega)
                  have hql : q < l.length := by omega
                  have hjl : j < l.length := by omega
                  have hf : ∀ i, P ≤ i → laid l wd j i = false := fun i hi => by unfold laid; rw [if_neg (by rw [← hP]; omega)]
                  have HF := Lib.hid hf
                  have HLD := Lib.hid hlaid
                  have HQ := Lib.hid hq
                  have hpos : 1 ≤ packSize k wd := by
                    have : 1 * 1 ≤ k * wd := Nat.mul_le_mul hkk hwp
                    unfold packSize; omega
                  have hcne : ¬ c5 = H2.length := by omega
                  have HPUT := Lib.hid (fun w' (ho : w'.ownsRow B 5 1 (.slice (some ⟨g, 0, none⟩) (H2.length + packSize k wd) c5) (H2.length + packSize k wd) ((H2 ++ mkB (laid l wd j) (packSize k wd)).map vb)) => put_bits H2 (laid l wd j) (packSize k wd) P wd x g c5 (c5 - H2.length) w' B ho (by omega) hwl (by omega) (by omega) hxl (by omega) hf)
                  have hownd : wr.drew.ownsRow B 5 1 (.slice (some ⟨g, 0, none⟩) (H2.length + packSize k wd) c5) (H2.length + packSize k wd) ((H2 ++ mkB (laid l wd j) (packSize k wd)).map vb) := hown
                  have HOWN := Lib.hid hownd
                  have hbrd := hbr.drew
                  have hbWd := hbWr.drew
                  have hsB : B ≤ wr.drew.heap.size := show B ≤ wr.heap.size by omega
                  clear hf hlaid hq hP hd1 hx hgd hown hownd hbr hbWr hris hbits
                  go_wp2_with fail
                  go_region_with (first
                    | (go_at_call 33; go_must (refine (HPUT.out _ HOWN.out).mono ?_); rintro e w6 ⟨rfl, hown6, hg6⟩))
                  all_goals
                    have hb6 := hbrd.grown hg6 hsB (fun g' hg' => by injection hg' with hg'; omega)
                    have hbW6 := hbWd.grown hg6 hsB (fun g' hg' => by injection hg' with hg'; omega)
                    rw [HLD.out] at hown6
                    clear hg6
                    go_wp2_with fail
                    go_roundw
                    case rel => exact ⟨q, by omega, by go_num, hown6, hb6, hbW6⟩
                    case measure => have := HQ.out; simp [intOf]; omega
                · obtain rfl : k = j := by omega
                  go_wp2_with fail
                  go_ret2
                  rw [HE3.out]
                  exact ⟨_, rfl, by rw [List.length_append, mkB_len]; exact hown, hbr⟩
end Go.Proofs.Ytdjmjmbfaokdaaa
