/- LzLays: the walk of the law. -/
import Derived.Test.YtdjmjmbfaokdaaaAwake4
import Derived.Test.YtdjmjmbfaokdaaaLzBackM
namespace Go.Proofs.Ytdjmjmbfaokdaaa
set_option linter.unusedVariables false
open Go.RowKit
open Varm LPart

theorem lays_ok {b : List UInt8} {d k : Nat} (hb : b ≠ []) (hl : b.length ≤ 1000) (hd : 1 ≤ d) (hd2 : d ≤ b.length) (hk : 4 ≤ k) (hk2 : k ≤ 63) :
    expand (one (b.length + k) ++ one (2 * b.length) ++ b ++ (one (2 * k + 1) ++ one d)) ((b.length + k : Nat) : Int) = (copyTo b d k, 0) ∧
    (expand (one (b.length + k) ++ one (2 * b.length) ++ b ++ (one (2 * k + 1) ++ one d)) ((b.length : Int) + k - 1)).2 = 4 ∧
    (expand (one (b.length + k) ++ one (2 * b.length) ++ b ++ one (2 * k + 1) ++ one (b.length + 1)) ((b.length + k : Nat) : Int)).2 = 6 := by
  have hL : (copyTo b d k).length = b.length + k := copyTo_len b d k
  have hoks : oks (copyTo b d k).length [] [lit b, mat k d] := ⟨⟨hb, by rw [hL]; simp⟩, ⟨hk, hd, by simpa [LPart.put] using hd2, by rw [hL]; simp [LPart.put]⟩, trivial⟩
  have h1 := expand_encs (b := copyTo b d k) (ps := [lit b, mat k d]) (by omega) hoks (by simp [puts, LPart.put])
  have e1 : one (b.length + k) ++ one (2 * b.length) ++ b ++ (one (2 * k + 1) ++ one d) = one (copyTo b d k).length ++ encs [lit b, mat k d] := by rw [hL]; simp [encs, enc]
  have hg : ∀ r, getAt (one (b.length + k) ++ r) 0 = (b.length + k, ((one (b.length + k)).length : Int), 0) := fun r => by
    have := getAt_mid (pre := []) (rest := r) (n := b.length + k) (by omega)
    simpa using this
  refine ⟨by rw [e1, ← hL]; exact h1, ?_, ?_⟩
  · rw [List.append_assoc, List.append_assoc]
    unfold expand
    rw [hg, if_neg (by simp), if_pos (by simp only; omega)]
  · have hps := partsAt_encs (total := b.length + k) (by omega) [lit b] [] (one (b.length + k)) (one (2 * k + 1) ++ one (b.length + 1)) ((one (b.length + k) ++ (encs [lit b] ++ (one (2 * k + 1) ++ one (b.length + 1)))).length + 1) ⟨⟨hb, by simp⟩, trivial⟩ (by simp)
    have e2 : one (b.length + k) ++ one (2 * b.length) ++ b ++ one (2 * k + 1) ++ one (b.length + 1) = one (b.length + k) ++ (encs [lit b] ++ (one (2 * k + 1) ++ one (b.length + 1))) := by simp [encs, enc]
    rw [e2]
    unfold expand
    rw [hg, if_neg (by simp), if_neg (by simp only; omega)]
    simp only [Int.toNat_natCast]
    rw [hps]
    have hp1 := one_pos (2 * k + 1)
    have hp2 := one_pos (b.length + k)
    obtain ⟨g, hg2⟩ : ∃ g, (one (b.length + k) ++ (encs [lit b] ++ (one (2 * k + 1) ++ one (b.length + 1)))).length + 1 - [lit b].length = g + 1 := ⟨(one (b.length + k) ++ (encs [lit b] ++ (one (2 * k + 1) ++ one (b.length + 1)))).length - 1, by simp only [List.length_append, List.length_singleton]; omega⟩
    have hput : puts [] [lit b] = b := by simp [puts, LPart.put]
    have hbad : partAt b (one (b.length + k) ++ (encs [lit b] ++ (one (2 * k + 1) ++ one (b.length + 1)))) ((one (b.length + k)).length + (encs [lit b]).length) (b.length + k) = ([], 0, 6) := by
      have hg1 : getAt (one (b.length + k) ++ (encs [lit b] ++ (one (2 * k + 1) ++ one (b.length + 1)))) (((one (b.length + k)).length + (encs [lit b]).length : Nat) : Int) = (2 * k + 1, (((one (b.length + k) ++ encs [lit b]).length + (one (2 * k + 1)).length : Nat) : Int), 0) := by
        rw [← List.append_assoc]; exact getAt_midI (by omega) (by rw [List.length_append])
      have hg3 : getAt (one (b.length + k) ++ (encs [lit b] ++ (one (2 * k + 1) ++ one (b.length + 1)))) (((one (b.length + k) ++ encs [lit b]).length + (one (2 * k + 1)).length : Nat) : Int) = (b.length + 1, (((one (b.length + k) ++ encs [lit b] ++ one (2 * k + 1)).length + (one (b.length + 1)).length : Nat) : Int), 0) := by
        have e3 : one (b.length + k) ++ (encs [lit b] ++ (one (2 * k + 1) ++ one (b.length + 1))) = (one (b.length + k) ++ encs [lit b] ++ one (2 * k + 1)) ++ (one (b.length + 1) ++ []) := by simp
        rw [e3]; exact getAt_midI (by omega) (by simp only [List.length_append])
      unfold partAt
      rw [hg1]
      simp only
      rw [hg3]
      have h1 : (2 * k + 1) / 2 = k := by omega
      have h2 : (2 * k + 1) % 2 = 1 := by omega
      simp only [h1, h2]
      rw [if_neg (by simp), if_neg (by omega), if_neg (by simp), if_neg (by simp), if_pos (by omega)]
    rw [hg2, hput, partsAt, if_neg (by simp only [List.length_append]; omega), hbad, if_pos (by simp)]

set_option maxHeartbeats 1000000 in
set_option maxRecDepth 100000 in
theorem lzLays_any (b : List UInt8) (A : Option Addr) (c : Nat) (far n : Nat) (w : World) (hr : Reads w w.heap.size A (b.map vb)) (hl : b.length ≤ 1048576) (hfar : far ≤ 255) (hn : n ≤ 255) :
    Calls Try.prog 7 #[.slice A b.length c, .int .u8 (far : Int), .int .u8 (n : Int)] w fun e w' => e = .returned (.bool true) ∧ Below w.heap.size w w' := by
  rcases Nat.eq_zero_or_pos b.length with h0 | hpos
  · have hq : ((b.length : Int) == 0) = true := by simp only [beq_iff_eq]; omega
    go_enter Try.func7, Try.ntmps7
    go_wp2_with fail
    refine (awake4_any w).mono ?_
    rintro e w0 ⟨rfl, hb0⟩
    go_wp2_with fail
    go_ret
    exact ⟨rfl, hb0⟩
  · have hq : ((b.length : Int) == 0) = false := by simp only [beq_eq_false_iff_ne, ne_eq]; omega
    rcases Nat.lt_or_ge 1000 b.length with hbig | hsm
    · have hd : decide ((1000 : Int) < (b.length : Int)) = true := decide_eq_true (by omega)
      go_enter Try.func7, Try.ntmps7
      go_wp2_with fail
      refine (awake4_any w).mono ?_
      rintro e w0 ⟨rfl, hb0⟩
      go_wp2_with fail
      go_ret
      exact ⟨rfl, hb0⟩
    · have hd : decide ((1000 : Int) < (b.length : Int)) = false := decide_eq_false (by omega)
      go_enter Try.func7, Try.ntmps7
      go_wp2_with fail
      refine (awake4_any w).mono ?_
      rintro e w0 ⟨rfl, hb0⟩
      have hs0 := hb0.size
      go_wp2_with (at_builtin; go_must (refine app rowByte rfl (.tmp 39) (.tmp 40) rfl w0.heap.size _ _ _ rfl (World.ownsRow_lit (size := 1) w0 #[] 0 (Nat.le_refl _) (by decide) rfl) w.heap.size _ _ _ (b.map vb) rfl (by simp) (by exact (hr.below hb0).alloc hs0 _) (oneCell_vb _) (by omega) (by simp) ?_))
      intro v2 w2 hown2 hg2
      have hl0 := World.ownsRow_lit (base := w0.heap.size) (e := 5) (size := 1) w0 #[] 0 (Nat.le_refl _) (by decide) rfl
      have hb2 : Below w0.heap.size w0 w2 := hg2.below ((Below.refl w0.heap.size w0).alloc (Nat.le_refl _) _) hl0 (by simp)
      clear hg2 hl0
      obtain ⟨K, hK, hK4, hK63⟩ : ∃ K : Nat, (n : Int) % 60 + 4 = (K : Int) ∧ 4 ≤ K ∧ K ≤ 63 := ⟨n % 60 + 4, by omega, by omega, by omega⟩
      obtain ⟨D, hD, hD1, hD2⟩ : ∃ D : Nat, wrap64 ((far : Int) % (b.length : Int) + 1) = (D : Int) ∧ 1 ≤ D ∧ D ≤ b.length := by
        have h := Nat.mod_lt far hpos
        refine ⟨far % b.length + 1, ?_, by omega, by omega⟩
        rw [← Int.natCast_emod]
        unfold wrap64
        omega
      obtain ⟨lay1, lay2, lay3⟩ := lays_ok (b := b) (d := D) (k := K) (by intro h; rw [h] at hpos; simp at hpos) hsm hD1 hD2 hK4 hK63
      have L1 := Lib.hid lay1
      have L2 := Lib.hid lay2
      have L3 := Lib.hid lay3
      clear lay1 lay2 lay3
      have hDS : ∀ k, (copyTo b D k).getD ((copyTo b D k).length - D) 0 = (copyTo b D k).getD (b.length - D + k) 0 := fun k => copyTo_start b D (by omega) (by omega) k
      go_wp2_with fail
      simp only [hK, hD]
      clear hK hD
      go_loopw [9, 10] (fun v i wr => ∃ k : Nat, k ≤ K ∧ i = .int .i64 k ∧ wr.ownsRow w0.heap.size 5 1 v (copyTo b D k).length ((copyTo b D k).map vb) ∧ Below w0.heap.size w0 wr) (fun _ i _ => K - (intOf i).toNat)
      case atStart => exact ⟨0, Nat.zero_le _, rfl, by simpa [copyTo] using hown2, hb2⟩
      case round =>
        clear hown2 hb2
        obtain ⟨k, hk, rfl, hown, hbr⟩ := hrel
        have hsr2 := hbr.size
        obtain ⟨A2, c2, rfl, -⟩ := own_slice hown
        have hlen := copyTo_len b D k
        rcases Nat.lt_or_ge k K with hkl | hkg
        · obtain ⟨g, hA, hbg, hlg, hfz, hcl, -⟩ := own_store hown (by omega)
          cases hA
          have e := hcl (b.length - D + k) (by omega)
          have HJ : Hid (copyTo b D (k + 1) = copyTo b D k ++ [(copyTo b D k).getD (b.length - D + k) 0]) := Lib.hid (by rw [copyTo, hDS k])
          clear hDS
          generalize copyTo b D k = G at hown hlen HJ e
          have e2 : wr.cell? ⟨g, b.length - D + k, none⟩ = some (.int .u8 ((G.getD (b.length - D + k) 0).toNat : Int)) := by
            refine e.trans ?_
            rw [List.getElem?_map, List.getElem?_eq_getElem (by omega), List.getD, List.getElem?_eq_getElem (by omega)]; rfl
          clear e hcl hfz
          generalize G.getD (b.length - D + k) 0 = x at HJ e2
          have hdk : (D : Int) ≤ (b.length : Int) + (k : Int) := by omega
          have hdb : (D : Int) ≤ (b.length : Int) := by omega
          go_wp2_with (at_builtin; go_must (refine app1c rowByte rfl _ _ rfl _ w0.heap.size _ _ _ rfl (by exact hown) _ rfl rfl rfl (by omega) (by omega) ?_))
          intro v2 w2 hown2 hg2
          have hb2 := hg2.below (e := 5) (n := G.length) (xs := G.map vb) hbr (by first | exact hown | (rw [← hlen]; exact hown)) (by omega)
          clear hg2 hown hbr e2
          go_wp2_with fail
          go_roundw
          case rel => exact ⟨k + 1, by omega, by go_num, by rw [HJ.out, List.length_append, List.map_append]; first | exact hown2 | (rw [hlen]; exact hown2), hb2⟩
          case measure => simp [intOf]; omega
        · obtain rfl : K = k := by omega
          clear hDS
          have hm1 := one_len (b.length + K) (by omega)
          have hm2 := one_len (2 * b.length) (by omega)
          have hm3 := one_len (2 * K + 1) (by omega)
          have hm4 := one_len D (by omega)
          have hm5 := one_len (b.length + 1) (by omega)
          have hb3 := hb0.trans (hbr.mono hs0)
          generalize copyTo b D K = G at *
          rw [hlen] at hown ⊢
          have HLEN := Lib.hid hlen
          clear hbr hlen
          have hrb := hr.below hb3
          have hsw := hb3.size
          have hwr := hb0.size
          clear hb0
          go_wp2_with fail
          have hP := put2_at (b.length + K) (2 * b.length) (by omega) (by omega) wr wr.heap.size rfl
          rw [show ((b.length + K : Nat) : Int) = (b.length : Int) + (K : Int) by omega, show ((2 * b.length : Nat) : Int) = 2 * (b.length : Int) by omega] at hP
          refine hP.mono ?_
          rintro e w3 ⟨v3, rfl, hown3, hb4⟩
          clear hP
          have hs3 := hb4.size
          have hG3 := own_past hown hb4 (Nat.le_refl _)
          have hr3 := hrb.below (hb4.mono (by omega))
          have hb5 := hb3.trans (hb4.mono (by omega))
          have hC1 : (one (b.length + K) ++ one (2 * b.length)).length ≤ 20 := by rw [List.length_append]; omega
          generalize hP1 : one (b.length + K) ++ one (2 * b.length) = P1 at *
          have hown3b := own_base hown3 (base' := wr.heap.size) (by omega)
          have ap3 := (own_apart hown hown3b (Nat.le_refl _)).2
          clear hrb hb4 hb3 hown3
          go_wp2_with (at_builtin; go_must (refine app rowByte rfl _ _ rfl wr.heap.size _ _ _ rfl (by exact hown3b) w.heap.size _ _ _ (b.map vb) rfl (by simp) (by exact hr3) (oneCell_vb _) (by omega) (by omega) ?_))
          intro v4 w4 hown4 hg4
          have hb6 := hg4.below (hb5) (own_base hown3b (by omega)) (by omega)
          have hs4 := hg4.by_.size
          have hG4 := hG3.kept hg4.by_ ap3
          have ap4 := (own_apart hown hown4 (Nat.le_refl _)).2
          have hC2 : (P1 ++ b).length = P1.length + b.length := List.length_append
          have hown4b : w4.ownsRow wr.heap.size 5 1 v4 (P1 ++ b).length ((P1 ++ b).map vb) := by rw [hC2, List.map_append]; exact hown4
          obtain ⟨A4, c4, rfl, -⟩ := own_slice hown4b
          obtain ⟨P2, hP2⟩ : ∃ P2, P2 = P1 ++ b := ⟨_, rfl⟩
          rw [← hP2] at hown4b hC2 ap4
          have HP2 := Lib.hid hP2
          have hC2a : P2.length ≤ 1020 := by omega
          have hC2b : b.length ≤ P2.length := by omega
          clear hP2 hC2 hown4 hg4 hown3b hG3 hb5 hr3 ap3
          rw [← HP2.out]
          go_wp2_with fail
          have hP := put2_at (2 * K + 1) D (by omega) (by omega) w4 w4.heap.size rfl
          rw [show ((2 * K + 1 : Nat) : Int) = 2 * (K : Int) + 1 by omega] at hP
          refine hP.mono ?_
          rintro e w5 ⟨v5, rfl, hown5, hb7⟩
          clear hP
          have hs5 := hb7.size
          have hG5 := own_past hG4 hb7 (Nat.le_refl _)
          have hC5 := own_past hown4b hb7 (Nat.le_refl _)
          have hb8 := hb6.trans (hb7.mono (by omega))
          have hMl : (one (2 * K + 1) ++ one D).length = (one (2 * K + 1)).length + (one D).length := List.length_append
          obtain ⟨M, hM⟩ : ∃ M, M = one (2 * K + 1) ++ one D := ⟨_, rfl⟩
          rw [← hM] at hown5 hMl
          have HM := Lib.hid hM
          have HMl := Lib.hid hMl
          have hM20 : M.length ≤ 20 := by omega
          obtain ⟨A5, c5, rfl, -⟩ := own_slice hown5
          have hrM := Reads.of_own hown5
          clear hM hMl hG4 hown4b hb6 hb7 hown5
          go_wp2_with (at_builtin; go_must (refine app rowByte rfl _ _ rfl wr.heap.size _ _ _ rfl (by exact hC5) w5.heap.size _ _ _ (M.map vb) rfl (by rw [List.length_map]) (by exact hrM) (oneCell_vb _) (by omega) (by omega) ?_))
          intro v6 w6 hown6 hg6
          have hs6 := hg6.by_.size
          have hb9 := hg6.below hb8 (own_base hC5 (by omega)) (by omega)
          have hG6 := hG5.kept hg6.by_ ap4
          have hC6 : (P2 ++ M).length = P2.length + M.length := List.length_append
          have hown6b : w6.ownsRow wr.heap.size 5 1 v6 (P2 ++ M).length ((P2 ++ M).map vb) := by rw [hC6, List.map_append]; exact hown6
          obtain ⟨C, hC⟩ : ∃ C, C = P2 ++ M := ⟨_, rfl⟩
          rw [← hC] at hown6b hC6
          have hCb : C.length ≤ 1040 := by omega
          have hCM : M.length ≤ C.length := by omega
          have HL1 : Hid (expand C ((b.length : Int) + (K : Int)) = (G, 0)) := Lib.hid (by
            have h := L1.out
            rw [Int.natCast_add] at h
            rw [hC, HM.out, HP2.out]; exact h)
          have HL2 : Hid ((expand C ((b.length : Int) + (K : Int) - 1)).2 = 4) := Lib.hid (by
            rw [hC, HM.out, HP2.out]; exact L2.out)
          have HTK : Hid (C.take (C.length - (one D).length) = P2 ++ one (2 * K + 1)) := Lib.hid (by
            have h1 := HMl.out
            rw [hC6, hC, HM.out, ← List.append_assoc, List.take_left' (by simp only [List.length_append]; omega)])
          have HTL : Hid (C.length - (one D).length = (P2 ++ one (2 * K + 1)).length) := Lib.hid (by
            have h1 := HMl.out
            rw [hC6, List.length_append]; omega)
          obtain ⟨A6, c6, rfl, hc6, hm6, -⟩ := own_slice hown6b
          unfold maxLen at hm6
          have HDM : (one D).length ≤ M.length := by have := HMl.out; omega
          clear hC hC6 hown6 hg6 hC5 hG5 hb8 hrM ap4 HMl
          go_wp2_with fail
          have h1 := expand_any C A6 c6 ((b.length : Int) + (K : Int)) w6 w6.heap.size (Reads.of_own hown6b) (Nat.le_refl _) hc6 hm6 (by omega) (by omega)
          rw [HL1.out] at h1
          refine h1.mono ?_
          rintro e w7 ⟨v7, rfl, hown7, hb10⟩
          clear h1
          rw [HLEN.out] at hown7
          obtain ⟨A7, c7, rfl, -⟩ := own_slice hown7
          have hs7 := hb10.size
          have hC7 := own_past hown6b hb10 (Nat.le_refl _)
          have hG7 := own_past hG6 hb10 (Nat.le_refl _)
          have hb11 := hb9.trans (hb10.mono (by omega))
          clear hown6b hG6 hb9 hb10
          simp only [castZero]
          go_wp2_with fail
          have h1 := expand_any C A6 c6 ((b.length : Int) + (K : Int) - 1) w7 w7.heap.size (Reads.of_own hC7) (Nat.le_refl _) hc6 hm6 (by omega) (by omega)
          unfold ExpAns at h1
          rw [HL2.out] at h1
          refine h1.mono ?_
          rintro e w8 ⟨v8, rfl, hown8, hb12⟩
          clear h1
          have hs8 := hb12.size
          have hC8 := own_past hC7 hb12 (Nat.le_refl _)
          have hG8 := own_past hG7 hb12 (Nat.le_refl _)
          have hX8 := own_past hown7 hb12 (Nat.le_refl _)
          have hb13 := hb11.trans (hb12.mono (by omega))
          clear hC7 hG7 hown7 hown8 hb11 hb12
          go_wp2_with fail
          have hl0 := World.ownsRow_lit (base := w8.heap.size) (e := 5) (size := 1) w8 #[] 0 (Nat.le_refl _) (by decide) rfl
          have hP := put1_at D (by omega) (w8.alloc (.cells #[] 5)) (w8.heap.size + 1) (by simp)
          refine hP.mono ?_
          rintro e w9 ⟨v9, rfl, hown9, hb14⟩
          clear hP
          have hs9 := hb14.size
          rw [World.size_alloc] at hs9
          have hl9 := own_past hl0 hb14 (by simp)
          have hb15 := (hb13.alloc (by omega) (.cells #[] 5)).trans (hb14.mono (by simp; omega))
          have hC9 := own_past (hC8.alloc _) hb14 (by simp)
          have hG9 := own_past (hG8.alloc _) hb14 (by simp)
          have hX9 := own_past (hX8.alloc _) hb14 (by simp)
          obtain ⟨A9, c9, rfl, -⟩ := own_slice hown9
          have hrC : Reads w9 w9.heap.size A6 ((P2 ++ one (2 * K + 1)).map vb) := by
            rw [← HTK.out, List.map_take]
            exact (Reads.of_own hC9).take _
          have hPl : (P2 ++ one (2 * K + 1)).length ≤ 1040 := by rw [List.length_append]; omega
          have hsubI : (((one D).length : Nat) : Int) ≤ (C.length : Int) := by omega
          have hsubN : (one D).length ≤ C.length := by omega
          have hTL := HTL.out
          have L3' : Hid ((expand (P2 ++ one (2 * K + 1) ++ one (b.length + 1)) ((b.length : Int) + (K : Int))).2 = 6) := Lib.hid (by
            have h := L3.out
            rw [Int.natCast_add] at h
            rw [HP2.out]; exact h)
          generalize P2 ++ one (2 * K + 1) = P3 at *
          have hG0 := hG8
          have hX0 := hX8
          have hap9 := (own_apart hG8 hl9 (Nat.le_refl _)).2
          have hap9x := (own_apart hX8 hl9 (Nat.le_refl _)).2
          clear hl0 hown9 hb13 hb14 hC8 hG8 hX8
          go_wp2_with (at_builtin; go_must (refine app rowByte rfl (.tmp 96) (.tmp 106) rfl w8.heap.size _ _ _ rfl (by exact hl9) w9.heap.size _ _ _ (P3.map vb) rfl (by first | (rw [List.length_map]; done) | (rw [List.length_map, hTL]) | (rw [List.length_map]; omega)) (by exact hrC) (oneCell_vb _) (by omega) (by omega) ?_))
          intro v10 w10 hown10 hg10
          have hs10 := hg10.by_.size
          have hb16 := hg10.below hb15 (own_base hl9 (by omega)) (by omega)
          have hG10 := hG9.kept hg10.by_ hap9
          have hX10 := hX9.kept hg10.by_ hap9x
          have hown10b : w10.ownsRow w8.heap.size 5 1 v10 P3.length (P3.map vb) := by simpa using hown10
          have hap10 := (own_apart hG0 hown10b (by omega)).2
          have hap10x := (own_apart hX0 hown10b (by omega)).2
          obtain ⟨A10, c10, rfl, -⟩ := own_slice hown10b
          clear hown10 hg10 hG9 hX9 hl9 hb15 hrC hC9
          go_wp2_with fail
          have hP := put1_at (b.length + 1) (by omega) w10 w10.heap.size rfl
          rw [show ((b.length + 1 : Nat) : Int) = (b.length : Int) + 1 by omega] at hP
          refine hP.mono ?_
          rintro e w11 ⟨v11, rfl, hown11, hb17⟩
          clear hP
          have hs11 := hb17.size
          have hG11 := own_past hG10 hb17 (Nat.le_refl _)
          have hX11 := own_past hX10 hb17 (Nat.le_refl _)
          have hF11 := own_past hown10b hb17 (Nat.le_refl _)
          have hb18 := hb16.trans (hb17.mono (by omega))
          obtain ⟨A11, c11, rfl, -⟩ := own_slice hown11
          have hr11 := Reads.of_own hown11
          clear hown10b hG10 hX10 hb16 hb17 hown11
          go_wp2_with (at_builtin; go_must (refine app rowByte rfl _ _ rfl w8.heap.size _ _ _ rfl (by exact hF11) w11.heap.size _ _ _ ((one (b.length + 1)).map vb) rfl (by rw [List.length_map]) (by exact hr11) (oneCell_vb _) (by omega) (by omega) ?_))
          intro v12 w12 hown12 hg12
          have hs12 := hg12.by_.size
          have hb19 := hg12.below hb18 (own_base hF11 (by omega)) (by omega)
          have hG12 := hG11.kept hg12.by_ hap10
          have hX12 := hX11.kept hg12.by_ hap10x
          have hFl : (P3 ++ one (b.length + 1)).length = P3.length + (one (b.length + 1)).length := List.length_append
          have hown12b : w12.ownsRow w8.heap.size 5 1 v12 (P3 ++ one (b.length + 1)).length ((P3 ++ one (b.length + 1)).map vb) := by rw [hFl, List.map_append]; exact hown12
          obtain ⟨A12, c12, rfl, hc12, hm12, -⟩ := own_slice hown12b
          unfold maxLen at hm12
          clear hown12 hg12 hG11 hX11 hF11 hr11 hb18
          obtain ⟨F, hF⟩ : ∃ F, F = P3 ++ one (b.length + 1) := ⟨_, rfl⟩
          have HL3 := L3'.out
          rw [← hF] at hown12b hc12 HL3 ⊢
          clear hF hFl
          go_wp2_with fail
          have h1 := expand_any F A12 c12 ((b.length : Int) + (K : Int)) w12 w12.heap.size (Reads.of_own hown12b) (Nat.le_refl _) hc12 hm12 (by omega) (by omega)
          unfold ExpAns at h1
          rw [HL3] at h1
          refine h1.mono ?_
          rintro e w13 ⟨v13, rfl, hown13, hb20⟩
          clear h1
          have hG13 := own_past hG12 hb20 (Nat.le_refl _)
          have hX13 := own_past hX12 hb20 (Nat.le_refl _)
          have HB := Lib.hid (hb19.trans (hb20.mono (by omega)))
          have s1 := run_str (c := c2) (Reads.of_own hG13) HLEN.out
          have s2 := run_str (c := c7) (Reads.of_own hX13) HLEN.out
          clear hG12 hX12 hG13 hX13 hown13 hb19 hb20 hown12b
          go_wp2
          go_ret
          exact ⟨rfl, HB.out⟩

/-- .. at the arguments as they came in. -/
theorem lzLays_int (b : List UInt8) (A : Option Addr) (c : Nat) (far n : Int) (w : World) (hr : Reads w w.heap.size A (b.map vb)) (hl : b.length ≤ 1048576) (hfar : 0 ≤ far ∧ far ≤ 255) (hn : 0 ≤ n ∧ n ≤ 255) :
    Calls Try.prog 7 #[.slice A b.length c, .int .u8 far, .int .u8 n] w fun e w' => e = .returned (.bool true) ∧ Below w.heap.size w w' := by
  have h := lzLays_any b A c far.toNat n.toNat w hr hl (by omega) (by omega)
  rw [show ((far.toNat : Nat) : Int) = far by omega, show ((n.toNat : Nat) : Int) = n by omega] at h
  exact h
end Go.Proofs.Ytdjmjmbfaokdaaa
