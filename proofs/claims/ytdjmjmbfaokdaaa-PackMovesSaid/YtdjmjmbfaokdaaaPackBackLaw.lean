/- PackBack: the walk of the law. -/
import Derived.Test.YtdjmjmbfaokdaaaPackBackM
import Derived.Test.YtdjmjmbfaokdaaaPackReadsLaw
import Derived.Deep.QuietTactic
import Derived.BigQuiet
namespace Go.Proofs.Ytdjmjmbfaokdaaa
set_option linter.unusedVariables false
open Go.RowKit
open Varm Pk

theorem castZ : ((0 : Nat) : Int) = 0 := rfl
theorem pack_len {l : List UInt64} {c : List UInt8} (h : pack l = (c, 0)) : c.length ≤ 600000 := by
  obtain ⟨hl, -, hc⟩ := pack_ok h
  have h1 := one_len l.length (by omega)
  have h2 := one_len (nth l 0) (nth_lt l 0)
  have h3 := one_len 0 (by omega)
  have h4 := one_len 1 (by omega)
  have h5 := packSize_le (l.length - 1) (width l (l.length - 1)) (by omega) (width_le l _)
  rw [hc]
  split
  · omega
  · split
    · rw [List.length_append]; omega
    · rw [List.length_append, List.length_append, List.length_append, mkB_len, List.length_singleton]; omega

set_option maxHeartbeats 4000000 in
set_option maxRecDepth 100000 in
theorem packBack_any (l : List UInt64) (A : Option Addr) (c : Nat) (bs : List UInt8) (A2 : Option Addr) (c2 : Nat) (w : World) (hq : Reads w w.heap.size A (l.map vq)) (hc : l.length ≤ c) (hl : l.length ≤ 1048576)
    (hr : Reads w w.heap.size A2 (bs.map vb)) (hc2 : bs.length ≤ c2) (hm2 : c2 ≤ 9223372036854775807) (hbl : bs.length ≤ 1048576) :
    Calls Try.prog 10 #[.slice A l.length c, .slice A2 bs.length c2] w fun e w' => e = .returned (.bool true) ∧ Below w.heap.size w w' := by
  go_enter Try.func10, Try.ntmps10
  go_wp2_with fail
  refine (awake3_any w).mono ?_
  rintro e w0 ⟨rfl, hb0⟩
  have hs0 := hb0.size
  go_wp2_with fail
  refine (pack_any l A c w0 w0.heap.size ((hq.below hb0).more hs0) (Nat.le_refl _) hc (by omega)).mono ?_
  rintro e w1 ⟨v1, rfl, hown1, hb1⟩
  have hs1 := hb1.size
  have hb01 := hb0.trans (hb1.mono hs0)
  have hs1' := hb01.size
  obtain ⟨A1, c1, rfl, hc1, hm1, -⟩ := own_slice hown1
  unfold maxLen at hm1
  obtain ⟨C, e1, hp⟩ : ∃ C e1, pack l = (C, e1) := ⟨_, _, rfl⟩
  rw [hp] at hown1 hc1 ⊢
  simp only at hown1 hc1 ⊢
  clear hb0 hb1
  rcases Nat.eq_zero_or_pos e1 with he | he
  · subst he
    have hCl := pack_len hp
    have hlp := pack_ok hp
    have hU := unpack_pack hp bs bs
    have hSH := Lib.hid (fun k => unpack_short hp k)
    have hl6 := hlp.1
    clear hlp hp
    simp only [castZ]
    go_wp2_with (at_builtin; go_must (refine app rowByte rfl (.tmp 23) (.tmp 24) rfl w1.heap.size _ 0 [] rfl (World.ownsRow_nil _ _ _ _) w.heap.size _ _ _ (bs.map vb) rfl (by simp) (by exact hr.below hb01) (oneCell_vb _) (by omega) (Nat.le_refl _) ?_))
    intro v2 w2 hown2 hg2
    have hb2 : Below w1.heap.size w1 w2 := hg2.below (Below.refl _ _) (World.ownsRow_nil w1 w1.heap.size 5 1) (Nat.le_refl _)
    have hs2 := hb2.size
    have hownC2 := own_past hown1 hb2 (Nat.le_refl _)
    go_wp2_with (at_builtin; go_must (refine app rowByte rfl _ _ rfl w1.heap.size _ _ _ rfl (by exact hown2) w1.heap.size _ _ _ (C.map vb) rfl (by rw [List.length_map]) (by exact (Reads.of_own hown1).below hb2) (oneCell_vb _) (by omega) (by omega) ?_))
    intro v3 w3 hown3 hg3
    have hb3 := hg3.below hb2 hown2 (by omega)
    have hs3 := hb3.size
    have hb03 := hb01.trans (hb3.mono hs1')
    go_wp2_with (at_builtin; go_must (refine app rowByte rfl _ _ rfl w1.heap.size _ _ _ rfl (by exact hown3) w.heap.size _ _ _ (bs.map vb) rfl (by rw [List.length_map]) (by exact hr.below hb03) (oneCell_vb _) (by omega) (by omega) ?_))
    intro v4 w4 hown4 hg4
    have hb4 := hg4.below hb3 hown3 (by omega)
    have hs4 := hb4.size
    have hb04 := hb01.trans (hb4.mono hs1')
    have hownC4 := own_past hown1 hb4 (Nat.le_refl _)
    have hALL : (bs ++ (C ++ bs)).length = 0 + bs.length + C.length + bs.length := by simp only [List.length_append]; omega
    replace hown4 : w4.ownsRow w1.heap.size 5 1 v4 (bs ++ (C ++ bs)).length ((bs ++ (C ++ bs)).map vb) := by
      rw [hALL]
      have e : (bs ++ (C ++ bs)).map vb = [] ++ bs.map vb ++ C.map vb ++ bs.map vb := by simp
      rw [e]; first | exact hown4 | simpa using hown4
    obtain ⟨A4, c4, rfl, hc4, hm4, -⟩ := own_slice hown4
    unfold maxLen at hm4
    have HALL := Lib.hid hALL
    have hr4 := Reads.of_own hown4
    have hallb : (bs ++ (C ++ bs)).length ≤ 100000000 := by omega
    clear hALL hown2 hg2 hb2 hown3 hg3 hb3 hownC2 hg4 hb4 hb03 hown1
    generalize bs ++ (C ++ bs) = ALL at *
    go_wp2_with fail
    have h5 := unpack_any ALL A4 c4 (bs.length : Nat) w4 w4.heap.size hr4 (Nat.le_refl _) hc4 hm4 (by omega)
    rw [hU] at h5
    refine h5.mono ?_
    clear h5
    rintro e w5 ⟨v5, rfl, hown5, hb5⟩
    obtain ⟨A5, c5, rfl, -⟩ := own_slice hown5
    have hs5 := hb5.size
    have hb05 := hb04.trans (hb5.mono (by omega))
    have hownC5 := own_past hownC4 hb5 (Nat.le_refl _)
    have h6 := same_yes l A A5 c c5 w5 w5.heap.size ((hq.below hb05).more (by omega)) (Reads.of_own hown5) (by omega)
    have H6 := Lib.hid h6
    have hsum : (((bs.length + C.length : Nat) : Int) != (bs.length : Int) + (C.length : Int)) = false := by simp
    clear hown4 hr4 hown5 hb5 hb04 hownC4 h6
    simp only [castZ]
    go_wp2_with fail
    refine H6.out.mono ?_
    rintro e w6 ⟨rfl, nn, rfl⟩
    have hownC6 : (w5.drewN nn).ownsRow w0.heap.size 5 1 (.slice A1 C.length c1) C.length (C.map vb) := hownC5
    have hb06 := below_drewN (n := nn) hb05
    clear hownC5 hb05 H6
    generalize w5.drewN nn = w6 at *
    go_wp2_with fail
    go_loopw [11] (fun i wr => ∃ k : Nat, k ≤ 2000000 ∧ i = .int .i64 k ∧ wr.ownsRow w0.heap.size 5 1 (.slice A1 C.length c1) C.length (C.map vb) ∧ Below w.heap.size w wr) (fun i _ => C.length - (intOf i).toNat)
    case atStart => exact ⟨0, by omega, rfl, hownC6, hb06⟩
    case round =>
      clear hownC6 hb06
      obtain ⟨k, hk2, rfl, hownC, hbr⟩ := hrel
      have hsr := hbr.size
      rcases Nat.lt_or_ge k C.length with hlt | hge
      · have htk : (C.take k).length = k := by rw [List.length_take]; omega
        have hun := unpack_any (C.take k) A1 c1 0 wr wr.heap.size (by rw [List.map_take]; exact (Reads.of_own hownC).take _) (Nat.le_refl _) (by omega) hm1 (by omega)
        rw [htk] at hun
        unfold UAns at hun
        rw [hSH.out k hlt] at hun
        have HUN := Lib.hid hun
        have hkc : k ≤ c1 := by omega
        obtain ⟨st, hst⟩ : ∃ st, st = 1 + C.length / 50 := ⟨_, rfl⟩
        have hstI : (1 : Int) + (C.length : Int) / 50 = (st : Int) := by omega
        have hst2 : st ≤ 100000 := by omega
        have hst1 : 1 ≤ st := by omega
        clear hun hst
        go_wp2_with fail
        refine HUN.out.mono ?_
        rintro e wn ⟨vn, rfl, -, hbn⟩
        have hownCn := own_past hownC hbn (Nat.le_refl _)
        have hbrn := hbr.trans (hbn.mono hsr)
        clear hownC hbr hbn HUN
        go_wp2_with fail
        go_roundw
        case rel => exact ⟨k + st, by omega, by go_num, hownCn, hbrn⟩
        case measure => simp [intOf]; omega
      · have HBW := hbr
        have hrW := hr.below HBW
        have hsW := HBW.size
        go_wp2_with fail
        refine (unpack_any bs A2 c2 0 wr wr.heap.size (hrW.more hsW) (Nat.le_refl _) hc2 hm2 (by omega)).mono ?_
        rintro e w7 ⟨v7, rfl, hown7, hb7⟩
        have hs7 := hb7.size
        have HBW7 := HBW.trans (hb7.mono hsW)
        obtain ⟨A7, c7, rfl, hc7, -⟩ := own_slice hown7
        obtain ⟨m, to, e9, hu⟩ : ∃ m to e9, unpack bs 0 = (m, to, e9) := ⟨_, _, _, rfl⟩
        have hrng := unpack_rng bs 0
        rw [hu] at hown7 hc7 hrng ⊢
        simp only at hown7 hc7 hrng ⊢
        rcases Nat.eq_zero_or_pos e9 with h9 | h9
        · subst h9
          obtain ⟨hpk, htl⟩ := pack_unpack hu
          clear hb7 hu HBW
          simp only [castZ]
          go_wp2_with fail
          have h8 := pack_any m A7 c7 w7 w7.heap.size (Reads.of_own hown7) (Nat.le_refl _) hc7 (by omega)
          rw [hpk] at h8
          refine h8.mono ?_
          clear h8
          rintro e w8 ⟨v8, rfl, hown8, hb8⟩
          have HB8 := HBW7.trans (hb8.mono (by omega))
          obtain ⟨A8, c8, rfl, -⟩ := own_slice hown8
          have htk : (bs.take to).length = to := by rw [List.length_take]; omega
          have s8 := fun nq => run_str (c := c8) ((Reads.of_own hown8).drewN nq) rfl
          have hrt : Reads w8 w.heap.size A2 ((bs.take to).map vb) := by rw [List.map_take]; exact (hr.below HB8).take _
          have s9 := fun nq => run_str (c := c2) (hrt.drewN nq) rfl
          rw [htk] at s8 s9
          try rw [htk]
          have HB9 := Lib.hid HB8
          have htlI : (to : Int) ≤ (bs.length : Int) := by omega
          have htc : to ≤ c2 := by omega
          clear hown7 hown8 hb8 HB8 HBW7 hpk hrt hrW
          generalize bs.take to = X at *
          simp only [castZ]
          go_wp2_with fail
          go_quiet (fail)
          go_wp2_with fail
          go_ret
          exact ⟨rfl, below_drewN HB9.out⟩
        · have hne : ((e9 : Int) != 0) = true := by simp only [bne_iff_ne, ne_eq]; omega
          go_wp2_with fail
          go_ret
          exact ⟨rfl, HBW7⟩
  · have hne : ((e1 : Int) == 0) = false := by simp only [beq_eq_false_iff_ne, ne_eq]; omega
    have HBW := hb01
    clear hb01 hown1 hp
    have hrW := hr.below HBW
    have hsW := HBW.size
    go_wp2_with fail
    refine (unpack_any bs A2 c2 0 w1 w1.heap.size (hrW.more hsW) (Nat.le_refl _) hc2 hm2 (by omega)).mono ?_
    rintro e w7 ⟨v7, rfl, hown7, hb7⟩
    have hs7 := hb7.size
    have HBW7 := HBW.trans (hb7.mono hsW)
    obtain ⟨A7, c7, rfl, hc7, -⟩ := own_slice hown7
    obtain ⟨m, to, e9, hu⟩ : ∃ m to e9, unpack bs 0 = (m, to, e9) := ⟨_, _, _, rfl⟩
    have hrng := unpack_rng bs 0
    rw [hu] at hown7 hc7 hrng ⊢
    simp only at hown7 hc7 hrng ⊢
    rcases Nat.eq_zero_or_pos e9 with h9 | h9
    · subst h9
      obtain ⟨hpk, htl⟩ := pack_unpack hu
      clear hb7 hu HBW
      simp only [castZ]
      go_wp2_with fail
      have h8 := pack_any m A7 c7 w7 w7.heap.size (Reads.of_own hown7) (Nat.le_refl _) hc7 (by omega)
      rw [hpk] at h8
      refine h8.mono ?_
      clear h8
      rintro e w8 ⟨v8, rfl, hown8, hb8⟩
      have HB8 := HBW7.trans (hb8.mono (by omega))
      obtain ⟨A8, c8, rfl, -⟩ := own_slice hown8
      have htk : (bs.take to).length = to := by rw [List.length_take]; omega
      have s8 := fun nq => run_str (c := c8) ((Reads.of_own hown8).drewN nq) rfl
      have hrt : Reads w8 w.heap.size A2 ((bs.take to).map vb) := by rw [List.map_take]; exact (hr.below HB8).take _
      have s9 := fun nq => run_str (c := c2) (hrt.drewN nq) rfl
      rw [htk] at s8 s9
      try rw [htk]
      have HB9 := Lib.hid HB8
      have htlI : (to : Int) ≤ (bs.length : Int) := by omega
      have htc : to ≤ c2 := by omega
      clear hown7 hown8 hb8 HB8 HBW7 hpk hrt hrW
      generalize bs.take to = X at *
      simp only [castZ]
      go_wp2_with fail
      go_quiet (fail)
      go_wp2_with fail
      go_ret
      exact ⟨rfl, below_drewN HB9.out⟩
    · have hne : ((e9 : Int) != 0) = true := by simp only [bne_iff_ne, ne_eq]; omega
      go_wp2_with fail
      go_ret
      exact ⟨rfl, HBW7⟩
end Go.Proofs.Ytdjmjmbfaokdaaa
