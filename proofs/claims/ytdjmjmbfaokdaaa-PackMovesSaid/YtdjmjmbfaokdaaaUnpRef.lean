/- The walk of the reference's Unpack. -/
import Derived.Test.YtdjmjmbfaokdaaaUnp
namespace Go.Proofs.Ytdjmjmbfaokdaaa
set_option linter.unusedVariables false
open Go.RowKit
open Varm Pk

set_option maxHeartbeats 8000000 in
set_option maxRecDepth 100000 in
theorem refUnpack_any (b : List UInt8) (A : Option Addr) (c : Nat) (p : Int) (w : World) (B : Nat) (hr : Reads w B A (b.map vb)) (hB : B ≤ w.heap.size) (hc : b.length ≤ c) (hc2 : c ≤ 9223372036854775807) (hl : b.length ≤ 140737488355328) :
    Calls Try.prog 35 #[.slice A b.length c, .int .i64 p] w (UAns (unpack b p) B w) := by
  have hg := refGet_any b A c p w B hr (by omega)
  obtain ⟨r1, r2, r3, r4, r5⟩ := getAt_range4 b p
  have hP : unpack b p = unpack b p := rfl
  conv at hP => rhs; unfold unpack
  obtain ⟨n, f, e, hv⟩ : ∃ n f e, getAt b p = (n, f, e) := ⟨_, _, _, rfl⟩
  rw [hv] at hg r1 r2 r3 r4 r5 hP
  simp only at r1 r2 r3 r4 r5 hP
  obtain ⟨t, rfl⟩ := Int.eq_ofNat_of_zero_le r2
  simp only [Int.toNat_natCast] at hP
  have HG := Lib.hid hg
  clear hg hv r2 r5
  rcases Nat.eq_zero_or_pos e with he | he
  · subst he
    rw [if_neg (by simp)] at hP
    by_cases hbig : 65536 < n
    · rw [if_pos hbig] at hP
      rw [hP]
      clear hP
      have q1 : (65536 : Int) < (n : Int) := by omega
      go_enter Try.func35, Try.ntmps35
      go_wp2_with (go_at_call 28; go_must (refine HG.out.mono ?_); rintro e w' ⟨rfl, rfl⟩; simp only [getV])
      go_ret3
      exact uAns_err rfl (Below.refl _ _)
    · rw [if_neg hbig] at hP
      have q1 : (n : Int) ≤ 65536 := by omega
      have q1n : ¬ ((65536 : Int) < (n : Int)) := by omega
      by_cases hn0 : n = 0
      · subst hn0
        rw [if_pos rfl] at hP
        rw [hP]
        clear hP
        go_enter Try.func35, Try.ntmps35
        go_wp2_with (go_at_call 28; go_must (refine HG.out.mono ?_); rintro e w' ⟨rfl, rfl⟩; simp only [getV])
        go_ret3
        exact ⟨_, rfl, World.ownsRow_nil _ _ _ _, Below.refl _ _⟩
      · rw [if_neg hn0] at hP
        have q2 : ((n : Int) == 0) = false := by simp only [beq_eq_false_iff_ne, ne_eq]; omega
        have hg2 := refGet_any b A c (t : Nat) w B hr (by omega)
        obtain ⟨s1, s2, s3, s4, s5⟩ := getAt_range4 b (t : Nat)
        obtain ⟨d, f2, e2, hv2⟩ : ∃ d f2 e2, getAt b (t : Nat) = (d, f2, e2) := ⟨_, _, _, rfl⟩
        rw [hv2] at hg2 s1 s2 s3 s4 s5 hP
        simp only at s1 s2 s3 s4 s5 hP
        obtain ⟨t2, rfl⟩ := Int.eq_ofNat_of_zero_le s2
        simp only [Int.toNat_natCast] at hP
        have HG2 := Lib.hid hg2
        clear hg2 hv2 s2 s5
        rcases Nat.eq_zero_or_pos e2 with he2 | he2
        · subst he2
          rw [if_neg (by simp)] at hP
          have hol := own_lit (w := w) B hB 33 (.int .u64 (d : Int))
          have hbl : Below B w (w.alloc (.cells #[.int .u64 (d : Int)] 33)) := (Below.refl _ _).alloc hB _
          have hrl := hr.alloc hB (.cells #[.int .u64 (d : Int)] 33)
          by_cases hn1 : n = 1
          · subst hn1
            rw [if_pos rfl] at hP
            rw [hP]
            clear hP
            go_enter Try.func35, Try.ntmps35
            go_wp2_with fail
            refine HG.out.mono ?_
            rintro e w' ⟨rfl, rfl⟩
            simp only [getV]
            go_wp2_with fail
            refine HG2.out.mono ?_
            rintro e w' ⟨rfl, rfl⟩
            simp only [getV]
            go_wp2_with fail
            go_ret3
            exact ⟨_, rfl, by rw [List.map_singleton, vq_of s1]; exact hol, hbl⟩
          · rw [if_neg hn1] at hP
            have q3 : ((n : Int) == 1) = false := by simp only [beq_eq_false_iff_ne, ne_eq]; omega
            obtain ⟨m, hm⟩ : ∃ m, m = n - 1 := ⟨_, rfl⟩
            have hmI : (n : Int) - 1 = (m : Int) := by omega
            rw [← hm] at hP
            have hm2 : m ≤ 65536 := by omega
            unfold tailOf at hP
            have HM := Lib.hid hm
            clear hm
            rcases Nat.lt_or_ge t2 b.length with hlt | hge
            · rw [if_neg (by omega)] at hP
              have q4 : decide ((b.length : Int) ≤ (t2 : Int)) = false := decide_eq_false (by omega)
              obtain ⟨bb, off, rfl, hbB, hcell⟩ := hr.at_ (k := t2) (by simpa using hlt)
              have hc1 := (Reads.alloc (fun _ => ⟨bb, off, rfl, hbB, hcell⟩ : Reads w B (some ⟨bb, off, none⟩) (b.map vb)) hB (.cells #[.int .u64 (d : Int)] 33))
              obtain ⟨bb', off', hAA, -, hcellA⟩ := hc1.at_ (k := t2) (by simpa using hlt)
              injection hAA with hAA
              injection hAA with h1 h2
              subst h1 h2
              have hx := Reads.byte hcellA hlt
              have hgd : b.getD t2 0 = b[t2] := by rw [List.getD, List.getElem?_eq_getElem hlt]; rfl
              rw [hgd] at hP
              obtain ⟨wd, hwd⟩ : ∃ wd, wd = b[t2].toNat := ⟨_, rfl⟩
              have hwl : wd ≤ 255 := by have := UInt8.toNat_lt b[t2]; omega
              rw [← hwd] at hP hx
              have HCELLA := Lib.hid hcellA
              clear hwd hgd hcell hc1 hcellA
              obtain ⟨t3, ht3⟩ : ∃ t3, t3 = t2 + 1 := ⟨_, rfl⟩
              have h3I : (t2 : Int) + 1 = (t3 : Int) := by omega
              have h3l : t3 ≤ b.length := by omega
              have hw3 : IntKind.i64.wrap (t3 : Int) = (t3 : Int) := IntWalk.i64_in _ (by omega)
              rw [← ht3] at hP
              by_cases hw64 : 64 < wd
              · rw [if_pos hw64] at hP
                rw [hP]
                clear hP
                have q5 : decide ((64 : Int) < (wd : Int)) = true := decide_eq_true (by omega)
                have q5c : (64 : Int) < (wd : Int) := by omega
                clear hw64 ht3
                go_enter Try.func35, Try.ntmps35
                go_wp2_with fail
                refine HG.out.mono ?_
                rintro e w' ⟨rfl, rfl⟩
                simp only [getV]
                go_wp2_with fail
                refine HG2.out.mono ?_
                rintro e w' ⟨rfl, rfl⟩
                simp only [getV]
                go_wp2_with fail
                go_ret3
                exact uAns_err rfl hbl
              · rw [if_neg hw64] at hP
                have q5 : ¬ ((64 : Int) < (wd : Int)) := by omega
                have q5b : (wd : Int) ≤ 64 := by omega
                have hps := packSize_le m wd hm2 (by omega)
                have hkw : m * wd ≤ 4194304 := by have : m * wd ≤ 65536 * 64 := Nat.mul_le_mul hm2 (by omega); omega
                have hTS1 := packSize_bits m wd
                have hTS2 : 8 * packSize m wd ≤ m * wd + 7 := by unfold packSize; omega
                obtain ⟨S, hS⟩ : ∃ S, S = packSize m wd := ⟨_, rfl⟩
                obtain ⟨T, hT⟩ : ∃ T, T = m * wd := ⟨_, rfl⟩
                have hTI : (m : Int) * (wd : Int) = (T : Int) := by rw [hT, Int.natCast_mul]
                rw [← hS] at hps hTS1 hTS2 hP
                rw [← hT] at hkw hTS1 hTS2
                have HT3 := Lib.hid ht3
                have hw3b : 1 ≤ t3 := by omega
                have HTT := Lib.hid hT
                have HSS := Lib.hid hS
                have HP0 := Lib.hid hP
                clear ht3 hT hS hP
                go_enter Try.func35, Try.ntmps35
                go_wp2_with fail
                refine HG.out.mono ?_
                rintro e w' ⟨rfl, rfl⟩
                simp only [getV]
                go_wp2_with fail
                refine HG2.out.mono ?_
                rintro e w' ⟨rfl, rfl⟩
                simp only [getV]
                go_wp2_with fail
                have hsz : w.heap.size < (w.alloc (.cells #[.int .u64 (d : Int)] 33)).heap.size := by simp
                generalize w.alloc (.cells #[.int .u64 (d : Int)] 33) = wl at *
                go_loop [13] (fun v => ∃ s z : Nat, s ≤ S ∧ Hid (z = t3 + s) ∧ v = .int .i64 z) (fun v => t3 + S - (intOf v).toNat)
                case atStart => exact ⟨0, t3, Nat.zero_le _, Lib.hid rfl, rfl⟩
                case round =>
                  obtain ⟨s, z, hs, HZ, rfl⟩ := hrel
                  have hz := HZ.out
                  have hzI : (z : Int) - (t3 : Int) = (s : Int) := by omega
                  have hzl : z ≤ 200000000000000 := by omega
                  rcases Nat.lt_or_ge s S with hsl | hsg
                  · have hcnd : 8 * (s : Int) < (T : Int) := by omega
                    clear hz
                    go_wp2_with fail
                    go_round
                    case rel => exact ⟨s + 1, z + 1, by omega, Lib.hid (by have := HZ.out; omega), by go_num⟩
                    case measure => have := HZ.out; simp [intOf]; omega
                  · obtain rfl : S = s := by omega
                    have hcnd : ¬ (8 * (S : Int) < (T : Int)) := by omega
                    have hP := HP0.out
                    rw [← hz] at hP
                    by_cases hsh : b.length < z
                    · rw [if_pos hsh] at hP
                      have HE := Lib.hid hP
                      clear hP hz
                      have q6 : (b.length : Int) < (z : Int) := by omega
                      go_wp2_with fail
                      go_ret3
                      rw [HE.out]
                      exact uAns_err rfl hbl
                    · rw [if_neg hsh] at hP
                      have q6 : ¬ ((b.length : Int) < (z : Int)) := by omega
                      have q6b : (z : Int) ≤ (b.length : Int) := by omega
                      have HBT : Hid (∀ w', Below B wl w' → ∀ j, j < 8 * S → ∃ x y bt : Nat, w'.cell? ⟨bb, off + (t3 + j / 8), none⟩ = some (.int .u8 (x : Int)) ∧ x ≤ 255 ∧ (x : Int) / 2 ^ (j % 8) = (y : Int) ∧ y ≤ 255 ∧ (y : Int) % 2 = (bt : Int) ∧ bt = (bitAt (b.drop t3) j).toNat) := Lib.hid (fun w' hb j hj => by
                        have hjl : t3 + j / 8 < b.length := by omega
                        refine ⟨b[t3 + j / 8].toNat, b[t3 + j / 8].toNat / 2 ^ (j % 8), b[t3 + j / 8].toNat / 2 ^ (j % 8) % 2, (hb.cell hbB).trans (Reads.byte HCELLA.out hjl), ?_, ?_, ?_, ?_, ?_⟩
                        · have := UInt8.toNat_lt b[t3 + j / 8]; omega
                        · rw [Int.natCast_ediv, Int.natCast_pow]; rfl
                        · have := UInt8.toNat_lt b[t3 + j / 8]
                          have h2 := Nat.div_le_self b[t3 + j / 8].toNat (2 ^ (j % 8))
                          omega
                        · omega
                        · unfold bitAt
                          rw [List.getD, List.getElem?_drop, List.getElem?_eq_getElem hjl, Option.getD_some, Nat.testBit_eq_decide_div_mod_eq]
                          rcases Nat.mod_two_eq_zero_or_one (b[t3 + j / 8].toNat / 2 ^ (j % 8)) with h | h <;> simp [h])
                      generalize bitAt (b.drop t3) = f at *
                      have HP := Lib.hid hP
                      clear hP
                      have hR : restOf f wd d m z = if 18446744073709551616 ≤ numAt f wd d m ∨ needTo f wd m ≠ wd ∨ ¬ Pk.Clean f T S then ([], 0, 6) else (numbers f wd d (m + 1), z, 0) := by
                        unfold restOf; rw [← HSS.out, ← HTT.out]
                      have HR := Lib.hid hR
                      obtain ⟨N8, hN8⟩ : ∃ N8, N8 = 8 * S := ⟨_, rfl⟩
                      have hN8I : 8 * (S : Int) = (N8 : Int) := by omega
                      have HN8' := Lib.hid hN8
                      clear hR hz hN8
                      go_wp2_with fail
                      go_loop [15] (fun v => ∃ i : Nat, i ≤ N8 ∧ v = .int .i64 i ∧ Hid (∀ j, j < i → T ≤ j → f j = false)) (fun v => N8 - (intOf v).toNat)
                      case atStart => exact ⟨0, Nat.zero_le _, rfl, Lib.hid (fun j hj => by omega)⟩
                      case round =>
                        obtain ⟨i, hi, rfl, HC⟩ := hrel
                        have hN8 := HN8'.out
                        rcases Nat.lt_or_ge i N8 with hil | hig
                        · obtain ⟨x, y, bt, hcell, hx, hxy, hy, hbt, hbe⟩ := HBT.out _ (Below.refl _ _) i (by omega)
                          obtain ⟨ix, hix⟩ : ∃ ix, ix = t3 + i / 8 := ⟨_, rfl⟩
                          have hixI : (t3 : Int) + (i : Int) / 8 = (ix : Int) := by omega
                          have hixl : ix < b.length := by omega
                          rw [← hix] at hcell
                          have HN8 := Lib.hid hN8
                          have HBE := Lib.hid hbe
                          by_cases hbad : T ≤ i ∧ f i = true
                          · have HE : Hid (restOf f wd d m z = ([], 0, 6)) := Lib.hid (by
                              rw [HR.out, if_pos (.inr (.inr (fun h => by have := h i (by omega) hbad.1; rw [hbad.2] at this; cases this)))])
                            have hb1 : bt = 1 := by rw [hbe, hbad.2]; rfl
                            have c1 : decide ((T : Int) ≤ (i : Int)) = true := decide_eq_true (by omega)
                            have c1n : T ≤ i := hbad.1
                            subst hb1
                            clear hN8 hix hbe hbad
                            go_wp2_with fail
                            go_ret3
                            rw [HP.out, HE.out]
                            exact uAns_err rfl hbl
                          · have HC2 : Hid (∀ j, j < i + 1 → T ≤ j → f j = false) := Lib.hid (fun j hj hT => by
                              rcases Nat.lt_or_ge j i with h | h
                              · exact HC.out j h hT
                              · obtain rfl : j = i := by omega
                                cases hf : f j with
                                | false => rfl
                                | true => exact absurd ⟨hT, hf⟩ hbad)
                            rcases Nat.lt_or_ge i T with hiT | hiT
                            · have c1 : decide ((T : Int) ≤ (i : Int)) = false := decide_eq_false (by omega)
                              have c1n : ¬ (T ≤ i) := by omega
                              clear hN8 hix hbe hbad
                              go_wp2_with fail
                              go_round
                              case rel => exact ⟨i + 1, by omega, by go_num, HC2⟩
                              case measure => simp [intOf]; omega
                            · have hb0 : bt = 0 := by
                                cases hf : f i with
                                | false => rw [hbe, hf]; rfl
                                | true => exact absurd ⟨hiT, hf⟩ hbad
                              have c1 : decide ((T : Int) ≤ (i : Int)) = true := decide_eq_true (by omega)
                              subst hb0
                              clear hN8 hix hbe hbad
                              go_wp2_with fail
                              go_round
                              case rel => exact ⟨i + 1, by omega, by go_num, HC2⟩
                              case measure => simp [intOf]; omega
                        · obtain rfl : N8 = i := by omega
                          have HCL : Hid (Pk.Clean f T S) := Lib.hid (fun j hj hT => HC.out j (by omega) hT)
                          have HN8 := Lib.hid hN8
                          clear hN8
                          have hnm1 : wl.ownsRow B 33 1 (.slice (some ⟨w.heap.size, 0, none⟩) 1 1) (0 + 1) ((numbers f wd d (0 + 1)).map vq) := by
                            rw [numbers_succ]
                            simp only [numbers, List.range_zero, List.map_nil, List.nil_append, List.map_cons, numAt]
                            rw [vq_of s1]; exact hol
                          clear HC hi hig
                          go_wp2_with fail
                          go_loopw [9, 10, 14, 17] (fun xv lv mo iv wr => ∃ k : Nat, k ≤ m ∧ iv = .int .i64 k ∧ xv = .int .u64 (numAt f wd d k : Nat) ∧ mo = .int .i64 (needTo f wd k : Nat) ∧ numAt f wd d k < 18446744073709551616 ∧ wr.ownsRow B 33 1 lv (k + 1) ((numbers f wd d (k + 1)).map vq) ∧ Below B wl wr) (fun _ _ _ iv _ => m - (intOf iv).toNat)
                          case atStart => exact ⟨0, Nat.zero_le _, rfl, rfl, rfl, s1, hnm1, Below.refl _ _⟩
                          case round =>
                            clear hnm1
                            obtain ⟨k, hk, rfl, rfl, rfl, hnum, hown, hbr⟩ := hrel
                            obtain ⟨A1, c1, rfl, -⟩ := own_slice hown
                            have hsr := hbr.size
                            have hndl := needTo_le f wd (by omega) k
                            have hbt := hbl.trans hbr
                            rcases Nat.lt_or_ge k m with hlt2 | hge2
                            · obtain ⟨P, hP⟩ : ∃ P, P = k * wd := ⟨_, rfl⟩
                              have hPI : (k : Int) * (wd : Int) = (P : Int) := by rw [hP, Int.natCast_mul]
                              have hle2 : (k + 1) * wd ≤ m * wd := Nat.mul_le_mul_right _ hlt2
                              rw [Nat.add_mul, Nat.one_mul, ← hP, ← HTT.out] at hle2
                              have HN1 : Hid (numAt f wd d (k + 1) = numAt f wd d k + getN f P wd + 1) := Lib.hid (by rw [numAt, hP])
                              have HNT : Hid (needTo f wd (k + 1) = max (needTo f wd k) (Go.Lib.bitLen (getN f P wd))) := Lib.hid (by rw [needTo, hP])
                              have HMO := Lib.hid (numAt_mono f wd d (i := k + 1) (n := m) hlt2)
                              have hwP : IntKind.i64.wrap (P : Int) = (P : Int) := IntWalk.i64_in _ (by omega)
                              generalize numAt f wd d k = L at *
                              clear hP
                              go_wp2_with fail
                              go_loop [18, 19] (fun dv kv => ∃ (s : Nat) (yy : Int) (dd : Nat), s ≤ wd ∧ Hid (yy = (s : Int) - 1) ∧ kv = .int .i64 yy ∧ dv = .int .u64 dd ∧ Hid (dd = getN f (P + s) (wd - s))) (fun _ kv => (intOf kv + 1).toNat)
                              case atStart => exact ⟨wd, (wd : Int) - 1, 0, Nat.le_refl _, Lib.hid rfl, rfl, rfl, Lib.hid (by rw [Nat.sub_self]; rfl)⟩
                              case round =>
                                obtain ⟨s, yy, dd, hs, HY, rfl, rfl, HD⟩ := hrel
                                rcases Nat.eq_zero_or_pos s with hs0 | hsp
                                · subst hs0
                                  have hyy : yy = -1 := by have := HY.out; omega
                                  subst hyy
                                  have hdd : dd = getN f P wd := by have := HD.out; rwa [Nat.add_zero, Nat.sub_zero] at this
                                  have hdl := getN_lt f P wd
                                  have hd64 : 2 ^ wd ≤ 2 ^ 64 := Nat.pow_le_pow_right (by omega) (by omega)
                                  rw [← hdd] at hdl HN1 HNT
                                  have hdlt : dd < 18446744073709551616 := by omega
                                  clear hdd hdl hd64 HD HY
                                  rcases Nat.lt_or_ge (L + dd + 1) 18446744073709551616 with hok | hbad
                                  · have q8 : decide ((18446744073709551615 : Int) - (L : Int) ≤ (dd : Int)) = false := decide_eq_false (by omega)
                                    have wr0 : IntKind.u64.wrap ((18446744073709551615 : Int) - (L : Int)) = (18446744073709551615 : Int) - (L : Int) := IntWalk.u64_in _ (by omega)
                                    have wr1 : IntKind.u64.wrap ((L : Int) + (dd : Int)) = (L : Int) + (dd : Int) := IntWalk.u64_in _ (by omega)
                                    have wr2 : IntKind.u64.wrap ((L : Int) + (dd : Int) + 1) = (L : Int) + (dd : Int) + 1 := IntWalk.u64_in _ (by omega)
                                    have HNE := Lib.hid (fun w => need_any dd w hdlt)
                                    go_wp2_with (at_builtin; go_must (refine app1 rowNum rfl _ _ rfl _ B _ _ _ rfl (by exact hown) rfl rfl (by omega) (by omega) ?_))
                                    intro v6 w6 hown6 hg6
                                    have hb6 := hg6.below hbr hown (by omega)
                                    have hrow : (numbers f wd d (k + 1)).map vq ++ [.int .u64 ((L : Int) + (dd : Int) + 1)] = (numbers f wd d (k + 1 + 1)).map vq := by
                                      rw [numbers_succ f wd d (k + 1), List.map_append]
                                      congr 1
                                      simp only [List.map_cons, List.map_nil]
                                      rw [HN1.out, vq_of hok]
                                      rfl
                                    have hown7 : w6.ownsRow B 33 1 v6 (k + 1 + 1) ((numbers f wd d (k + 1 + 1)).map vq) := by
                                      rw [← hrow]; exact hown6
                                    clear hown6 hg6 hown hbr hrow hbt
                                    rcases Nat.lt_or_ge (needTo f wd k) (Go.Lib.bitLen dd) with hw | hw
                                    · have hwe : Hid (needTo f wd (k + 1) = Go.Lib.bitLen dd) := Lib.hid (by rw [HNT.out]; omega)
                                      have hcI : decide ((needTo f wd k : Int) < (Go.Lib.bitLen dd : Int)) = true := decide_eq_true (by omega)
                                      have hcN : decide (needTo f wd k < Go.Lib.bitLen dd) = true := decide_eq_true hw
                                      go_wp2_with fail
                                      refine (HNE.out _).mono ?_
                                      rintro e w' ⟨rfl, rfl⟩
                                      go_wp2_with fail
                                      refine (HNE.out _).mono ?_
                                      rintro e w' ⟨rfl, rfl⟩
                                      go_wp2_with fail
                                      go_roundw
                                      case rel => exact ⟨k + 1, by omega, by go_num, by rw [HN1.out]; rfl, by rw [hwe.out], by rw [HN1.out]; exact hok, hown7, hb6⟩
                                      case measure => simp [intOf]; omega
                                    · have hwe : Hid (needTo f wd (k + 1) = needTo f wd k) := Lib.hid (by rw [HNT.out]; omega)
                                      have hcI : decide ((needTo f wd k : Int) < (Go.Lib.bitLen dd : Int)) = false := decide_eq_false (by omega)
                                      have hcN : decide (needTo f wd k < Go.Lib.bitLen dd) = false := decide_eq_false (by omega)
                                      go_wp2_with fail
                                      refine (HNE.out _).mono ?_
                                      rintro e w' ⟨rfl, rfl⟩
                                      go_wp2_with fail
                                      go_roundw
                                      case rel => exact ⟨k + 1, by omega, by go_num, by rw [HN1.out]; rfl, by rw [hwe.out], by rw [HN1.out]; exact hok, hown7, hb6⟩
                                      case measure => simp [intOf]; omega
                                  · have HE : Hid (restOf f wd d m z = ([], 0, 6)) := Lib.hid (by
                                      rw [HR.out, if_pos (.inl (by have := HMO.out; have h2 := HN1.out; omega))])
                                    have q8 : decide ((18446744073709551615 : Int) - (L : Int) ≤ (dd : Int)) = true := decide_eq_true (by omega)
                                    have wr0 : IntKind.u64.wrap ((18446744073709551615 : Int) - (L : Int)) = (18446744073709551615 : Int) - (L : Int) := IntWalk.u64_in _ (by omega)
                                    go_wp2_with fail
                                    go_ret3
                                    rw [HP.out, HE.out]
                                    exact uAns_err rfl hbt
                                · obtain ⟨s', hs'⟩ : ∃ s', s = s' + 1 := ⟨s - 1, by omega⟩
                                  have hyy : yy = (s' : Int) := by have := HY.out; omega
                                  subst hyy
                                  obtain ⟨q, hq⟩ : ∃ q, q = P + s' := ⟨_, rfl⟩
                                  have hqI : (P : Int) + (s' : Int) = (q : Int) := by omega
                                  have hq8 : q < 8 * S := by omega
                                  obtain ⟨x, y, bt, hcell, hx, hxy, hy, hbtI, hbe⟩ := HBT.out _ hbr q hq8
                                  obtain ⟨ix, hix⟩ : ∃ ix, ix = t3 + q / 8 := ⟨_, rfl⟩
                                  have hixI : (t3 : Int) + (q : Int) / 8 = (ix : Int) := by omega
                                  have hixl : ix < b.length := by omega
                                  rw [← hix] at hcell
                                  have hlow : getN f (P + s') (wd - s') = bt + 2 * dd := by
                                    rw [show wd - s' = (wd - (s' + 1)) + 1 by omega, getN_low, HD.out, hs', hbe, hq, Nat.add_assoc]
                                  have hlt3 := getN_lt f (P + s') (wd - s')
                                  have hc2 : 2 ^ (wd - s') ≤ 2 ^ 64 := Nat.pow_le_pow_right (by omega) (by omega)
                                  have hb64 : bt + 2 * dd < 18446744073709551616 := by omega
                                  have HLOW := Lib.hid hlow
                                  have hsl : s' ≤ wd := by omega
                                  have wr0 : IntKind.u64.wrap (2 * (dd : Int)) = 2 * (dd : Int) := IntWalk.u64_in _ (by omega)
                                  have wr1 : IntKind.u64.wrap (2 * (dd : Int) + (bt : Int)) = 2 * (dd : Int) + (bt : Int) := IntWalk.u64_in _ (by omega)
                                  have hyw : IntKind.u64.wrap (y : Int) = (y : Int) := IntWalk.u64_in _ (by omega)
                                  have hql : q ≤ 4194304 := by omega
                                  have hwq : IntKind.i64.wrap (q : Int) = (q : Int) := IntWalk.i64_in _ (by omega)
                                  clear hlow hq hs' hs hsp hlt3 hc2 hix hbe hq8
                                  go_wp2_with fail
                                  go_round
                                  case rel => exact ⟨s', (s' : Int) - 1, 2 * dd + bt, by omega, Lib.hid rfl, by first | rfl | go_num, by go_num, Lib.hid (by have := HLOW.out; omega)⟩
                                  case measure => simp [intOf]
                            · obtain rfl : m = k := by omega
                              by_cases hnd : needTo f wd m = wd
                              · have HE : Hid (restOf f wd d m z = (numbers f wd d (m + 1), z, 0)) := Lib.hid (by
                                  rw [HR.out, if_neg]
                                  intro h
                                  rcases h with h | h | h
                                  · omega
                                  · exact h hnd
                                  · exact h HCL.out)
                                have q7 : (((needTo f wd m : Nat) : Int) != (wd : Int)) = false := by rw [hnd]; simp
                                clear hnd
                                go_wp2_with fail
                                go_ret3
                                rw [HP.out, HE.out]
                                exact ⟨_, rfl, by rw [numbers_len]; exact hown, hbt⟩
                              · have HE : Hid (restOf f wd d m z = ([], 0, 6)) := Lib.hid (by
                                  rw [HR.out, if_pos (.inr (.inl hnd))])
                                have q7 : (((needTo f wd m : Nat) : Int) != (wd : Int)) = true := by simp only [bne_iff_ne, ne_eq]; omega
                                clear hnd
                                go_wp2_with fail
                                go_ret3
                                rw [HP.out, HE.out]
                                exact uAns_err rfl hbt
            · rw [if_pos hge] at hP
              rw [hP]
              clear hP
              have q4 : decide ((b.length : Int) ≤ (t2 : Int)) = true := decide_eq_true (by omega)
              go_enter Try.func35, Try.ntmps35
              go_wp2_with fail
              refine HG.out.mono ?_
              rintro e w' ⟨rfl, rfl⟩
              simp only [getV]
              go_wp2_with fail
              refine HG2.out.mono ?_
              rintro e w' ⟨rfl, rfl⟩
              simp only [getV]
              go_wp2_with fail
              go_ret3
              exact uAns_err rfl hbl
        · rw [if_pos (by omega)] at hP
          rw [hP]
          clear hP
          have hb : ((e2 : Int) != 0) = true := by simp only [bne_iff_ne, ne_eq]; omega
          go_enter Try.func35, Try.ntmps35
          go_wp2_with fail
          refine HG.out.mono ?_
          rintro e w' ⟨rfl, rfl⟩
          simp only [getV]
          go_wp2_with fail
          refine HG2.out.mono ?_
          rintro e w' ⟨rfl, rfl⟩
          simp only [getV]
          go_wp2_with fail
          go_ret3
          exact uAns_err rfl (Below.refl _ _)
  · rw [if_pos (by omega)] at hP
    rw [hP]
    clear hP
    have hb : ((e : Int) != 0) = true := by simp; omega
    go_enter Try.func35, Try.ntmps35
    go_wp2_with (go_at_call 28; go_must (refine HG.out.mono ?_); rintro e w' ⟨rfl, rfl⟩; simp only [getV])
    go_ret3
    exact uAns_err rfl (Below.refl _ _)
end Go.Proofs.Ytdjmjmbfaokdaaa
