/- The walk of expanding: the reference's. -/
import Derived.Test.YtdjmjmbfaokdaaaLzExpand
namespace Go.Proofs.Ytdjmjmbfaokdaaa
set_option linter.unusedVariables false
open Go.RowKit
open Varm

theorem lit_step (out : List UInt8) {b : List UInt8} {u k : Nat} (h : u + k < b.length) : out ++ (b.drop u).take (k + 1) = (out ++ (b.drop u).take k) ++ [b[u + k]] := by
  rw [List.take_succ_eq_append_getElem (by rw [List.length_drop]; omega), List.getElem_drop, List.append_assoc]

set_option maxHeartbeats 4000000 in
set_option maxRecDepth 100000 in
theorem refExpand_any (b : List UInt8) (A : Option Addr) (c : Nat) (most : Int) (w : World) (B : Nat) (hr : Reads w B A (b.map vb)) (hB : B ≤ w.heap.size) (hc : b.length ≤ c) (hc2 : c ≤ 9223372036854775807) (hm1 : -9223372036854775808 ≤ most) (hm2 : most ≤ 9223372036854775807) :
    Calls Try.prog 16 #[.slice A b.length c, .int .i64 most] w (ExpAns (expand b most) B w) := by
  have hg := refGet_any b A c 0 w B hr (by omega)
  obtain ⟨r1, r2, r3, r4, r5⟩ := getAt_range4 b 0
  have hP : expand b most = expand b most := rfl
  conv at hP => rhs; unfold expand
  obtain ⟨p, f, e, hv⟩ : ∃ p f e, getAt b 0 = (p, f, e) := ⟨_, _, _, rfl⟩
  rw [hv] at hg r1 r2 r3 r4 r5 hP
  simp only at r1 r2 r3 r4 r5 hP
  obtain ⟨t, rfl⟩ := Int.eq_ofNat_of_zero_le r2
  simp only [Int.toNat_natCast] at hP
  have HG := Lib.hid hg
  clear hg hv r2 r5
  rcases Nat.eq_zero_or_pos e with he | he
  · subst he
    rw [if_neg (by simp)] at hP
    by_cases hbad : most < 0 ∨ most < (p : Int) ∨ 65536 < p
    · rw [if_pos hbad] at hP
      rw [hP]
      clear hP
      have h3 : most < 0 ∨ (0 ≤ most ∧ most < (p : Int)) ∨ (0 ≤ most ∧ (p : Int) ≤ most ∧ (65536 : Int) < (p : Int)) := by omega
      clear hbad
      rcases h3 with h3 | ⟨h3, h4⟩ | ⟨h3, h4, h5⟩
      all_goals
        go_enter Try.func16, Try.ntmps16
        go_wp2_with (go_at_call 28; go_must (refine HG.out.mono ?_); rintro e w' ⟨rfl, rfl⟩; simp only [getV])
        go_ret2
        exact expAns_err rfl (Below.refl _ _)
    · rw [if_neg hbad] at hP
      rw [hP]
      clear hP
      have q0 : 0 ≤ most := by omega
      have q1 : (p : Int) ≤ most := by omega
      have q2 : (p : Int) ≤ 65536 := by omega
      have hpt : p ≤ 65536 := by omega
      clear hbad
      go_enter Try.func16, Try.ntmps16
      go_wp2_with fail
      refine HG.out.mono ?_
      rintro e w' ⟨rfl, rfl⟩
      simp only [getV, castZero]
      go_wp2_with fail
      go_loopw [7, 9] (fun a v wr => ∃ (at2 : Nat) (out : List UInt8) (f : Nat), a = .int .i64 at2 ∧ at2 ≤ b.length ∧ out.length ≤ p ∧ b.length - at2 < f ∧ Hid (partsAt (b.length + 1) [] b t p = partsAt f out b at2 p) ∧ wr.ownsRow B 5 1 v out.length (out.map vb) ∧ Below B w wr) (fun a _ _ => b.length - (intOf a).toNat)
      case atStart => exact ⟨t, [], b.length + 1, rfl, by omega, by simp, by omega, Lib.hid rfl, World.ownsRow_nil _ _ _ _, Below.refl _ _⟩
      case round =>
        obtain ⟨at2, out, f, rfl, hat, hout, hf, HF, hown, hbr⟩ := hrel
        have hsr := hbr.size
        rcases Nat.lt_or_ge at2 b.length with hlt | hge
        · obtain ⟨bb, off, rfl, hbB, hcb⟩ := hr.at_ (k := at2) (by simpa using hlt)
          have hg2 := refGet_any b _ c at2 wr B (hr.below hbr) (by omega)
          obtain ⟨s1, s2, s3, s4, s5⟩ := getAt_range4 b at2
          have hPA : partAt out b at2 p = partAt out b at2 p := rfl
          conv at hPA => rhs; unfold partAt
          obtain ⟨f', rfl⟩ : ∃ f', f = f' + 1 := ⟨f - 1, by omega⟩
          have HFs : ∀ k, partAt out b at2 p = ([], 0, k) → k ≠ 0 → partsAt (b.length + 1) [] b t p = ([], k) := fun k h hk => by
            rw [HF.out, partsAt, if_neg (by omega), h, if_pos hk]
          have HFok : ∀ o a, partAt out b at2 p = (o, a, 0) → partsAt (b.length + 1) [] b t p = partsAt f' o b a p := fun o a h => by
            rw [HF.out, partsAt_step hlt (by rw [h]), h]
          obtain ⟨q, g, e2, hv2⟩ : ∃ q g e2, getAt b at2 = (q, g, e2) := ⟨_, _, _, rfl⟩
          rw [hv2] at hg2 s1 s2 s3 s4 s5 hPA
          simp only at s1 s2 s3 s4 s5 hPA
          obtain ⟨u, rfl⟩ := Int.eq_ofNat_of_zero_le s2
          simp only [Int.toNat_natCast] at hPA
          have HG2 := Lib.hid hg2
          obtain ⟨A1, c1, rfl, -⟩ := own_slice hown
          clear hg2 hv2 s2
          rcases Nat.eq_zero_or_pos e2 with he2 | he2
          · subst he2
            rw [if_neg (by simp)] at hPA
            have s6 := s5 rfl
            clear s5
            by_cases hn0 : q / 2 = 0
            · rw [if_pos (.inl hn0)] at hPA
              have q3 : (q : Int) / 2 < 1 := by omega
              have HE := Lib.hid (HFs 6 hPA (by omega))
              clear hPA HFs HFok
              go_wp2_with fail
              refine HG2.out.mono ?_
              rintro e w' ⟨rfl, rfl⟩
              simp only [getV]
              go_wp2_with fail
              go_ret2
              rw [HE.out]
              exact expAns_err rfl hbr
            · have q3 : 1 ≤ (q : Int) / 2 := by omega
              by_cases h4 : q % 2 = 1 ∧ q / 2 < 4
              · rw [if_pos (.inr (.inl h4))] at hPA
                have q4 : (q : Int) / 2 < 4 := by omega
                have q5 : ((q : Int) % 2 == 1) = true := by simp only [beq_iff_eq]; omega
                have HE := Lib.hid (HFs 6 hPA (by omega))
                clear hPA HFs HFok
                go_wp2_with fail
                refine HG2.out.mono ?_
                rintro e w' ⟨rfl, rfl⟩
                simp only [getV]
                go_wp2_with fail
                go_ret2
                rw [HE.out]
                exact expAns_err rfl hbr
              · by_cases hbig : p - out.length < q / 2
                · rw [if_pos (.inr (.inr hbig))] at hPA
                  have q6 : (p : Int) < (out.length : Int) + (q : Int) / 2 := by omega
                  rcases Nat.lt_or_ge (q / 2) 4 with h5 | h5
                  · have q4 : (q : Int) / 2 < 4 := by omega
                    have q5 : ((q : Int) % 2 == 1) = false := by simp only [beq_eq_false_iff_ne, ne_eq]; omega
                    have HE := Lib.hid (HFs 6 hPA (by omega))
                    clear hPA HFs HFok
                    go_wp2_with fail
                    refine HG2.out.mono ?_
                    rintro e w' ⟨rfl, rfl⟩
                    simp only [getV]
                    go_wp2_with fail
                    go_ret2
                    rw [HE.out]
                    exact expAns_err rfl hbr
                  · have q4 : 4 ≤ (q : Int) / 2 := by omega
                    have HE := Lib.hid (HFs 6 hPA (by omega))
                    clear hPA HFs HFok
                    go_wp2_with fail
                    refine HG2.out.mono ?_
                    rintro e w' ⟨rfl, rfl⟩
                    simp only [getV]
                    go_wp2_with fail
                    go_ret2
                    rw [HE.out]
                    exact expAns_err rfl hbr
                · rw [if_neg (by omega)] at hPA
                  have q6 : (out.length : Int) + (q : Int) / 2 ≤ (p : Int) := by omega
                  have q7 : (q : Int) / 2 ≤ 65536 := by omega
                  rcases Nat.mod_two_eq_zero_or_one q with hq2 | hq2
                  · rw [if_pos hq2] at hPA
                    have q8 : ((q : Int) % 2 == 0) = true := by simp only [beq_iff_eq]; omega
                    have q9 : ((q : Int) % 2 == 1) = false := by simp only [beq_eq_false_iff_ne, ne_eq]; omega
                    have h45 : (q : Int) / 2 < 4 ∨ 4 ≤ (q : Int) / 2 := by omega
                    by_cases hsh : b.length - u < q / 2
                    · rw [if_pos hsh] at hPA
                      have q10 : (b.length : Int) - (u : Int) < (q : Int) / 2 := by omega
                      rcases h45 with h45 | h45
                      all_goals
                        have HE := Lib.hid (HFs 5 hPA (by omega))
                        clear hPA HFs HFok
                        go_wp2_with fail
                        refine HG2.out.mono ?_
                        rintro e w' ⟨rfl, rfl⟩
                        simp only [getV]
                        go_wp2_with fail
                        go_ret2
                        rw [HE.out]
                        exact expAns_err rfl hbr
                    · rw [if_neg hsh] at hPA
                      obtain ⟨n, hn⟩ : ∃ n, q / 2 = n := ⟨_, rfl⟩
                      have hnI : (q : Int) / 2 = (n : Int) := by omega
                      rw [hn] at hPA
                      have HOK := Lib.hid (HFok _ _ hPA)
                      have hsh2 : u + n ≤ b.length := by omega
                      have hop : out.length + n ≤ p := by omega
                      rw [hnI] at q3 q6 q7 h45
                      have q10 : (n : Int) ≤ (b.length : Int) - (u : Int) := by omega
                      have qd1 : decide ((n : Int) < 4) = true ∨ decide ((n : Int) < 4) = false := by cases decide ((n : Int) < 4) <;> simp
                      have hn1 : 1 ≤ n := by omega
                      clear hPA HFs HFok hn hsh hq2 hn0 h4 hbig
                      rcases h45 with h45 | h45
                      all_goals
                        go_wp2_with fail
                        refine HG2.out.mono ?_
                        rintro e w' ⟨rfl, rfl⟩
                        simp only [getV, castZero]
                        go_wp2_with fail
                        go_loopw [9, 14] (fun v i wr' => ∃ k : Nat, k ≤ n ∧ i = .int .i64 k ∧ wr'.ownsRow B 5 1 v (out ++ (b.drop u).take k).length ((out ++ (b.drop u).take k).map vb) ∧ Below B w wr') (fun _ i _ => n - (intOf i).toNat)
                        case atStart => exact ⟨0, Nat.zero_le _, rfl, by simpa using hown, hbr⟩
                        case round =>
                          clear hown hbr
                          obtain ⟨k, hk, rfl, hown, hbr⟩ := hrel
                          have hsr2 := hbr.size
                          have hlk : (out ++ (b.drop u).take k).length = out.length + k := by simp; omega
                          rcases Nat.lt_or_ge k n with hkl | hkg
                          · have hcl : wr.cell? ⟨bb, off + (u + k), none⟩ = some (.int .u8 (b[u + k].toNat : Int)) := (hbr.cell hbB).trans (Reads.byte hcb (by omega))
                            have HJ : Hid (out ++ (b.drop u).take (k + 1) = (out ++ (b.drop u).take k) ++ [b[u + k]]) := Lib.hid (lit_step out (by omega))
                            obtain ⟨A2, c2, rfl, -⟩ := own_slice hown
                            generalize b[u + k] = x at hcl HJ
                            generalize out ++ (b.drop u).take k = G at hown hlk HJ
                            have hcl2 : wr.cell? ⟨bb, off + u + k, none⟩ = some (.int .u8 (x.toNat : Int)) := by rw [Nat.add_assoc]; exact hcl
                            go_wp2_with (at_builtin; go_must (refine app1c rowByte rfl _ _ rfl _ B _ _ _ rfl (by exact hown) _ rfl rfl rfl (by omega) (by omega) ?_))
                            intro v2 w2 hown2 hg2
                            have hb2 := hg2.below (e := 5) (n := G.length) (xs := G.map vb) hbr (by first | exact hown | (rw [← hlk]; exact hown)) (by omega)
                            clear hg2 hown hbr hcl hcl2
                            go_wp2_with fail
                            go_roundw
                            case rel => exact ⟨k + 1, by omega, by go_num, by rw [HJ.out, List.length_append, List.map_append]; first | exact hown2 | (rw [hlk]; exact hown2), hb2⟩
                            case measure => simp [intOf]; omega
                          · obtain rfl : k = n := by omega
                            go_wp2_with fail
                            go_roundw
                            case rel => exact ⟨u + k, out ++ (b.drop u).take k, f', by go_num, by omega, by omega, by omega, HOK, hown, hbr⟩
                            case measure => simp [intOf]; omega
                  · rw [if_neg (by omega)] at hPA
                    have q8 : ((q : Int) % 2 == 0) = false := by simp only [beq_eq_false_iff_ne, ne_eq]; omega
                    have q9 : ((q : Int) % 2 == 1) = true := by simp only [beq_iff_eq]; omega
                    have h45 : 4 ≤ (q : Int) / 2 := by omega
                    have hg3 := refGet_any b _ c u wr B (hr.below hbr) (by omega)
                    obtain ⟨z1, z2, z3, z4, z5⟩ := getAt_range4 b u
                    obtain ⟨d, f2, e3, hv3⟩ : ∃ d f2 e3, getAt b u = (d, f2, e3) := ⟨_, _, _, rfl⟩
                    rw [hv3] at hg3 z1 z2 z3 z4 z5 hPA
                    simp only at z1 z2 z3 z4 z5 hPA
                    obtain ⟨t2, rfl⟩ := Int.eq_ofNat_of_zero_le z2
                    simp only [Int.toNat_natCast] at hPA
                    have HG3 := Lib.hid hg3
                    clear hg3 hv3 z2
                    rcases Nat.eq_zero_or_pos e3 with he3 | he3
                    · subst he3
                      rw [if_neg (by simp)] at hPA
                      have z6 := z5 rfl
                      clear z5
                      by_cases hd : d = 0 ∨ out.length < d
                      · rw [if_pos hd] at hPA
                        have hd2 : (d : Int) < 1 ∨ (1 ≤ (d : Int) ∧ (out.length : Int) < (d : Int)) := by omega
                        have HE := Lib.hid (HFs 6 hPA (by omega))
                        clear hPA HFs HFok hd hq2 hn0 h4 hbig
                        rcases hd2 with hd2 | ⟨hd2, hd3⟩
                        all_goals
                          go_wp2_with fail
                          refine HG2.out.mono ?_
                          rintro e w' ⟨rfl, rfl⟩
                          simp only [getV, castZero]
                          go_wp2_with fail
                          refine HG3.out.mono ?_
                          rintro e w' ⟨rfl, rfl⟩
                          simp only [getV, castZero]
                          go_wp2_with fail
                          go_ret2
                          rw [HE.out]
                          exact expAns_err rfl hbr
                      · rw [if_neg hd] at hPA
                        obtain ⟨n, hn⟩ : ∃ n, q / 2 = n := ⟨_, rfl⟩
                        have hnI : (q : Int) / 2 = (n : Int) := by omega
                        rw [hn] at hPA
                        have HOK := Lib.hid (HFok _ _ hPA)
                        have hop : out.length + n ≤ p := by omega
                        rw [hnI] at q3 q6 q7 h45
                        have hn1 : 1 ≤ n := by omega
                        have hd1 : 1 ≤ (d : Int) := by omega
                        have hd2 : (d : Int) ≤ (out.length : Int) := by omega
                        have qd1 : decide ((n : Int) < 4) = false := decide_eq_false (by omega)
                        have qd2 : decide ((out.length : Int) < (d : Int)) = false := decide_eq_false (by omega)
                        have qd3 : decide (out.length < d) = false := decide_eq_false (by omega)
                        have hDS : ∀ k, (copyTo out d k).getD ((copyTo out d k).length - d) 0 = (copyTo out d k).getD (out.length - d + k) 0 := fun k => copyTo_start out d (by omega) (by omega) k
                        clear hPA HFs HFok hn hq2 hn0 h4 hbig hd
                        go_wp2_with fail
                        refine HG2.out.mono ?_
                        rintro e w' ⟨rfl, rfl⟩
                        simp only [getV, castZero]
                        go_wp2_with fail
                        refine HG3.out.mono ?_
                        rintro e w' ⟨rfl, rfl⟩
                        simp only [getV, castZero]
                        go_wp2_with fail
                        go_loopw [9, 17] (fun v i wr' => ∃ k : Nat, k ≤ n ∧ i = .int .i64 k ∧ wr'.ownsRow B 5 1 v (copyTo out d k).length ((copyTo out d k).map vb) ∧ Below B w wr') (fun _ i _ => n - (intOf i).toNat)
                        case atStart => exact ⟨0, Nat.zero_le _, rfl, hown, hbr⟩
                        case round =>
                          clear hown hbr
                          obtain ⟨k, hk, rfl, hown, hbr⟩ := hrel
                          have hsr2 := hbr.size
                          obtain ⟨A2, c2, rfl, -⟩ := own_slice hown
                          have hlen := copyTo_len out d k
                          rcases Nat.lt_or_ge k n with hkl | hkg
                          · obtain ⟨g, hA, hbg, hlg, hfz, hcl, -⟩ := own_store hown (by omega)
                            cases hA
                            have e := hcl (out.length - d + k) (by omega)
                            have HJ : Hid (copyTo out d (k + 1) = copyTo out d k ++ [(copyTo out d k).getD (out.length - d + k) 0]) := Lib.hid (by rw [copyTo, hDS k])
                            clear hDS
                            generalize copyTo out d k = G at hown hlen HJ e
                            have e2 : wr.cell? ⟨g, out.length - d + k, none⟩ = some (.int .u8 ((G.getD (out.length - d + k) 0).toNat : Int)) := by
                              refine e.trans ?_
                              rw [List.getElem?_map, List.getElem?_eq_getElem (by omega), List.getD, List.getElem?_eq_getElem (by omega)]; rfl
                            clear e hcl hfz
                            generalize G.getD (out.length - d + k) 0 = x at HJ e2
                            have hdk : (d : Int) ≤ (out.length : Int) + (k : Int) := by omega
                            go_wp2_with (at_builtin; go_must (refine app1c rowByte rfl _ _ rfl _ B _ _ _ rfl (by exact hown) _ rfl rfl rfl (by omega) (by omega) ?_))
                            intro v2 w2 hown2 hg2
                            have hb2 := hg2.below (e := 5) (n := G.length) (xs := G.map vb) hbr (by first | exact hown | (rw [← hlen]; exact hown)) (by omega)
                            clear hg2 hown hbr e2
                            go_wp2_with fail
                            go_roundw
                            case rel => exact ⟨k + 1, by omega, by go_num, by rw [HJ.out, List.length_append, List.map_append]; first | exact hown2 | (rw [hlen]; exact hown2), hb2⟩
                            case measure => simp [intOf]; omega
                          · obtain rfl : k = n := by omega
                            clear hDS
                            go_wp2_with fail
                            go_roundw
                            case rel => exact ⟨t2, copyTo out d k, f', rfl, by omega, by omega, by omega, HOK, hown, hbr⟩
                            case measure => simp [intOf]; omega
                    · rw [if_pos (by omega)] at hPA
                      have hb : ((e3 : Int) != 0) = true := by simp only [bne_iff_ne, ne_eq]; omega
                      have HE := Lib.hid (HFs e3 hPA (by omega))
                      clear hPA HFs HFok hq2 hn0 h4 hbig
                      go_wp2_with fail
                      refine HG2.out.mono ?_
                      rintro e w' ⟨rfl, rfl⟩
                      simp only [getV, castZero]
                      go_wp2_with fail
                      refine HG3.out.mono ?_
                      rintro e w' ⟨rfl, rfl⟩
                      simp only [getV]
                      go_wp2_with fail
                      go_ret2
                      rw [HE.out]
                      exact expAns_err rfl hbr
          · rw [if_pos (by omega)] at hPA
            have hb : ((e2 : Int) != 0) = true := by simp only [bne_iff_ne, ne_eq]; omega
            have HE := Lib.hid (HFs e2 hPA (by omega))
            clear hPA HFs HFok
            go_wp2_with fail
            refine HG2.out.mono ?_
            rintro e w' ⟨rfl, rfl⟩
            simp only [getV]
            go_wp2_with fail
            go_ret2
            rw [HE.out]
            exact expAns_err rfl hbr
        · obtain rfl : at2 = b.length := by omega
          obtain ⟨f', rfl⟩ : ∃ f', f = f' + 1 := ⟨f - 1, by omega⟩
          obtain ⟨A1, c1, rfl, -⟩ := own_slice hown
          have HF2 : Hid (partsAt (b.length + 1) [] b t p = if out.length < p then ([], 5) else (out, 0)) := Lib.hid (by rw [HF.out, partsAt, if_pos (Nat.le_refl _)])
          rcases Nat.lt_or_ge out.length p with hs | hs
          · have qn : ((out.length : Int) != (p : Int)) = true := by simp only [bne_iff_ne, ne_eq]; omega
            go_wp2_with fail
            go_ret2
            rw [HF2.out, if_pos hs]
            exact expAns_err rfl hbr
          · obtain rfl : p = out.length := by omega
            have qn : ((out.length : Int) != (out.length : Int)) = false := by simp
            go_wp2_with fail
            go_ret2
            rw [HF2.out, if_neg (by omega)]
            exact ⟨_, rfl, hown, hbr⟩
  · rw [if_pos (by omega)] at hP
    rw [hP]
    clear hP
    have hb : ((e : Int) != 0) = true := by simp; omega
    go_enter Try.func16, Try.ntmps16
    go_wp2_with (go_at_call 28; go_must (refine HG.out.mono ?_); rintro e w' ⟨rfl, rfl⟩; simp only [getV])
    go_ret2
    exact expAns_err rfl (Below.refl _ _)
end Go.Proofs.Ytdjmjmbfaokdaaa
