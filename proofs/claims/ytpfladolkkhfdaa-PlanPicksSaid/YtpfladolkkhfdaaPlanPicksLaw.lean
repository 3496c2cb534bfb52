/- PlanPicks: the walk of the law. -/
import Derived.Test.YtpfladolkkhfdaaPicksM
import Derived.Test.YtpfladolkkhfdaaAwake16
namespace Go.Proofs.Ytpfladolkkhfdaa
set_option linter.unusedVariables false
open Go.RowKit

theorem pl_get {w : World} {b off : Nat} {m : List Nat} (hc : ∀ j u, (pl m)[j]? = some u → w.cell? ⟨b, off + j, none⟩ = some u) {k : Nat} (hk : k < m.length) :
    w.cell? ⟨b, off + k, none⟩ = some (.int .i64 (m[k] : Int)) := hc k _ (by simp [hk])

theorem wrap64 (x : Int) : 0 ≤ IntKind.u64.wrap x ∧ IntKind.u64.wrap x ≤ 18446744073709551615 := by
  have := Int.emod_nonneg x (show (18446744073709551616 : Int) ≠ 0 by omega)
  have := Int.emod_lt_of_pos x (show (0 : Int) < 18446744073709551616 by omega)
  simp [IntKind.wrap, IntKind.bits, IntKind.signed]
  omega

set_option maxHeartbeats 8000000 in
set_option maxRecDepth 100000 in
theorem planPicks_any (l : List Sg) (A : Option Addr) (c : Nat) (w : World) (hr : Reads w w.heap.size A (segCells l)) (hl : l.length ≤ 7000000000000) :
    Calls Try.prog 10 #[.slice A l.length c] w fun e w' => e = .returned (.bool true) ∧ Below w.heap.size w w' := by
  go_enter Try.func10, Try.ntmps10
  go_wp2_with fail
  refine (awake16_any _).mono ?_
  rintro e w1 ⟨rfl, hb1⟩
  have hs1 := hb1.size
  have hr1 := (hr.below hb1).more hs1
  go_wp2_with fail
  refine (planMerge_any l A c w1 hr1 hl).mono ?_
  rintro e w2 ⟨v, rfl, hown, hb2⟩
  have hs2 := hb2.size
  have hr2 := (hr1.below hb2).more hs2
  have HB := Lib.hid (hb1.trans (hb2.mono hs1))
  obtain ⟨A2, c2, rfl, -⟩ := own_slice hown
  have hR2 := Reads.of_own hown
  clear hb1 hb2 hr hr1 hown
  have hsw := Nat.le_trans hs1 hs2
  have HO : Hid (∃ T, PickOk l (merge l) T ∧ (merge l = [] → T = 99) ∧ (merge l ≠ [] → (merge l).length = 4 ∧ ∃ (h : 0 < (merge l).length) (h2 : (merge l)[0] < l.length), (tier l[(merge l)[0]].cnt.toInt : Int) = T)) := Lib.hid (by
    rcases merge_spec l with ⟨hm, hno⟩ | ⟨t0, ht0, hf, hm, hlow⟩
    · exact ⟨99, ⟨by omega, by omega, fun t _ _ => hno t, fun t h h2 => by omega⟩, fun _ => rfl, fun h => absurd hm h⟩
    · have h4 := (fitsAt_iff.1 hf).1
      rw [← hm] at h4
      refine ⟨t0, ⟨by omega, by omega, fun t _ h => hlow t (by omega), fun t _ h => ?_⟩, fun h => by rw [h] at h4; simp at h4, fun _ => ⟨h4, by omega, ?_⟩⟩
      · obtain rfl : t = t0 := by omega
        exact ⟨hf, hm.symm⟩
      · have hmem : (merge l)[0]'(by omega) ∈ (placesTo l t0 l.length).1 := by simp only [← hm]; exact List.getElem_mem _
        obtain ⟨s, hs, ht⟩ := placesTo_tier l t0 _ _ hmem
        obtain ⟨h1, h2⟩ := List.getElem?_eq_some_iff.1 hs
        exact ⟨h1, by rw [h2, ht]⟩)
  generalize merge l = m at HO hR2 ⊢
  obtain ⟨T, HK0, hT0, hT1⟩ := HO.out
  have HK := Lib.hid HK0
  clear HO HK0
  cases m with
  | nil =>
    obtain rfl := hT0 rfl
    clear hT0 hT1
    go_wp2_with fail
    go_loopw [5] (fun t wr => ∃ k : Nat, k ≤ 40 ∧ t = .int .i64 k ∧ Below w2.heap.size w2 wr) (fun t _ => 40 - (intOf t).toNat)
    case atStart => exact ⟨0, by omega, rfl, Below.refl _ _⟩
    case round =>
      obtain ⟨t, ht, rfl, hbr⟩ := hrel
      have hsr := hbr.size
      rcases Nat.lt_or_ge t 40 with htl | htg
      · go_wp2
        simp only [show decide ((t : Int) < 40) = true from decide_eq_true (by omega)]
        go_loopw [6, 7, 8] (fun v s i wi => ∃ (k : Nat) (sum : Int), k ≤ l.length ∧ s = .int .u64 sum ∧ i = .int .i64 k ∧ PickState (placesTo l t k) t sum ∧ wi.ownsRow w2.heap.size 3 1 v (placesTo l t k).1.length (pl (placesTo l t k).1) ∧ Below w2.heap.size w2 wi) (fun _ _ i _ => l.length - (intOf i).toNat)
        case atStart => exact ⟨0, 0, Nat.zero_le _, rfl, rfl, PickState.start t, World.ownsRow_nil _ _ _ _, hbr⟩
        case round =>
          clear hbr hsr
          obtain ⟨k, sum, hk, rfl, rfl, hst, hown, hbr⟩ := hrel
          have hsr := hbr.size
          have hp4 := placesTo_le l t k
          by_cases hgo : k < l.length ∧ (placesTo l t k).1.length < 4
          · obtain ⟨hlt, hp3⟩ := hgo
            have HT := Lib.hid (placesTo_succ (t := t) hlt)
            obtain ⟨bb, oo, hA, _, c0, c1, cc2, c3⟩ := seg_at (hr2.below hbr) hlt
            cases hA
            have hseg := fun w' (hb' : Below w2.heap.size w2 w') => seg_at (hr2.below hb') hlt
            have HR := Lib.hid hr2
            clear hr2 c0 cc2 c3
            generalize l[k] = s at c1 HT hseg
            obtain ⟨s0, s1, s2, s3⟩ := s
            simp only [vi] at c1 HT hseg
            have hn := i64_range s1
            generalize s1.toInt = n at c1 HT hseg hn
            obtain ⟨hn1, hn2⟩ := hn
            have HC := Lib.hid (tier_any n wr hn1 hn2)
            have HSEG := Lib.hid hseg
            clear hseg
            obtain ⟨A1, c1', rfl, -⟩ := own_slice hown
            generalize hP : placesTo l t k = p at hst hown hp4 hp3 HT
            have HST := Lib.hid hst
            obtain ⟨hsu1, hsu2⟩ : 0 ≤ sum ∧ sum ≤ 18446744073709551615 := ⟨hst.1, hst.2.1⟩
            clear hst hP
            have ht31 := tier_le n hn2
            by_cases htt : tier n = t
            · have HT2 := Lib.hid (by have h := HT.out; rw [if_pos ⟨hp3, htt⟩] at h; exact h)
              have hb1 : ((tier n : Int) == (t : Int)) = true := by simp; omega
              have HTr := Lib.hid htt
              clear HT htt
              go_wp2_with (first | (go_at_call 19; go_must (refine HC.out.mono ?_); rintro e w' ⟨rfl, rfl⟩) | (at_builtin; go_must (refine app1b rowInt rfl _ _ rfl _ w2.heap.size _ _ _ rfl (by exact hown) _ rfl rfl rfl (by omega) hsr ?_)))
              intro v3 w3 hown2 hg2
              have hb2 := hg2.below hbr hown hsr
              obtain ⟨b3, off3, heq2, _, -, d1, -, -⟩ := HSEG.out w3 hb2
              cases heq2
              clear hg2 hown hbr c1
              rcases Int.lt_or_le 0 n with hpos | hnp
              · rcases Nat.lt_or_ge t 16 with h16 | h16
                · obtain ⟨hs2, hs3⟩ := PickState.add (k := k) HST.out HTr.out hpos h16 hp4
                  have HS2 := Lib.hid hs2
                  clear HST hs2
                  have hs4 : sum + n ≤ 18446744073709551615 := by omega
                  go_wp2_with fail
                  go_roundw
                  case rel => exact ⟨k + 1, sum + n, by omega, by go_num, by go_num, by rw [HT2.out]; exact HS2.out, by rw [HT2.out, pl, List.map_append, List.length_append]; exact hown2, hb2⟩
                  case measure => simp [intOf]; omega
                · have HS2 := Lib.hid (fun s' h1 h2 => PickState.wide (k := k) (s' := s') HST.out HTr.out h16 h1 h2)
                  clear HST
                  go_wp2_with fail
                  go_roundw
                  case rel => exact ⟨k + 1, _, by omega, rfl, by go_num, by rw [HT2.out]; exact HS2.out _ (wrap64 _).1 (wrap64 _).2, by rw [HT2.out, pl, List.map_append, List.length_append]; exact hown2, hb2⟩
                  case measure => simp [intOf]; omega
              · have HS2 := Lib.hid (PickState.low (k := k) HST.out HTr.out hnp)
                clear HST
                go_wp2_with fail
                go_roundw
                case rel => exact ⟨k + 1, sum, by omega, by go_num, by go_num, by rw [HT2.out]; exact HS2.out, by rw [HT2.out, pl, List.map_append, List.length_append]; exact hown2, hb2⟩
                case measure => simp [intOf]; omega
            · have HT2 := Lib.hid (by have h := HT.out; rw [if_neg (fun h => htt h.2)] at h; exact h)
              have hb1 : ((tier n : Int) == (t : Int)) = false := by simp; omega
              clear HT htt
              go_wp2_with (go_at_call 19; go_must (refine HC.out.mono ?_); rintro e w' ⟨rfl, rfl⟩)
              go_roundw
              case rel => exact ⟨k + 1, sum, by omega, rfl, by go_num, by rw [HT2.out]; exact HST.out, by rw [HT2.out]; exact hown, hbr⟩
              case measure => simp [intOf]; omega
          · have HE : placesTo l t l.length = placesTo l t k ∧ ((k < l.length ∧ (placesTo l t k).1.length = 4) ∨ k = l.length) := by
              rcases Nat.lt_or_ge k l.length with h | h
              · have h4 : (placesTo l t k).1.length = 4 := by omega
                refine ⟨?_, .inl ⟨h, h4⟩⟩
                have := placesTo_stop l t k h4 (l.length - k)
                rwa [show k + (l.length - k) = l.length by omega] at this
              · obtain rfl : k = l.length := by omega
                exact ⟨rfl, .inr rfl⟩
            obtain ⟨HE1, HE2⟩ := HE
            have hfit := hst.fits
            obtain ⟨hsu1, hsu2⟩ : 0 ≤ sum ∧ sum ≤ 18446744073709551615 := ⟨hst.1, hst.2.1⟩
            have HF : fitsAt l t = true ↔ ((placesTo l t k).1.length = 4 ∧ (placesTo l t k).2 ≤ 65536) := by rw [fitsAt_iff, HE1]
            have HK2 := HK.out.2.2.2 t htl
            rw [HE1] at HK2
            have HK1 := HK.out.2.2.1 t htl
            have HR := Lib.hid hr2
            clear HE1 hgo hst hr2
            obtain ⟨A1, c1', rfl, -⟩ := own_slice hown
            generalize placesTo l t k = p at HE2 hfit HF HK2 hown hp4 ⊢
            by_cases hF : fitsAt l t = true
            · have := HK1 (by omega)
              rw [this] at hF
              cases hF
            · have hnf : ¬ (p.1.length = 4 ∧ sum ≤ 65536 ∧ t < 16) := fun h => hF (HF.2 (hfit.2 h))
              have hTt : ¬ (t : Int) = (99 : Int) := fun h => hF (HK2 h).1
              have hTt2 : (t : Int) < (99 : Int) ∨ (99 : Int) < (t : Int) := by omega
              clear hfit HF HK2 HK1 hF
              have h3 : p.1.length < 4 ∨ (p.1.length = 4 ∧ 65536 < sum) ∨ (p.1.length = 4 ∧ sum ≤ 65536 ∧ 16 ≤ t) := by omega
              clear hnf
              rcases h3 with h3 | ⟨h3, h3'⟩ | ⟨h3, h3', h3''⟩
              · obtain rfl : k = l.length := by rcases HE2 with ⟨_, h⟩ | h <;> omega
                clear HE2
                have hq4 : ((p.1.length : Int) == 4) = false := by simp; omega
                clear hp4
                rcases hTt2 with hTt2 | hTt2
                · have hq5 : ((t : Int) == (99 : Int)) = false := by simp; omega
                  have hq6 : decide ((t : Int) < (99 : Int)) = true := by simp; omega
                  go_wp2_with fail
                  go_quiet (fail)
                  go_wp2_with fail
                  go_roundw
                  case rel => exact ⟨t + 1, by omega, by go_num, by first | exact hbr | exact below_drewN hbr⟩
                  case measure => simp [intOf]; omega
                · omega
              · have hq4 : ((p.1.length : Int) == 4) = true := by simp; omega
                have H3 := Lib.hid h3
                have hq3 : decide ((p.1.length : Int) < 4) = false := by simp; omega
                clear hp4 h3
                have hq7 : decide (sum ≤ 65536) = false := by simp; omega
                rcases HE2 with ⟨hk1, -⟩ | rfl
                all_goals
                  rcases hTt2 with hTt2 | hTt2
                  · have hq5 : ((t : Int) == (99 : Int)) = false := by simp; omega
                    have hq6 : decide ((t : Int) < (99 : Int)) = true := by simp; omega
                    go_wp2_with fail
                    go_quiet (fail)
                    go_wp2_with fail
                    go_roundw
                    case rel => exact ⟨t + 1, by omega, by go_num, by first | exact hbr | exact below_drewN hbr⟩
                    case measure => simp [intOf]; omega
                  · omega
              · have hq4 : ((p.1.length : Int) == 4) = true := by simp; omega
                have H3 := Lib.hid h3
                have hq3 : decide ((p.1.length : Int) < 4) = false := by simp; omega
                clear hp4 h3
                have hq7 : decide ((t : Int) < 16) = false := by simp; omega
                have hq8 : decide (sum ≤ 65536) = true := by simp; omega
                rcases HE2 with ⟨hk1, -⟩ | rfl
                all_goals
                  rcases hTt2 with hTt2 | hTt2
                  · have hq5 : ((t : Int) == (99 : Int)) = false := by simp; omega
                    have hq6 : decide ((t : Int) < (99 : Int)) = true := by simp; omega
                    go_wp2_with fail
                    go_quiet (fail)
                    go_wp2_with fail
                    go_roundw
                    case rel => exact ⟨t + 1, by omega, by go_num, by first | exact hbr | exact below_drewN hbr⟩
                    case measure => simp [intOf]; omega
                  · omega
      · obtain rfl : t = 40 := by omega
        go_wp2_with fail
        go_ret
        exact ⟨rfl, HB.out.trans (hbr.mono hsw)⟩
  | cons i0 rest =>
    obtain ⟨h4, hi0, hi1, htT⟩ := hT1 (by simp)
    clear hT0 hT1
    simp only [List.getElem_cons_zero] at hi1 htT
    obtain ⟨b2, off2, rfl, hb2lt, hcm⟩ := hR2.at_ (k := 0) (by simp)
    have d0 : w2.cell? ⟨b2, off2, none⟩ = some (.int .i64 i0) := by have := pl_get hcm (k := 0) (by simp); simpa using this
    obtain ⟨b, off, rfl, _, c0, c1, cc2, c3⟩ := seg_at hr2 hi1
    clear c0 cc2 c3
    have hn := i64_range l[i0].cnt
    simp only [vi] at c1
    generalize l[i0].cnt.toInt = n at c1 hn htT
    have HC := Lib.hid (tier_any n w2 hn.1 hn.2)
    rw [htT] at HC
    generalize hm : i0 :: rest = m at HK hR2 h4 hcm ⊢
    have D0 := Lib.hid (show w2.cell? ⟨b2, off2, none⟩ = some (.int .i64 m[0]) by have := pl_get hcm (k := 0) (by omega); simpa using this)
    have D1 := Lib.hid (show w2.cell? ⟨b2, off2 + 1, none⟩ = some (.int .i64 m[1]) from pl_get hcm (k := 1) (by omega))
    have D2 := Lib.hid (show w2.cell? ⟨b2, off2 + 2, none⟩ = some (.int .i64 m[2]) from pl_get hcm (k := 2) (by omega))
    have D3 := Lib.hid (show w2.cell? ⟨b2, off2 + 3, none⟩ = some (.int .i64 m[3]) from pl_get hcm (k := 3) (by omega))
    have hT2 : 0 ≤ T ∧ T ≤ 99 := ⟨HK.out.1, HK.out.2.1⟩
    rw [h4]
    have H4 := Lib.hid h4
    go_wp2_with fail
    refine HC.out.mono ?_
    rintro e w' ⟨rfl, rfl⟩
    clear HC hcm htT hn c1 d0 hm hi0 hR2
    go_wp2_with fail
    go_loopw [5] (fun t wr => ∃ k : Nat, k ≤ 40 ∧ t = .int .i64 k ∧ Below w2.heap.size w2 wr) (fun t _ => 40 - (intOf t).toNat)
    case atStart => exact ⟨0, by omega, rfl, Below.refl _ _⟩
    case round =>
      obtain ⟨t, ht, rfl, hbr⟩ := hrel
      have hsr := hbr.size
      rcases Nat.lt_or_ge t 40 with htl | htg
      · go_wp2
        simp only [show decide ((t : Int) < 40) = true from decide_eq_true (by omega)]
        go_loopw [6, 7, 8] (fun v s i wi => ∃ (k : Nat) (sum : Int), k ≤ l.length ∧ s = .int .u64 sum ∧ i = .int .i64 k ∧ PickState (placesTo l t k) t sum ∧ wi.ownsRow w2.heap.size 3 1 v (placesTo l t k).1.length (pl (placesTo l t k).1) ∧ Below w2.heap.size w2 wi) (fun _ _ i _ => l.length - (intOf i).toNat)
        case atStart => exact ⟨0, 0, Nat.zero_le _, rfl, rfl, PickState.start t, World.ownsRow_nil _ _ _ _, hbr⟩
        case round =>
          clear hbr hsr
          obtain ⟨k, sum, hk, rfl, rfl, hst, hown, hbr⟩ := hrel
          have hsr := hbr.size
          have hp4 := placesTo_le l t k
          by_cases hgo : k < l.length ∧ (placesTo l t k).1.length < 4
          · obtain ⟨hlt, hp3⟩ := hgo
            have HT := Lib.hid (placesTo_succ (t := t) hlt)
            obtain ⟨bb, oo, hA, _, c0, c1, cc2, c3⟩ := seg_at (hr2.below hbr) hlt
            cases hA
            have hseg := fun w' (hb' : Below w2.heap.size w2 w') => seg_at (hr2.below hb') hlt
            have HR := Lib.hid hr2
            clear hr2 c0 cc2 c3
            generalize l[k] = s at c1 HT hseg
            obtain ⟨s0, s1, s2, s3⟩ := s
            simp only [vi] at c1 HT hseg
            have hn := i64_range s1
            generalize s1.toInt = n at c1 HT hseg hn
            obtain ⟨hn1, hn2⟩ := hn
            have HC := Lib.hid (tier_any n wr hn1 hn2)
            have HSEG := Lib.hid hseg
            clear hseg
            obtain ⟨A1, c1', rfl, -⟩ := own_slice hown
            generalize hP : placesTo l t k = p at hst hown hp4 hp3 HT
            have HST := Lib.hid hst
            obtain ⟨hsu1, hsu2⟩ : 0 ≤ sum ∧ sum ≤ 18446744073709551615 := ⟨hst.1, hst.2.1⟩
            clear hst hP
            have ht31 := tier_le n hn2
            by_cases htt : tier n = t
            · have HT2 := Lib.hid (by have h := HT.out; rw [if_pos ⟨hp3, htt⟩] at h; exact h)
              have hb1 : ((tier n : Int) == (t : Int)) = true := by simp; omega
              have HTr := Lib.hid htt
              clear HT htt
              go_wp2_with (first | (go_at_call 19; go_must (refine HC.out.mono ?_); rintro e w' ⟨rfl, rfl⟩) | (at_builtin; go_must (refine app1b rowInt rfl _ _ rfl _ w2.heap.size _ _ _ rfl (by exact hown) _ rfl rfl rfl (by omega) hsr ?_)))
              intro v3 w3 hown2 hg2
              have hb2 := hg2.below hbr hown hsr
              obtain ⟨b3, off3, heq2, _, -, d1, -, -⟩ := HSEG.out w3 hb2
              cases heq2
              clear hg2 hown hbr c1
              rcases Int.lt_or_le 0 n with hpos | hnp
              · rcases Nat.lt_or_ge t 16 with h16 | h16
                · obtain ⟨hs2, hs3⟩ := PickState.add (k := k) HST.out HTr.out hpos h16 hp4
                  have HS2 := Lib.hid hs2
                  clear HST hs2
                  have hs4 : sum + n ≤ 18446744073709551615 := by omega
                  go_wp2_with fail
                  go_roundw
                  case rel => exact ⟨k + 1, sum + n, by omega, by go_num, by go_num, by rw [HT2.out]; exact HS2.out, by rw [HT2.out, pl, List.map_append, List.length_append]; exact hown2, hb2⟩
                  case measure => simp [intOf]; omega
                · have HS2 := Lib.hid (fun s' h1 h2 => PickState.wide (k := k) (s' := s') HST.out HTr.out h16 h1 h2)
                  clear HST
                  go_wp2_with fail
                  go_roundw
                  case rel => exact ⟨k + 1, _, by omega, rfl, by go_num, by rw [HT2.out]; exact HS2.out _ (wrap64 _).1 (wrap64 _).2, by rw [HT2.out, pl, List.map_append, List.length_append]; exact hown2, hb2⟩
                  case measure => simp [intOf]; omega
              · have HS2 := Lib.hid (PickState.low (k := k) HST.out HTr.out hnp)
                clear HST
                go_wp2_with fail
                go_roundw
                case rel => exact ⟨k + 1, sum, by omega, by go_num, by go_num, by rw [HT2.out]; exact HS2.out, by rw [HT2.out, pl, List.map_append, List.length_append]; exact hown2, hb2⟩
                case measure => simp [intOf]; omega
            · have HT2 := Lib.hid (by have h := HT.out; rw [if_neg (fun h => htt h.2)] at h; exact h)
              have hb1 : ((tier n : Int) == (t : Int)) = false := by simp; omega
              clear HT htt
              go_wp2_with (go_at_call 19; go_must (refine HC.out.mono ?_); rintro e w' ⟨rfl, rfl⟩)
              go_roundw
              case rel => exact ⟨k + 1, sum, by omega, rfl, by go_num, by rw [HT2.out]; exact HST.out, by rw [HT2.out]; exact hown, hbr⟩
              case measure => simp [intOf]; omega
          · have HE : placesTo l t l.length = placesTo l t k ∧ ((k < l.length ∧ (placesTo l t k).1.length = 4) ∨ k = l.length) := by
              rcases Nat.lt_or_ge k l.length with h | h
              · have h4 : (placesTo l t k).1.length = 4 := by omega
                refine ⟨?_, .inl ⟨h, h4⟩⟩
                have := placesTo_stop l t k h4 (l.length - k)
                rwa [show k + (l.length - k) = l.length by omega] at this
              · obtain rfl : k = l.length := by omega
                exact ⟨rfl, .inr rfl⟩
            obtain ⟨HE1, HE2⟩ := HE
            have hfit := hst.fits
            obtain ⟨hsu1, hsu2⟩ : 0 ≤ sum ∧ sum ≤ 18446744073709551615 := ⟨hst.1, hst.2.1⟩
            have HF : fitsAt l t = true ↔ ((placesTo l t k).1.length = 4 ∧ (placesTo l t k).2 ≤ 65536) := by rw [fitsAt_iff, HE1]
            have HK2 := HK.out.2.2.2 t htl
            rw [HE1] at HK2
            have HK1 := HK.out.2.2.1 t htl
            have HR := Lib.hid hr2
            clear HE1 hgo hst hr2
            obtain ⟨A1, c1', rfl, -⟩ := own_slice hown
            generalize placesTo l t k = p at HE2 hfit HF HK2 hown hp4 ⊢
            by_cases hF : fitsAt l t = true
            · obtain ⟨h3, h3', h3''⟩ := hfit.1 (HF.1 hF)
              have hnl : ¬ (t : Int) < T := fun h => by have := HK1 h; rw [this] at hF; cases hF
              have hq4 : ((p.1.length : Int) == 4) = true := by simp; omega
              have hq3 : decide ((p.1.length : Int) < 4) = false := by simp; omega
              by_cases hTt : (t : Int) = T
              · obtain ⟨-, hpm⟩ := HK2 hTt
                have hR3 := Reads.of_own hown
                rw [hpm] at hR3
                obtain ⟨b4, off4, rfl, _, hcp⟩ := hR3.at_ (k := 0) (by simp; omega)
                clear hfit HF HK2 HK1 hF hR3
                have e0 : wr.cell? ⟨b4, off4, none⟩ = some (.int .i64 m[0]) := by have := pl_get hcp (k := 0) (by omega); simpa using this
                have e1 : wr.cell? ⟨b4, off4 + 1, none⟩ = some (.int .i64 m[1]) := pl_get hcp (k := 1) (by omega)
                have e2 : wr.cell? ⟨b4, off4 + 2, none⟩ = some (.int .i64 m[2]) := pl_get hcp (k := 2) (by omega)
                have e3 : wr.cell? ⟨b4, off4 + 3, none⟩ = some (.int .i64 m[3]) := pl_get hcp (k := 3) (by omega)
                have g0 : wr.cell? ⟨b2, off2, none⟩ = some (.int .i64 m[0]) := (hbr.cell hb2lt).trans D0.out
                have g1 : wr.cell? ⟨b2, off2 + 1, none⟩ = some (.int .i64 m[1]) := (hbr.cell hb2lt).trans D1.out
                have g2 : wr.cell? ⟨b2, off2 + 2, none⟩ = some (.int .i64 m[2]) := (hbr.cell hb2lt).trans D2.out
                have g3 : wr.cell? ⟨b2, off2 + 3, none⟩ = some (.int .i64 m[3]) := (hbr.cell hb2lt).trans D3.out
                have H3 := Lib.hid h3
                have hp4a : (0 : Int) < (p.1.length : Int) := by omega
                have hp4b : (1 : Int) < (p.1.length : Int) := by omega
                have hp4c : (2 : Int) < (p.1.length : Int) := by omega
                have hp4d : (3 : Int) < (p.1.length : Int) := by omega
                clear hp4 h3 hcp
                generalize m[0] = i0 at e0 g0
                generalize m[1] = i1 at e1 g1
                generalize m[2] = i2 at e2 g2
                generalize m[3] = i3 at e3 g3
                have u0 : ((i0 : Int) != (i0 : Int)) = false := by simp
                have u1 : ((i1 : Int) != (i1 : Int)) = false := by simp
                have u2 : ((i2 : Int) != (i2 : Int)) = false := by simp
                have u3 : ((i3 : Int) != (i3 : Int)) = false := by simp
                have hq5 : ((t : Int) == T) = true := by simp; omega
                have hq6 : decide ((t : Int) < T) = false := by simp; omega
                have HPM := Lib.hid hpm
                clear D0 D1 D2 D3 hTt hpm h4 hown hnl
                have hq7 : decide ((t : Int) < 16) = true := by simp; omega
                have hq8 : decide (sum ≤ 65536) = true := by simp; omega
                rcases HE2 with ⟨hk1, -⟩ | rfl
                all_goals
                  go_wp2_with fail
                  go_quiet (fail)
                  go_wp2_with fail
                  go_roundw
                  case rel => exact ⟨t + 1, by omega, by go_num, by first | exact hbr | exact below_drewN hbr⟩
                  case measure => simp [intOf]; omega
              · clear hfit HF HK2 HK1 hF
                have H3 := Lib.hid h3
                clear hp4 h3
                have hq7 : decide ((t : Int) < 16) = true := by simp; omega
                have hq8 : decide (sum ≤ 65536) = true := by simp; omega
                have hq5 : ((t : Int) == T) = false := by simp; omega
                have hq6 : decide ((t : Int) < T) = false := by simp; omega
                rcases HE2 with ⟨hk1, -⟩ | rfl
                all_goals
                  go_wp2_with fail
                  go_quiet (fail)
                  go_wp2_with fail
                  go_roundw
                  case rel => exact ⟨t + 1, by omega, by go_num, by first | exact hbr | exact below_drewN hbr⟩
                  case measure => simp [intOf]; omega
            · have hnf : ¬ (p.1.length = 4 ∧ sum ≤ 65536 ∧ t < 16) := fun h => hF (HF.2 (hfit.2 h))
              have hTt : ¬ (t : Int) = T := fun h => hF (HK2 h).1
              have hTt2 : (t : Int) < T ∨ T < (t : Int) := by omega
              clear hfit HF HK2 HK1 hF
              have h3 : p.1.length < 4 ∨ (p.1.length = 4 ∧ 65536 < sum) ∨ (p.1.length = 4 ∧ sum ≤ 65536 ∧ 16 ≤ t) := by omega
              clear hnf
              rcases h3 with h3 | ⟨h3, h3'⟩ | ⟨h3, h3', h3''⟩
              · obtain rfl : k = l.length := by rcases HE2 with ⟨_, h⟩ | h <;> omega
                clear HE2
                have hq4 : ((p.1.length : Int) == 4) = false := by simp; omega
                clear hp4
                rcases hTt2 with hTt2 | hTt2
                · have hq5 : ((t : Int) == T) = false := by simp; omega
                  have hq6 : decide ((t : Int) < T) = true := by simp; omega
                  go_wp2_with fail
                  go_quiet (fail)
                  go_wp2_with fail
                  go_roundw
                  case rel => exact ⟨t + 1, by omega, by go_num, by first | exact hbr | exact below_drewN hbr⟩
                  case measure => simp [intOf]; omega
                · have hq5 : ((t : Int) == T) = false := by simp; omega
                  have hq6 : decide ((t : Int) < T) = false := by simp; omega
                  go_wp2_with fail
                  go_quiet (fail)
                  go_wp2_with fail
                  go_roundw
                  case rel => exact ⟨t + 1, by omega, by go_num, by first | exact hbr | exact below_drewN hbr⟩
                  case measure => simp [intOf]; omega
              · have hq4 : ((p.1.length : Int) == 4) = true := by simp; omega
                have H3 := Lib.hid h3
                have hq3 : decide ((p.1.length : Int) < 4) = false := by simp; omega
                clear hp4 h3
                have hq7 : decide (sum ≤ 65536) = false := by simp; omega
                rcases HE2 with ⟨hk1, -⟩ | rfl
                all_goals
                  rcases hTt2 with hTt2 | hTt2
                  · have hq5 : ((t : Int) == T) = false := by simp; omega
                    have hq6 : decide ((t : Int) < T) = true := by simp; omega
                    go_wp2_with fail
                    go_quiet (fail)
                    go_wp2_with fail
                    go_roundw
                    case rel => exact ⟨t + 1, by omega, by go_num, by first | exact hbr | exact below_drewN hbr⟩
                    case measure => simp [intOf]; omega
                  · have hq5 : ((t : Int) == T) = false := by simp; omega
                    have hq6 : decide ((t : Int) < T) = false := by simp; omega
                    go_wp2_with fail
                    go_quiet (fail)
                    go_wp2_with fail
                    go_roundw
                    case rel => exact ⟨t + 1, by omega, by go_num, by first | exact hbr | exact below_drewN hbr⟩
                    case measure => simp [intOf]; omega
              · have hq4 : ((p.1.length : Int) == 4) = true := by simp; omega
                have H3 := Lib.hid h3
                have hq3 : decide ((p.1.length : Int) < 4) = false := by simp; omega
                clear hp4 h3
                have hq7 : decide ((t : Int) < 16) = false := by simp; omega
                have hq8 : decide (sum ≤ 65536) = true := by simp; omega
                rcases HE2 with ⟨hk1, -⟩ | rfl
                all_goals
                  rcases hTt2 with hTt2 | hTt2
                  · have hq5 : ((t : Int) == T) = false := by simp; omega
                    have hq6 : decide ((t : Int) < T) = true := by simp; omega
                    go_wp2_with fail
                    go_quiet (fail)
                    go_wp2_with fail
                    go_roundw
                    case rel => exact ⟨t + 1, by omega, by go_num, by first | exact hbr | exact below_drewN hbr⟩
                    case measure => simp [intOf]; omega
                  · have hq5 : ((t : Int) == T) = false := by simp; omega
                    have hq6 : decide ((t : Int) < T) = false := by simp; omega
                    go_wp2_with fail
                    go_quiet (fail)
                    go_wp2_with fail
                    go_roundw
                    case rel => exact ⟨t + 1, by omega, by go_num, by first | exact hbr | exact below_drewN hbr⟩
                    case measure => simp [intOf]; omega
      · obtain rfl : t = 40 := by omega
        go_wp2_with fail
        go_ret
        exact ⟨rfl, HB.out.trans (hbr.mono hsw)⟩
end Go.Proofs.Ytpfladolkkhfdaa
