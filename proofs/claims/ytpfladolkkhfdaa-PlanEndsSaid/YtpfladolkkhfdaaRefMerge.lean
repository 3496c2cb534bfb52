/- The walk of the reference's Merge. -/
import Derived.Test.YtpfladolkkhfdaaMergem
import Derived.Deep.RegionWith
namespace Go.Proofs.Ytpfladolkkhfdaa
set_option linter.unusedVariables false
open Go.RowKit

/-- Places as ints. -/
abbrev pl (p : List Nat) : List Value := p.map fun (n : Nat) => (Value.int .i64 (n : Int))
theorem RefState.bounds {p : List Nat × Nat} {f : Bool} {s : Int} (h : RefState p f s) : 0 ≤ s ∧ s ≤ 65536 * p.1.length := ⟨h.1, h.2.1⟩

set_option maxHeartbeats 4000000 in
set_option maxRecDepth 100000 in
theorem refMerge_any (l : List Sg) (A : Option Addr) (c : Nat) (w : World) (hr : Reads w w.heap.size A (segCells l)) (hl : l.length ≤ 7000000000000) :
    Calls Try.prog 25 #[.slice A l.length c] w fun e w' => ∃ v, e = .returned v ∧ w'.ownsRow w.heap.size 3 1 v (merge l).length (pl (merge l)) ∧ Below w.heap.size w w' := by
  go_enter Try.func25, Try.ntmps25
  go_wp2
  go_loopw [3] (fun t wr => ∃ k : Nat, k ≤ 40 ∧ t = .int .i64 k ∧ Hid (mergeFrom l k (40 - k) = merge l) ∧ Below w.heap.size w wr) (fun t _ => 40 - (intOf t).toNat)
  case atStart => exact ⟨0, by omega, rfl, Lib.hid (merge_40 l), Below.refl _ _⟩
  case round =>
    obtain ⟨t, ht, rfl, HM, hbr⟩ := hrel
    have hsr := hbr.size
    rcases Nat.lt_or_ge t 40 with htl | htg
    · have HM2 : Hid ((if fitsAt l t then (placesTo l t l.length).1 else mergeFrom l (t + 1) (40 - (t + 1))) = merge l) := Lib.hid (by
        have h := HM.out
        rw [show 40 - t = (40 - (t + 1)) + 1 by omega, mergeFrom] at h
        exact h)
      clear HM
      go_wp2
      simp only [show decide ((t : Int) < 40) = true from decide_eq_true (by omega)]
      go_loopw [4, 5, 6, 7] (fun v f s i wi => ∃ (k : Nat) (fb : Bool) (sum : Int), k ≤ l.length ∧ f = .bool fb ∧ s = .int .i64 sum ∧ i = .int .i64 k ∧ RefState (placesTo l t k) fb sum ∧ wi.ownsRow w.heap.size 3 1 v (placesTo l t k).1.length (pl (placesTo l t k).1) ∧ Below w.heap.size w wi) (fun _ _ _ i _ => l.length - (intOf i).toNat)
      case atStart => exact ⟨0, true, 0, Nat.zero_le _, rfl, rfl, rfl, RefState.start, World.ownsRow_nil _ _ _ _, hbr⟩
      case round =>
        clear hbr hsr
        obtain ⟨k, fb, sum, hk, rfl, rfl, rfl, hst, hown, hbr⟩ := hrel
        have hsr := hbr.size
        have hp4 := placesTo_le l t k
        have hsb := hst.bounds
        by_cases hgo : k < l.length ∧ (placesTo l t k).1.length < 4
        · obtain ⟨hlt, hp3⟩ := hgo
          have HT := Lib.hid (placesTo_succ (t := t) hlt)
          obtain ⟨b, off, rfl, _, c0, c1, c2, c3⟩ := seg_at (hr.below hbr) hlt
          have hseg := fun w' (hb' : Below w.heap.size w w') => seg_at (hr.below hb') hlt
          have HR := Lib.hid hr
          clear hr c0 c2 c3
          generalize l[k] = s at c1 HT hseg
          obtain ⟨s0, s1, s2, s3⟩ := s
          simp only [vi] at c1 HT hseg
          have hn := i64_range s1
          generalize s1.toInt = n at c1 HT hseg hn
          obtain ⟨hn1, hn2⟩ := hn
          have HC := Lib.hid (refTier_any n wr hn1 hn2)
          have HSEG := Lib.hid hseg
          clear hseg
          obtain ⟨A1, c1', rfl, -⟩ := own_slice hown
          generalize hP : placesTo l t k = p at hst hown hp4 hsb hp3 HT
          have HST := Lib.hid hst
          clear hst hP
          have ht31 := tier_le n hn2
          by_cases htt : tier n = t
          · have HT2 := Lib.hid (by have h := HT.out; rw [if_pos ⟨hp3, htt⟩] at h; exact h)
            have hb1 : ((tier n : Int) == (t : Int)) = true := by simp; omega
            clear HT htt
            have hs2 : 0 ≤ sum + n ∨ n ≤ 0 := by omega
            cases fb with
            | false =>
              have HS2 := Lib.hid (RefState.no (k := k) (n := n) HST.out)
              clear HST
              go_wp2_with (first | (go_at_call 20; go_must (refine HC.out.mono ?_); rintro e w' ⟨rfl, rfl⟩) | (at_builtin; go_must (refine app1b rowInt rfl _ _ rfl _ w.heap.size _ _ _ rfl (by exact hown) _ rfl rfl rfl (by omega) hsr ?_)))
              intro v2 w2 hown2 hg2
              have hb2 := hg2.below hbr hown hsr
              obtain ⟨b2, off2, heq2, _, -, d1, -, -⟩ := HSEG.out w2 hb2
              obtain ⟨rfl, rfl⟩ : b = b2 ∧ off = off2 := by simpa using heq2
              clear hg2 hown hbr c1 heq2
              go_wp2_with fail
              go_roundw
              case rel => exact ⟨k + 1, false, sum, by omega, rfl, rfl, by go_num, by rw [HT2.out]; exact HS2.out, by rw [HT2.out, pl, List.map_append, List.length_append]; exact hown2, hb2⟩
              case measure => simp [intOf]; omega
            | true =>
              rcases Int.lt_or_le 65536 n with hbig | hsm
              · have HS2 := Lib.hid (RefState.high (k := k) (n := n) HST.out hbig)
                clear HST
                go_wp2_with (first | (go_at_call 20; go_must (refine HC.out.mono ?_); rintro e w' ⟨rfl, rfl⟩) | (at_builtin; go_must (refine app1b rowInt rfl _ _ rfl _ w.heap.size _ _ _ rfl (by exact hown) _ rfl rfl rfl (by omega) hsr ?_)))
                intro v2 w2 hown2 hg2
                have hb2 := hg2.below hbr hown hsr
                obtain ⟨b2, off2, heq2, _, -, d1, -, -⟩ := HSEG.out w2 hb2
                obtain ⟨rfl, rfl⟩ : b = b2 ∧ off = off2 := by simpa using heq2
                clear hg2 hown hbr c1 heq2
                go_wp2_with fail
                go_roundw
                case rel => exact ⟨k + 1, false, sum, by omega, rfl, rfl, by go_num, by rw [HT2.out]; exact HS2.out, by rw [HT2.out, pl, List.map_append, List.length_append]; exact hown2, hb2⟩
                case measure => simp [intOf]; omega
              · rcases Int.lt_or_le 0 n with hpos | hnp
                · have HS2 := Lib.hid (RefState.yes (k := k) (n := n) HST.out hsm hpos)
                  clear HST
                  go_wp2_with (first | (go_at_call 20; go_must (refine HC.out.mono ?_); rintro e w' ⟨rfl, rfl⟩) | (at_builtin; go_must (refine app1b rowInt rfl _ _ rfl _ w.heap.size _ _ _ rfl (by exact hown) _ rfl rfl rfl (by omega) hsr ?_)))
                  intro v2 w2 hown2 hg2
                  have hb2 := hg2.below hbr hown hsr
                  obtain ⟨b2, off2, heq2, _, -, d1, -, -⟩ := HSEG.out w2 hb2
                  obtain ⟨rfl, rfl⟩ : b = b2 ∧ off = off2 := by simpa using heq2
                  clear hg2 hown hbr c1 heq2
                  go_wp2_with fail
                  go_roundw
                  case rel => exact ⟨k + 1, true, sum + n, by omega, rfl, by go_num, by go_num, by rw [HT2.out]; exact HS2.out, by rw [HT2.out, pl, List.map_append, List.length_append]; exact hown2, hb2⟩
                  case measure => simp [intOf]; omega
                · have HS2 := Lib.hid (RefState.low (k := k) (n := n) HST.out hnp)
                  clear HST
                  go_wp2_with (first | (go_at_call 20; go_must (refine HC.out.mono ?_); rintro e w' ⟨rfl, rfl⟩) | (at_builtin; go_must (refine app1b rowInt rfl _ _ rfl _ w.heap.size _ _ _ rfl (by exact hown) _ rfl rfl rfl (by omega) hsr ?_)))
                  intro v2 w2 hown2 hg2
                  have hb2 := hg2.below hbr hown hsr
                  obtain ⟨b2, off2, heq2, _, -, d1, -, -⟩ := HSEG.out w2 hb2
                  obtain ⟨rfl, rfl⟩ : b = b2 ∧ off = off2 := by simpa using heq2
                  clear hg2 hown hbr c1 heq2
                  go_wp2_with fail
                  go_roundw
                  case rel => exact ⟨k + 1, true, sum, by omega, rfl, rfl, by go_num, by rw [HT2.out]; exact HS2.out, by rw [HT2.out, pl, List.map_append, List.length_append]; exact hown2, hb2⟩
                  case measure => simp [intOf]; omega
          · have HT2 := Lib.hid (by have h := HT.out; rw [if_neg (fun h => htt h.2)] at h; exact h)
            have hb1 : ((tier n : Int) == (t : Int)) = false := by simp; omega
            clear HT htt
            go_wp2_with (go_at_call 20; go_must (refine HC.out.mono ?_); rintro e w' ⟨rfl, rfl⟩)
            go_roundw
            case rel => exact ⟨k + 1, fb, sum, by omega, rfl, rfl, by go_num, by rw [HT2.out]; exact HST.out, by rw [HT2.out]; exact hown, hbr⟩
            case measure => simp [intOf]; omega
        · have HE : placesTo l t l.length = placesTo l t k ∧ ((k < l.length ∧ (placesTo l t k).1.length = 4) ∨ k = l.length) := by
            rcases Nat.lt_or_ge k l.length with h | h
            · have h4 : (placesTo l t k).1.length = 4 := by omega
              refine ⟨?_, .inl ⟨h, h4⟩⟩
              have := placesTo_stop l t k h4 (l.length - k)
              rwa [show k + (l.length - k) = l.length by omega] at this
            · obtain rfl : k = l.length := by omega
              exact ⟨rfl, .inr rfl⟩
          obtain ⟨HE1, HE2⟩ := HE
          have hfit := hst.test
          have HF : fitsAt l t = decide ((placesTo l t k).1.length = 4 ∧ (placesTo l t k).2 ≤ 65536) := by unfold fitsAt; rw [HE1]
          have HM3 := HM2.out
          rw [HE1, HF] at HM3
          have HR := Lib.hid hr
          clear HM2 HE1 HF hgo hst hr
          obtain ⟨A1, c1', rfl, -⟩ := own_slice hown
          generalize placesTo l t k = p at *
          have hx : ∀ (x y : List Nat) (q : Bool), (if decide (p.1.length = 4 ∧ p.2 ≤ 65536) = true then x else y) = if p.1.length = 4 ∧ p.2 ≤ 65536 then x else y := by intro x y q; simp
          rw [hx _ _ true] at HM3
          clear hx
          by_cases h4 : p.1.length = 4
          · have hq4 : ((p.1.length : Int) == 4) = true := by simp; omega
            by_cases h2 : p.2 ≤ 65536
            · rw [if_pos ⟨h4, h2⟩] at HM3
              obtain ⟨rfl, hsum⟩ := hfit.2 h2
              have HM4 := Lib.hid HM3
              clear HM3 hfit h2
              rcases HE2 with ⟨hk1, -⟩ | rfl
              all_goals
                go_wp2_with fail
                go_ret
                refine ⟨_, rfl, ?_, hbr⟩
                rw [← HM4.out]
                exact hown
            · rw [if_neg (fun h => h2 h.2)] at HM3
              have HM4 := Lib.hid HM3
              have hno : ¬ (fb = true ∧ sum ≤ 65536) := fun h => h2 (hfit.1 h)
              clear HM3 hfit h2
              rcases HE2 with ⟨hk1, -⟩ | rfl
              all_goals
                cases fb with
                | false =>
                  clear hno
                  go_wp2_with fail
                  go_roundw
                  case rel => exact ⟨t + 1, by omega, by go_num, HM4, hbr⟩
                  case measure => simp [intOf]; omega
                | true =>
                  have hsum : 65536 < sum := by have h := hno; simp at h; exact h
                  clear hno
                  go_wp2_with fail
                  go_roundw
                  case rel => exact ⟨t + 1, by omega, by go_num, HM4, hbr⟩
                  case measure => simp [intOf]; omega
          · have hq4 : ((p.1.length : Int) == 4) = false := by simp; omega
            rw [if_neg (fun h => h4 h.1)] at HM3
            have HM4 := Lib.hid HM3
            clear HM3 hfit
            obtain rfl : k = l.length := by rcases HE2 with ⟨_, h⟩ | h <;> omega
            clear HE2
            go_wp2_with fail
            go_roundw
            case rel => exact ⟨t + 1, by omega, by go_num, HM4, hbr⟩
            case measure => simp [intOf]; omega
    · obtain rfl : t = 40 := by omega
      have HE : Hid (merge l = []) := Lib.hid (by rw [← HM.out]; simp [mergeFrom])
      clear HM
      go_wp2_with fail
      go_ret
      refine ⟨_, rfl, ?_, hbr⟩
      rw [HE.out]
      exact World.ownsRow_nil _ _ _ _
end Go.Proofs.Ytpfladolkkhfdaa
