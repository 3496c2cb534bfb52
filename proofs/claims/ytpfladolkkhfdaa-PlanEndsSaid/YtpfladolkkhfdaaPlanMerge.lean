/- The walk of the program's Merge. -/
import Derived.Test.YtpfladolkkhfdaaBox
import Derived.Deep.RegionWith
import Derived.Deep.QuietTactic
import Derived.BigQuiet
namespace Go.Proofs.Ytpfladolkkhfdaa
set_option linter.unusedVariables false
open Go.RowKit

theorem place_step {l : List Sg} {k : Nat} (hk : k < l.length) (h4 : (placesTo l (tier l[k].cnt.toInt) k).1.length < 4) : ∀ j, placesTo l j (k + 1) = if j = tier l[k].cnt.toInt then ((placesTo l (tier l[k].cnt.toInt) k).1 ++ [k], (placesTo l (tier l[k].cnt.toInt) k).2 + capc l[k].cnt.toInt) else placesTo l j k := by
  intro j
  rw [placesTo_succ hk]
  by_cases he : j = tier l[k].cnt.toInt
  · subst he
    rw [if_pos ⟨h4, rfl⟩, if_pos rfl]
  · rw [if_neg (fun h => he h.2.symm), if_neg he]
theorem place_stay {l : List Sg} {k : Nat} (hk : k < l.length) (h4 : 4 ≤ (placesTo l (tier l[k].cnt.toInt) k).1.length) : ∀ j, placesTo l j (k + 1) = placesTo l j k := by
  intro j
  rw [placesTo_succ hk, if_neg]
  rintro ⟨h1, h2⟩
  subst h2
  omega

theorem cap_val (S : Nat) (n : Int) (h1 : -9223372036854775808 ≤ n) (h2 : n ≤ 9223372036854775807) :
    (if 65537 < IntKind.i64.wrap (min (S : Int) 65537 + if 65537 < if n < 0 then 0 else n then 65537 else if n < 0 then 0 else n) then (65537 : Int)
      else IntKind.i64.wrap (min (S : Int) 65537 + if 65537 < if n < 0 then 0 else n then 65537 else if n < 0 then 0 else n)) = min ((S + capc n : Nat) : Int) 65537 := by
  have e : IntKind.i64.wrap (min (S : Int) 65537 + if 65537 < if n < 0 then 0 else n then 65537 else if n < 0 then 0 else n) = min (S : Int) 65537 + if 65537 < if n < 0 then 0 else n then 65537 else if n < 0 then 0 else n :=
    IntWalk.i64_in _ (by split <;> split <;> omega)
  rw [e]
  unfold capc
  split <;> split at * <;> split at * <;> omega

theorem run_index32 (w : World) (cs : Array Value) (t : Nat) (v : Value) (h : cs[t]? = some v) (ht : t < 32) :
    (Instr.index 57 (.agg cs) (.int .i64 t)).run Try.prog w = .ok v w := by
  have h1 : (0 : Int) ≤ (t : Int) ∧ (t : Int) < ((32 : Nat) : Int) := by omega
  simp [Instr.index, run_underlying Try.underlying57, asIntOf, h1, ht, part, go_sem, h]

set_option maxHeartbeats 4000000 in
set_option maxRecDepth 100000 in
theorem planMerge_any (l : List Sg) (A : Option Addr) (c : Nat) (w : World) (hr : Reads w w.heap.size A (segCells l)) (hl : l.length ≤ 7000000000000) :
    Calls Try.prog 24 #[.slice A l.length c] w fun e w' => ∃ v, e = .returned v ∧ w'.ownsRow w.heap.size 3 1 v (merge l).length (pl (merge l)) ∧ Below w.heap.size w w' := by
  go_enter Try.func24, Try.ntmps24
  go_wp2
  go_loopw [12] (fun i wr => ∃ (k : Nat) (V : Nat → Value), k ≤ l.length ∧ i = .int .i64 k ∧ MI l w wr k V) (fun i _ => l.length - (intOf i).toNat)
  case atStart => exact ⟨0, _, Nat.zero_le _, rfl, by exact MI.start⟩
  case round =>
    obtain ⟨k, V, hk, rfl, hm⟩ := hrel
    rcases Nat.lt_or_ge k l.length with hlt | hge
    · obtain ⟨b, off, rfl, _, c0, c1, c2, c3⟩ := seg_at (hr.below hm.below) hlt
      have HP4 := Lib.hid (place_step hlt)
      have HP5 := Lib.hid (place_stay hlt)
      have hsz := hm.size
      generalize l[k] = s at c0 c1 c2 c3 HP4 HP5
      obtain ⟨s0, s1, s2, s3⟩ := s
      simp only [vi] at c0 c1 c2 c3 HP4 HP5
      generalize s0.toInt = i0 at c0
      have hn := i64_range s1
      generalize s1.toInt = n at c1 HP4 HP5 hn
      obtain ⟨hn1, hn2⟩ := hn
      generalize s2.toInt = i2 at c2
      generalize s3.toInt = i3 at c3
      have ht31 := tier_le n hn2
      have HC := Lib.hid (fun W => tier_any n W hn1 hn2)
      generalize tier n = t at ht31 HC HP4 HP5
      have HMI := Lib.hid hm
      have HR := Lib.hid hr
      clear hm hr
      go_wp2_with fail
      refine (HC.out _).mono ?_
      rintro e W1 ⟨rfl, hW⟩
      have m1 : MI l w W1 k V := by rw [← hW]; exact HMI.out.alloc _
      have e1 : W1.cell? ⟨wr.heap.size, 1, none⟩ = some (.int .i64 n) := by rw [← hW, World.cell?_alloc_new]; rfl
      have hz : wr.heap.size < W1.heap.size := by rw [← hW]; simp
      clear hW c0 c1 c2 c3 HC
      obtain ⟨g1, g2⟩ := m1.tiers t (by omega)
      have hown := m1.own t (by omega)
      have hp4 := placesTo_le l t k
      have HM1 := Lib.hid m1
      clear m1
      have hv := own_slice hown
      obtain ⟨A1, c1', hv, -⟩ := hv
      have HV := Lib.hid hv
      rw [hv] at g1 hown
      clear hv
      by_cases h4 : (placesTo l t k).1.length < 4
      · have HP6 := Lib.hid (HP4.out h4)
        clear HP4 HP5
        go_wp2_with (at_builtin; go_must (refine app1b rowInt rfl _ _ rfl _ (w.heap.size + 2) _ _ _ rfl (by exact hown) W1.heap.size rfl rfl rfl (by omega) (by omega) ?_))
        intro v2 w2 hown2 hg2
        rw [← HV.out] at hg2
        have hrow : ∀ r, (V t).ownBlock = some r → w.heap.size + 2 ≤ r ∧ r < W1.heap.size := fun r hr => (HM1.out.own t (by omega)).lt r hr
        have hne : ∀ r, (V t).ownBlock = some r → r ≠ wr.heap.size := fun r hr => by have := ((HMI.out.own t (by omega)).lt r hr).2; omega
        obtain ⟨A2, c2, rfl, -⟩ := own_slice hown2
        have q1 := (HM1.out.tiers.grown hg2.by_ (fun e => by have := hrow _ e.symm; omega)) t (by omega)
        have q2 := (HM1.out.sums.grown hg2.by_ (fun e => by have := hrow _ e.symm; omega)) t (by omega)
        have q3 := hg2.by_.cell e1 (fun e => hne _ e.symm rfl)
        obtain ⟨q1, q1f⟩ := q1
        obtain ⟨q2, q2f⟩ := q2
        have HG := Lib.hid hg2
        have HO := Lib.hid hown2
        clear hown hown2 hg2 e1 g1 g2 hrow hne
        go_wp2_with fail
        generalize hW3 : w2.setCell _ _ = W3
        have q4 : W3.cell? ⟨w.heap.size + 1, t, none⟩ = some (.int .i64 (min ((placesTo l t k).2 : Int) 65537)) := by
          rw [← hW3, World.cell?_setCell_other _ _ _ _ (by intro e; injection e; omega)]; exact q2
        have q4f : W3.frozen? ⟨w.heap.size + 1, t, none⟩ = false := by rw [← hW3, World.frozen?_setCell]; exact q2f
        have q5 : W3.cell? ⟨wr.heap.size, 1, none⟩ = some (.int .i64 n) := by
          rw [← hW3, World.cell?_setCell_other _ _ _ _ (by intro e; injection e; omega)]; exact q3
        have HW := Lib.hid hW3
        clear hW3 q1 q1f q2 q2f q3
        generalize hsum : (placesTo l t k).2 = S at q4 HP6
        have b1 : (0 : Int) ≤ (t : Int) := by omega
        have b2 : (t : Int) < 32 := by omega
        have b3 : IntKind.i64.wrap (min (S : Int) 65537 + min (max n 0) 65537) = min (S : Int) 65537 + min (max n 0) 65537 := IntWalk.i64_in _ (by omega)
        have hstep := HM1.out.take (by omega) HP6.out HG.out HO.out
        rw [HW.out] at hstep
        have HSTEP := Lib.hid hstep
        clear hstep
        go_region_with (fail)
        all_goals
          rw [cap_val S n hn1 hn2]
          go_wp2_with fail
          go_roundw
          case rel => exact ⟨k + 1, _, by omega, by go_num, by first | exact HSTEP.out.drew | exact HSTEP.out | exact HSTEP.out.drewN _⟩
          case measure => simp [intOf]; omega
      · have HP6 := Lib.hid (HP5.out (by omega))
        clear HP5 HP4
        go_wp2_with fail
        go_roundw
        case rel => exact ⟨k + 1, V, by omega, by go_num, HM1.out.same HP6.out⟩
        case measure => simp [intOf]; omega
    · obtain rfl : k = l.length := by omega
      have hrange : wr.rangeAt w.heap.size 0 ((List.range 32).map V) := by
        intro j v hv
        rw [List.getElem?_map] at hv
        by_cases hj : j < 32
        · rw [List.getElem?_range hj] at hv
          rw [Nat.zero_add, (hm.tiers j hj).1]
          exact hv
        · rw [List.getElem?_eq_none (by simp; omega)] at hv
          cases hv
      have HRG := Lib.hid hrange
      have HMI := Lib.hid hm
      clear hrange hm
      have harr : ∀ t, t < 32 → ((List.range 32).map V).toArray[t]? = some (V t) := fun t ht => by simp [ht]
      have hcs : ((List.range 32).map V).length = 32 := by simp
      generalize (List.range 32).map V = cs at HRG harr hcs
      go_wp2_with (refine wpList_load_mid rfl 57 _ rfl w.heap.size 0 rfl cs _ HRG.out Try.underlying57 rfl (by rw [hcs]; kernel_rfl) ?_)
      clear HRG
      go_loop [46] (fun i => ∃ t : Nat, t ≤ 32 ∧ i = .int .i64 t ∧ Hid (mergeFrom l t (32 - t) = merge l)) (fun i => 32 - (intOf i).toNat)
      case atStart => exact ⟨0, by omega, rfl, Lib.hid rfl⟩
      case round =>
        obtain ⟨t, ht, rfl, HM⟩ := hrel
        rcases Nat.lt_or_ge t 32 with htl | htg
        · have HM2 : Hid ((if fitsAt l t then (placesTo l t l.length).1 else mergeFrom l (t + 1) (32 - (t + 1))) = merge l) := Lib.hid (by
            have h := HM.out
            rw [show 32 - t = (32 - (t + 1)) + 1 by omega, mergeFrom] at h
            exact h)
          clear HM
          have ha := harr t htl
          have hown := HMI.out.own t htl
          have g2 : wr.cell? ⟨w.heap.size + 1, t, none⟩ = some (.int .i64 (min ((placesTo l t l.length).2 : Int) 65537)) := (HMI.out.sums t htl).1
          obtain ⟨A1, c1', hv, -⟩ := own_slice hown
          rw [hv] at ha hown
          have hidx := run_index32 wr cs.toArray t _ ha htl
          clear hv harr ha
          have HF : fitsAt l t = decide ((placesTo l t l.length).1.length = 4 ∧ (placesTo l t l.length).2 ≤ 65536) := rfl
          have HM3 := HM2.out
          rw [HF] at HM3
          clear HM2 HF
          generalize placesTo l t l.length = p at *
          have hx : ∀ (x y : List Nat), (if decide (p.1.length = 4 ∧ p.2 ≤ 65536) = true then x else y) = if p.1.length = 4 ∧ p.2 ≤ 65536 then x else y := by intro x y; simp
          rw [hx] at HM3
          clear hx
          have hmn : min (p.2 : Int) 65537 ≤ 65536 ↔ p.2 ≤ 65536 := by omega
          generalize min (p.2 : Int) 65537 = m at g2 hmn
          by_cases h4 : p.1.length = 4
          · have hq4 : ((p.1.length : Int) == 4) = true := by simp; omega
            by_cases h2 : p.2 ≤ 65536
            · rw [if_pos ⟨h4, h2⟩] at HM3
              have hm2 := hmn.2 h2
              have HM4 := Lib.hid HM3
              have HO := Lib.hid hown
              have H4 := Lib.hid h4
              clear HM3 h2 hmn hown h4
              go_wp2_with fail
              go_ret
              refine ⟨_, rfl, ?_, HMI.out.below⟩
              rw [← HM4.out]
              exact own_base (base := w.heap.size + 2) HO.out (by omega)
            · rw [if_neg (fun h => h2 h.2)] at HM3
              have hm2 : 65536 < m := by have := mt hmn.1 h2; omega
              have hq5 : decide (m ≤ 65536) = false := decide_eq_false (by omega)
              have HM4 := Lib.hid HM3
              clear HM3 h2 hmn hown
              go_wp2_with fail
              go_round
              case rel => exact ⟨t + 1, by omega, by go_num, HM4⟩
              case measure => simp [intOf]; omega
          · have hq4 : ((p.1.length : Int) == 4) = false := by simp; omega
            rw [if_neg (fun h => h4 h.1)] at HM3
            have HM4 := Lib.hid HM3
            clear HM3 hmn hown
            go_wp2_with fail
            go_round
            case rel => exact ⟨t + 1, by omega, by go_num, HM4⟩
            case measure => simp [intOf]; omega
        · obtain rfl : t = 32 := by omega
          have HE : Hid (merge l = []) := Lib.hid (by rw [← HM.out]; simp [mergeFrom])
          clear HM harr
          go_wp2_with fail
          go_ret
          refine ⟨_, rfl, ?_, HMI.out.below⟩
          rw [HE.out]
          exact World.ownsRow_nil _ _ _ _
end Go.Proofs.Ytpfladolkkhfdaa
