/- VarintKeeps: the walk of the law. -/
import Derived.Test.YtjbachplnkonkaaSizesLaw
import Derived.Deep.RegionWith
import Derived.Deep.QuietTactic
import Derived.BigQuiet
namespace Go.Proofs.Ytjbachplnkonkaa
set_option linter.unusedVariables false
open Go.RowKit
open Varm

set_option maxHeartbeats 2000000 in
set_option maxRecDepth 100000 in
theorem keeps_any (us : List UInt64) (A : Option Addr) (c : Nat) (at_ : Int) (w : World) (hr : Reads w w.heap.size A (us.map vq)) (hc : us.length ≤ c) (hl : us.length ≤ 1048576) :
    Calls Try.prog 8 #[.slice A us.length c, .int .i64 at_] w fun e w' => e = .returned (.bool true) ∧ Below w.heap.size w w' := by
  have hpl := putAll_length us
  go_enter Try.func8, Try.ntmps8
  go_wp2_with (first
    | (go_at_call 14; refine (awake1_any _).mono ?_; rintro e w1 ⟨rfl, hb1⟩; have hs1 := hb1.size)
    | (at_builtin; go_must (refine app rowNum rfl (.tmp 17) (.tmp 18) rfl w1.heap.size _ _ _ rfl (World.ownsRow_lit (size := 1) w1 #[] 0 (Nat.le_refl _) (by decide) rfl) w.heap.size _ _ _ (us.map vq) rfl (by simp) (by exact (hr.below hb1).alloc hs1 _) (oneCell_vq _) (by omega) (by simp) ?_)))
  intro v2 w2 hown2 hg2
  have hl0 := World.ownsRow_lit (base := w1.heap.size) (e := 29) (size := 1) w1 #[] 0 (Nat.le_refl _) (by decide) rfl
  have hb2 : Below w1.heap.size w1 w2 := hg2.below ((Below.refl w1.heap.size w1).alloc (Nat.le_refl _) _) hl0 (by simp)
  have hs2 := hb2.size
  go_wp2_with (at_builtin; go_must (refine app1 rowNum rfl _ _ rfl _ w1.heap.size _ _ _ rfl (by exact hown2) rfl rfl (by omega) hs2 ?_))
  intro v3 w3 hown3 hg3
  have hb3 : Below w1.heap.size w1 w3 := hg3.below hb2 hown2 hs2
  have hs3 := hb3.size
  have hb03 := hb1.trans (hb3.mono hs1)
  clear hg2 hg3 hown2 hl0 hb2 hb3
  obtain ⟨A3, c3, rfl, hc3, -⟩ := own_slice hown3
  have hr3 : Reads w3 w3.heap.size A3 (us.map vq) := by
    have := (Reads.of_own hown3).take us.length
    rwa [List.take_left' (by simp)] at this
  go_wp2_with fail
  refine (put_any us A3 c3 w3 w3.heap.size (Nat.le_refl _) hr3 (by omega)).mono ?_
  rintro e w4 ⟨v4, rfl, hown4, hb4⟩
  obtain ⟨A4, c4, rfl, hc4, -⟩ := own_slice hown4
  have hs4 := hb4.size
  go_wp2_with fail
  refine (put_any us A3 c3 w4 w4.heap.size (Nat.le_refl _) ((hr3.below hb4).more hs4) (by omega)).mono ?_
  rintro e w5 ⟨v5, rfl, hown5, hb5⟩
  obtain ⟨A5, c5, rfl, hc5, -⟩ := own_slice hown5
  have hs5 := hb5.size
  have hstr5 := run_str (c := c5) (Reads.of_own hown5) rfl
  have hown45 := own_past hown4 hb5 (Nat.le_refl _)
  have hown35 := own_past hown3 (hb4.trans (hb5.mono hs4)) (Nat.le_refl _)
  have hr5 := hr.below (hb03.trans ((hb4.trans (hb5.mono hs4)).mono (by omega)))
  have HB5 := Lib.hid (hb03.trans ((hb4.trans (hb5.mono hs4)).mono (by omega)))
  have hap45 := own_apart hown4 hown5 (Nat.le_refl _)
  have hap34 := own_apart hown3 hown4 (Nat.le_refl _)
  have hb45 := hown45.lt
  clear hr hb1 hb4 hb5 hb03 hown3 hown4 hr3
  go_wp2_with (go_at_call 18; go_must (refine (get_any (putAll us) A4 c4 at_ w5 _ (Reads.of_own hown45) hc4 (by omega)).mono ?_); rintro e w' ⟨rfl, rfl⟩)
  go_loopw [9] (fun i wr => ∃ k : Nat, k ≤ us.length ∧ i = .int .i64 k ∧ ∃ nn, wr = w5.drewN nn) (fun i _ => us.length - (intOf i).toNat)
  case atStart => exact ⟨0, Nat.zero_le _, rfl, 0, rfl⟩
  case round =>
    obtain ⟨k, hk, rfl, nn, rfl⟩ := hrel
    rcases Nat.lt_or_ge k us.length with hlt | hge
    · obtain ⟨b, off, rfl, _, hcell⟩ := hr5.at_ (k := k) (by simpa using hlt)
      obtain ⟨g, rfl, _, _, _, hcell3, _⟩ := own_store hown35 (by omega)
      have h1 := Reads.num hcell hlt
      have h2 : w5.cell? ⟨g, k, none⟩ = some (.int .u64 (us[k].toNat : Int)) := by rw [hcell3 k (by omega), List.getElem?_append_left (by simpa using hlt)]; simp [hlt]
      clear hcell hcell3
      generalize (us[k].toNat : Int) = x at h1 h2
      have hx : (x != x) = false := by simp
      go_wp2_with fail
      go_quiet (fail)
      go_wp2_with fail
      go_roundw
      case rel => exact ⟨k + 1, by omega, by go_num, nn + nq, rfl⟩
      case measure => simp [intOf]; omega
    · obtain rfl : k = us.length := by omega
      have hownA : (w5.drewN nn).ownsRow w3.heap.size 5 1 (.slice A4 (putAll us).length c4) (putAll us).length ((putAll us).map vb) := hown45
      have hownB : (w5.drewN nn).ownsRow w4.heap.size 5 1 (.slice A5 (putAll us).length c5) (putAll us).length ((putAll us).map vb) := hown5
      have hownF : (w5.drewN nn).ownsRow w1.heap.size 29 1 (.slice A3 (us.length + 1) c3) (us.length + 1) (us.map vq ++ [.int .u64 77]) := hown35
      have hrN : Reads (w5.drewN nn) w.heap.size A (us.map vq) := hr5
      have HB : Hid (Below w.heap.size w (w5.drewN nn)) := Lib.hid (below_drewN HB5.out)
      have hsz : w4.heap.size ≤ (w5.drewN nn).heap.size := hs5
      clear hown45 hown5 hown35 hr5 HB5 hs5 hstr5
      generalize w5.drewN nn = W at *
      go_wp2_with fail
      go_loopw [10] (fun i wr => ∃ (k : Nat) (xs : List Value), k ≤ (putAll us).length ∧ i = .int .i64 k ∧ wr.ownsRow w3.heap.size 5 1 (.slice A4 (putAll us).length c4) (putAll us).length xs ∧ W.grownBy wr (Value.ownBlock (.slice A4 (putAll us).length c4))) (fun i _ => (putAll us).length - (intOf i).toNat)
      case atStart => exact ⟨0, _, Nat.zero_le _, rfl, hownA, World.grownBy.refl _ _⟩
      case round =>
        obtain ⟨k, xs, hk, rfl, hown, hgr⟩ := hrel
        rcases Nat.lt_or_ge k (putAll us).length with hlt | hge
        · obtain ⟨g, rfl, _, _, hfz, hcell, hset⟩ := own_store hown (by omega)
          have hl := hown.1
          have h1 := hcell k hlt
          have hkx : k < xs.length := by omega
          rw [List.getElem?_eq_getElem hkx] at h1
          have h2 := hfz k
          have h3 := hset k (.int .u8 238)
          have hgr2 := hgr.trans h3.2
          generalize xs[k] = old at h1
          clear hcell hfz hset
          go_wp2_with fail
          go_roundw
          case rel => exact ⟨k + 1, xs.set k (.int .u8 238), by omega, by go_num, h3.1, hgr2⟩
          case measure => simp [intOf]; omega
        · obtain rfl : k = (putAll us).length := by omega
          have hszr := hgr.size
          go_wp2_with (at_builtin; go_must (refine app rowByte rfl _ _ rfl w3.heap.size _ _ _ rfl (by exact hown.alloc _) (wr.heap.size + 1) _ _ _ (([1, 2, 3] : List UInt8).map vb) rfl rfl (by exact reads_at rfl) (oneCell_vb _) (by omega) (by simp; omega) ?_))
          intro v6 w6 hown6 hg6
          have hgr6 : W.grownBy w6 (Value.ownBlock (.slice A4 (putAll us).length c4)) := hgr.trans ((World.grownBy_alloc wr _ _).trans hg6.by_)
          have hs6 := hgr6.size
          have hownB6 := hownB.kept hgr6 hap45.1
          have hownF6 := hownF.kept hgr6 hap34.2
          have hrN6 := hrN.grown hgr6 (by omega) (fun g hg => by have := hb45 g hg; omega)
          have HB6 := Lib.hid (HB.out.grown hgr6 (by omega) (fun g hg => by have := hb45 g hg; omega))
          obtain ⟨A6, c6, rfl, -, -⟩ := own_slice hown6
          clear hownB hownF hrN hgr hgr6 hg6 hown6 hown hownA
          have hget := get_any (putAll us) A5 c5 0 w6 _ (Reads.of_own hownB6) hc5 (by omega)
          have hstr6 := run_str (c := c5) (Reads.of_own hownB6) rfl
          obtain ⟨g3, rfl, _, _, _, hcell3, _⟩ := own_store hownF6 (by omega)
          have h77 : w6.cell? ⟨g3, us.length, none⟩ = some (.int .u64 77) := by rw [hcell3 us.length (by omega), List.getElem?_append_right (by simp)]; simp
          clear hownB6 hownF6 hcell3
          rcases us with _ | ⟨x, r⟩
          · have hv : getAt (putAll []) 0 = (0, 0, 5) := rfl
            rw [List.length_nil] at h77
            rw [hv] at hget
            have HG := Lib.hid hget
            clear hget hv
            go_wp2_with (go_at_call 18; go_must (refine HG.out.mono ?_); rintro e w' ⟨rfl, rfl⟩; simp only [getV])
            go_ret
            exact ⟨rfl, HB6.out⟩
          · have hv : getAt (putAll (x :: r)) 0 = (x.toNat, ((one x.toNat).length : Int), 0) := by
              rw [putAll_cons]
              unfold getAt
              rw [if_neg (by omega), show (0 : Int).toNat = 0 from rfl, List.drop_zero, getA_one0 x.toNat _ (UInt64.toNat_lt x)]
              simp
            rw [List.length_cons] at h77
            rw [hv] at hget
            have HG := Lib.hid hget
            obtain ⟨b, off, rfl, _, hcell⟩ := hrN6.at_ (k := 0) (by simp)
            have h0 := Reads.num hcell (k := 0) (by simp)
            rw [List.getElem_cons_zero, Nat.add_zero] at h0
            have hx : ((x.toNat : Int) == (x.toNat : Int)) = true := by simp
            clear hget hv hcell hrN6
            go_wp2_with (go_at_call 18; go_must (refine HG.out.mono ?_); rintro e w' ⟨rfl, rfl⟩; simp only [getV])
            go_ret
            exact ⟨rfl, HB6.out⟩
end Go.Proofs.Ytjbachplnkonkaa
