/- The walk of the reference's Read. -/
import Derived.Test.YtjbachplnkonkaaRead
import Derived.Deep.RegionWith
namespace Go.Proofs.Ytjbachplnkonkaa
set_option linter.unusedVariables false
open Go.RowKit
open Varm Frm

set_option maxHeartbeats 4000000 in
set_option maxRecDepth 100000 in
theorem refRead_any (bs : List UInt8) (A : Option Addr) (c : Nat) (at_ : Int) (w : World) (hr : Reads w w.heap.size A (bs.map vb)) (hc : bs.length ≤ c) (hl : bs.length ≤ 4611686018427387904) :
    Calls Try.prog 33 #[.slice A bs.length c, .int .i64 at_] w (Answers (readAt bs at_) w) := by
  have hg := refGet_any bs A c at_ w _ hr (by omega)
  have hrange := getAt_range bs at_ (by omega)
  obtain ⟨n, f, e, hv⟩ : ∃ n f e, getAt bs at_ = (n, f, e) := ⟨_, _, _, rfl⟩
  have hR : readAt bs at_ = if e ≠ 0 then ([], 0, e) else if 65536 < n then ([], 0, 4) else if (bs.length : Int) - f < n + 4 then ([], 0, 5)
      else if num4 ((bs.drop (f.toNat + n)).take 4) ≠ sum ((bs.drop f.toNat).take n) then ([], 0, 7) else ((bs.drop f.toNat).take n, f + n + 4, 0) := by
    unfold readAt; rw [hv]
  rw [hv] at hg hrange
  obtain ⟨hr1, hr2, hr3, hr4⟩ := hrange
  simp only at hr1 hr2 hr3 hr4
  obtain ⟨f, rfl⟩ := Int.eq_ofNat_of_zero_le hr2
  have HG := Lib.hid hg
  have HN := Lib.hid hr1
  clear hg hv hr1 hr2
  rcases Nat.eq_zero_or_pos e with he | he
  · subst he
    rw [if_neg (by simp)] at hR
    rcases Nat.lt_or_ge 65536 n with hn | hn
    · rw [if_pos hn] at hR
      rw [hR]
      clear hR
      go_enter Try.func33, Try.ntmps33
      go_wp2_with (go_at_call 31; go_must (refine HG.out.mono ?_); rintro e w' ⟨rfl, rfl⟩; simp only [getV])
      go_ret3
      exact answers_err (Below.refl _ _)
    · rw [if_neg (by omega)] at hR
      rcases Nat.lt_or_ge bs.length (f + n + 4) with hs | hs
      · rw [if_pos (by omega)] at hR
        rw [hR]
        clear hR
        go_enter Try.func33, Try.ntmps33
        go_wp2_with (go_at_call 31; go_must (refine HG.out.mono ?_); rintro e w' ⟨rfl, rfl⟩; simp only [getV])
        go_ret3
        exact answers_err (Below.refl _ _)
      · rw [if_neg (by omega)] at hR
        obtain ⟨b, off, rfl, hb, hcell⟩ := hr.at_ (k := 0) (by simp; omega)
        have hl4 : ((bs.drop (f + n)).take 4).length = 4 := by simp; omega
        have hr4' : Reads w w.heap.size (some ⟨b, off + (f + n), none⟩) (((bs.drop (f + n)).take 4).map vb) := by
          rw [List.map_take, List.map_drop]
          refine Reads.take ?_ 4
          have h := hr.cut (k := f + n) (cap := c) (by simpa using hc)
          rw [if_neg (by omega)] at h
          simpa [Addr.add_lit] using h
        have hlp : ((bs.drop f).take n).length = n := by simp; omega
        have hrp : Reads w w.heap.size (some ⟨b, off + f, none⟩) (((bs.drop f).take n).map vb) := by
          rw [List.map_take, List.map_drop]
          refine Reads.take ?_ n
          have h := hr.cut (k := f) (cap := c) (by simpa using hc)
          rw [if_neg (by omega)] at h
          simpa [Addr.add_lit] using h
        rw [show ((f : Int)).toNat = f from Int.toNat_natCast f] at hR
        have Hrp := Lib.hid hrp
        have Hr4 := Lib.hid hr4'
        generalize (bs.drop f).take n = p at Hrp hlp hR
        generalize (bs.drop (f + n)).take 4 = q at Hr4 hl4 hR
        have hfour := four_eq (sum p) (sum_lt p) q hl4
        have Hlp := Lib.hid hlp
        have Hlq := Lib.hid hl4
        have HB := Lib.hid hb
        have hcf : ¬ c = f := by omega
        have hcf2 : ¬ c = f + n := by omega
        clear hrp hr4' hlp hr hb hcell hl4
        by_cases hst : num4 q = sum p
        · have hfo := hfour.2 hst
          rw [if_neg (by simpa using hst)] at hR
          have hb0 : (four (sum p) == q) = true := by simpa using hfo
          have hb1 : (four (sum p) != q) = false := by simpa using hfo
          rw [hR]
          clear hR hst hfour hfo
          go_enter Try.func33, Try.ntmps33
          go_wp2_with (first
            | (go_at_call 31; go_must (refine HG.out.mono ?_); rintro e w' ⟨rfl, rfl⟩; simp only [getV])
            | (at_builtin; go_must (refine app rowByte rfl _ _ rfl w.heap.size _ _ _ rfl (World.ownsRow_nil _ _ _ _) w.heap.size _ _ _ (p.map vb) rfl (by simpa using Hlp.out) (by exact Hrp.out) (oneCell_vb _) (by omega) (by simp) ?_)))
          intro v2 w2 hown2 hg2
          have hb2 : Below w.heap.size w w2 := hg2.below (Below.refl w.heap.size w) (World.ownsRow_nil _ _ 5 _) (by simp)
          have hs2 := hb2.size
          clear hg2
          obtain ⟨A2, c2, rfl, -, -⟩ := own_slice hown2
          have hq2 := Hr4.out.below hb2
          have hc1 := run_str (w := w2.drew) (n := 4) (c := c - (f + n)) hq2.drew Hlq.out
          have Hq2 := Lib.hid hq2
          have Hown2 := Lib.hid hown2
          clear hown2 hq2
          go_wp2_with fail
          have hsum := fun W (hW : Reads W w2.heap.size A2 (p.map vb)) => refSum_any p A2 c2 W w2.heap.size hW (by have := Hlp.out; omega)
          rw [Hlp.out] at hsum
          have hro := Reads.of_own Hown2.out
          have HS := Lib.hid hsum
          have Hro := Lib.hid hro
          clear hsum hro
          have k1 : IntKind.i64.wrap ((f : Int) + n + 4) = (f : Int) + n + 4 := IntWalk.i64_in _ (by omega)
          have k2 : (0 : Int) ≤ (f : Int) + n := by omega
          have k3 : (f : Int) + n ≤ (f : Int) + n + 4 := by omega
          have k4 : (f : Int) + n + 4 ≤ (c : Int) := by omega
          have k5 : ((f : Int) + n).toNat = f + n := by omega
          have k6 : ((f : Int) + n + 4).toNat = f + n + 4 := by omega
          have k7 : f + n + 4 - (f + n) = 4 := by omega
          go_region_with (first
            | (go_at_call 25; go_must (refine (HS.out _ ?_).mono ?_); exact Hro.out; rintro e w' ⟨rfl, rfl⟩)
            | (go_at_call 32; go_must (refine (four_any (sum p) (sum_lt p) w2.drew w2.heap.size (Nat.le_refl _)).mono ?_); rintro e w3 ⟨v3, rfl, hown3, hb3⟩; obtain ⟨A3, c3, rfl, -⟩ := own_slice hown3; have hs3 := hb3.size; have hstr := run_str (n := 4) (c := c3) (Reads.of_own hown3) rfl; have hstr2 := run_str (n := 4) (c := c - (f + n)) (Hq2.out.below ((below_of_drew hb3).mono hs2)) Hlq.out))
          all_goals
            go_wp2
            go_ret3
            refine ⟨_, rfl, ?_, hb2.trans ((below_of_drew hb3).mono hs2)⟩
            have h9 := own_past (w' := w3) Hown2.out (below_of_drew hb3) (Nat.le_refl _)
            simp only
            rw [Hlp.out]
            exact h9
        · rw [if_pos (by simpa using hst)] at hR
          have hfo : ¬ four (sum p) = q := fun h => hst (hfour.1 h)
          have hb0 : (four (sum p) == q) = false := by simpa using hfo
          have hb1 : (four (sum p) != q) = true := by simpa using hfo
          rw [hR]
          clear hR hst hfour hfo
          go_enter Try.func33, Try.ntmps33
          go_wp2_with (first
            | (go_at_call 31; go_must (refine HG.out.mono ?_); rintro e w' ⟨rfl, rfl⟩; simp only [getV])
            | (at_builtin; go_must (refine app rowByte rfl _ _ rfl w.heap.size _ _ _ rfl (World.ownsRow_nil _ _ _ _) w.heap.size _ _ _ (p.map vb) rfl (by simpa using Hlp.out) (by exact Hrp.out) (oneCell_vb _) (by omega) (by simp) ?_)))
          intro v2 w2 hown2 hg2
          have hb2 : Below w.heap.size w w2 := hg2.below (Below.refl w.heap.size w) (World.ownsRow_nil _ _ 5 _) (by simp)
          have hs2 := hb2.size
          clear hg2
          obtain ⟨A2, c2, rfl, -, -⟩ := own_slice hown2
          have hq2 := Hr4.out.below hb2
          have hc1 := run_str (w := w2.drew) (n := 4) (c := c - (f + n)) hq2.drew Hlq.out
          have Hq2 := Lib.hid hq2
          have Hown2 := Lib.hid hown2
          clear hown2 hq2
          go_wp2_with fail
          have hsum := fun W (hW : Reads W w2.heap.size A2 (p.map vb)) => refSum_any p A2 c2 W w2.heap.size hW (by have := Hlp.out; omega)
          rw [Hlp.out] at hsum
          have hro := Reads.of_own Hown2.out
          have HS := Lib.hid hsum
          have Hro := Lib.hid hro
          clear hsum hro
          have k1 : IntKind.i64.wrap ((f : Int) + n + 4) = (f : Int) + n + 4 := IntWalk.i64_in _ (by omega)
          have k2 : (0 : Int) ≤ (f : Int) + n := by omega
          have k3 : (f : Int) + n ≤ (f : Int) + n + 4 := by omega
          have k4 : (f : Int) + n + 4 ≤ (c : Int) := by omega
          have k5 : ((f : Int) + n).toNat = f + n := by omega
          have k6 : ((f : Int) + n + 4).toNat = f + n + 4 := by omega
          have k7 : f + n + 4 - (f + n) = 4 := by omega
          go_region_with (first
            | (go_at_call 25; go_must (refine (HS.out _ ?_).mono ?_); exact Hro.out; rintro e w' ⟨rfl, rfl⟩)
            | (go_at_call 32; go_must (refine (four_any (sum p) (sum_lt p) w2.drew w2.heap.size (Nat.le_refl _)).mono ?_); rintro e w3 ⟨v3, rfl, hown3, hb3⟩; obtain ⟨A3, c3, rfl, -⟩ := own_slice hown3; have hs3 := hb3.size; have hstr := run_str (n := 4) (c := c3) (Reads.of_own hown3) rfl; have hstr2 := run_str (n := 4) (c := c - (f + n)) (Hq2.out.below ((below_of_drew hb3).mono hs2)) Hlq.out))
          all_goals
            go_wp2
            go_ret3
            exact answers_err (hb2.trans ((below_of_drew hb3).mono hs2))
  · rw [if_pos (by omega)] at hR
    rw [hR]
    have hne : ((e : Int) != 0) = true := by simp; omega
    clear hR he
    go_enter Try.func33, Try.ntmps33
    go_wp2_with (go_at_call 31; go_must (refine HG.out.mono ?_); rintro e' w' ⟨rfl, rfl⟩; simp only [getV])
    go_ret3
    exact answers_err (Below.refl _ _)
end Go.Proofs.Ytjbachplnkonkaa
