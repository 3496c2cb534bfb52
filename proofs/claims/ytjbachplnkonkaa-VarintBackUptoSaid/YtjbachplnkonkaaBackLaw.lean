/- VarintBack: the walk of the law. -/
import Derived.Test.YtjbachplnkonkaaSizesLaw
import Derived.Deep.RegionWith
import Derived.Deep.QuietTactic
import Derived.BigQuiet
namespace Go.Proofs.Ytjbachplnkonkaa
set_option linter.unusedVariables false
open Go.RowKit
open Varm

/-- Put of one number that lies in a block of its own, in whatever world. -/
theorem putOne (n : Nat) (hn : n < 18446744073709551616) (w : World) (b : Nat) (hc : w.cell? ⟨b, 0, none⟩ = some (.int .u64 n)) (hb : b < w.heap.size) : Calls Try.prog 15 #[.slice (some ⟨b, 0, none⟩) 1 1] w fun e w' =>
    ∃ v, e = .returned v ∧ w'.ownsRow w.heap.size 5 1 v (one n).length ((one n).map vb) ∧ Below w.heap.size w w' := by
  have e : (UInt64.ofNat n).toNat = n := by simp; omega
  have hr : Reads w w.heap.size (some ⟨b, 0, none⟩) (([UInt64.ofNat n] : List UInt64).map vq) := fun _ => ⟨b, 0, rfl, hb, fun j u hu => by
    match j, hu with
    | 0, hu =>
      simp [vq, e] at hu
      subst hu
      simpa using hc⟩
  have := put_any [UInt64.ofNat n] _ 1 _ w.heap.size (Nat.le_refl _) hr (by simp)
  rw [putAll_cons, putAll_nil, List.append_nil, e] at this
  exact this

/-- What a Get at 0 says. -/
theorem get0 (l : List UInt8) : (getAt l 0 = (0, 0, 5) ∨ getAt l 0 = (0, 0, 6)) ∨ ∃ m t : Nat, getAt l 0 = (m, (t : Int), 0) ∧ m < 18446744073709551616 ∧ t ≤ l.length ∧ one m = l.take t := by
  have h0 : getAt l 0 = if (getA l 0 0).2.2 = 0 then ((getA l 0 0).1, (0 : Int) + (getA l 0 0).2.1, 0) else (0, 0, (getA l 0 0).2.2) := by
    unfold getAt
    rw [if_neg (by omega)]
    rfl
  by_cases h : (getA l 0 0).2.2 = 0
  · rw [if_pos h] at h0
    obtain ⟨-, h2, h3, -, h5⟩ := getA_ok0 (bs := l) (m := (getA l 0 0).1) (t := (getA l 0 0).2.1) (Prod.ext rfl (Prod.ext rfl h))
    exact .inr ⟨_, _, by rw [h0, Int.zero_add], h5, h2, h3⟩
  · rw [if_neg h] at h0
    rcases getA_errs l 0 0 with h1 | h1 | h1
    · exact absurd h1 h
    · rw [h1] at h0; exact .inl (.inl h0)
    · rw [h1] at h0; exact .inl (.inr h0)

set_option maxHeartbeats 6000000 in
set_option maxRecDepth 100000 in
theorem back_any (n : Nat) (hn : n < 18446744073709551616) (l : List UInt8) (A : Option Addr) (c : Nat) (w : World) (hr : Reads w w.heap.size A (l.map vb)) (hc : l.length ≤ c) (hl : l.length ≤ 1048576) :
    Calls Try.prog 5 #[.int .u64 n, .slice A l.length c] w fun e w' => e = .returned (.bool true) ∧ Below w.heap.size w w' := by
  have HN := Lib.hid hn
  have hl1 := one_pos n
  have hl2 := one_len n hn
  clear hn
  go_enter Try.func5, Try.ntmps5
  go_wp2_with (first
    | (go_at_call 14; refine (awake1_any _).mono ?_; rintro e w1 ⟨rfl, hb1⟩; have hs1 := hb1.size)
    | (go_at_call 15; go_must (refine (put1 n HN.out w1 _ rfl).mono ?_); rintro e w2 ⟨v, rfl, hown, hb2, hs2⟩; obtain ⟨A1, c1, rfl, hc1, -⟩ := own_slice hown; have hr2 := (hr.below hb1).below (hb2.mono hs1))
    | (at_builtin; go_must (refine app rowByte rfl (.tmp 19) (.tmp 20) rfl w2.heap.size _ _ _ rfl (World.ownsRow_nil _ _ _ _) w.heap.size _ _ _ (l.map vb) rfl (by simp) (by exact hr2) (oneCell_vb _) (by omega) (by omega) ?_)))
  intro v3 w3 hown3 hg3
  have hb3 : Below w2.heap.size w2 w3 := hg3.below (Below.refl _ _) (World.ownsRow_nil _ _ 5 _) (Nat.le_refl _)
  have hs3 := hb3.size
  have hrb3 := (Reads.of_own hown).below hb3
  go_wp2_with (at_builtin; go_must (refine app rowByte rfl _ _ rfl w2.heap.size _ _ _ rfl (by exact hown3) w2.heap.size _ _ _ ((one n).map vb) rfl (by simp) (by exact hrb3) (oneCell_vb _) (by omega) (by omega) ?_))
  intro v4 w4 hown4 hg4
  have hb4 : Below w2.heap.size w2 w4 := hg4.below hb3 hown3 hs3
  have hs4 := hb4.size
  have hr4 := hr2.below (hb4.mono (by omega))
  go_wp2_with (at_builtin; go_must (refine app rowByte rfl _ _ rfl w2.heap.size _ _ _ rfl (by exact hown4) w.heap.size _ _ _ (l.map vb) rfl (by simp) (by exact hr4) (oneCell_vb _) (by omega) (by omega) ?_))
  intro v5 w5 hown5 hg5
  have hb5 : Below w2.heap.size w2 w5 := hg5.below hb4 hown4 hs4
  have hs5 := hb5.size
  rw [← List.map_append, ← List.map_append] at hown5
  have hlen : (l ++ (one n ++ l)).length = l.length + (one n).length + l.length := by simp; omega
  rw [← hlen] at hown5
  have hdrop : (l ++ (one n ++ l)).drop l.length = one n ++ l := by simp
  generalize l ++ (one n ++ l) = all at hown5 hlen hdrop
  obtain ⟨A5, c5, rfl, hc5, -⟩ := own_slice hown5
  have hread := get_any all A5 c5 l.length w5 _ (Reads.of_own hown5) hc5 (by omega)
  have hval : getAt all l.length = (n, (l.length : Int) + (one n).length, 0) := by
    unfold getAt
    rw [if_neg (by omega), Int.toNat_natCast, hdrop, getA_one0 n l HN.out]
    rfl
  rw [hval] at hread
  have HR := Lib.hid hread
  have HL := Lib.hid hlen
  clear hown3 hg3 hown4 hg4 hg5 hlen hread hval hdrop
  have hn1 : ((n : Int) != n) = false := by simp
  have hn2 : ((l.length : Int) + (one n).length != (l.length : Int) + (one n).length) = false := by simp
  go_wp2_with (go_at_call 18; go_must (refine HR.out.mono ?_); rintro e w' ⟨rfl, rfl⟩; simp only [getV])
  have HB5 := Lib.hid (hb1.trans ((hb2.trans (hb5.mono (by omega))).mono hs1))
  have hrb5 := (Reads.of_own hown).below hb5
  have hr5 := hr2.below (hb5.mono (by omega))
  have hq1 := get_any l A c 0 w5 _ hr5 hc (by omega)
  clear hr hr2 hb1 hb2 hb3 hb4 hb5 hown hown5 hrb3 hr4
  go_loop [10] (fun i => ∃ k : Nat, k ≤ (one n).length ∧ i = .int .i64 k) (fun i => (one n).length - (intOf i).toNat)
  case atStart => exact ⟨0, Nat.zero_le _, rfl⟩
  case round =>
    obtain ⟨k, hk, rfl⟩ := hrel
    rcases Nat.lt_or_ge k (one n).length with hlt | hge
    · have hg := get_any ((one n).take k) A1 c1 0 w5 _ (by rw [List.map_take]; exact hrb5.take k) (by rw [List.length_take]; omega) (by rw [List.length_take]; omega)
      have hgl : ((one n).take k).length = k := by rw [List.length_take]; omega
      have hge : getAt ((one n).take k) 0 = (0, 0, 5) := by
        have h5 := getA_short n k 0 0 (by simpa using HN.out) (by omega) hlt
        have h6 := getA_err ((one n).take k) 0 0 (by rw [h5]; decide)
        unfold getAt
        rw [if_neg (by omega), show (0 : Int).toNat = 0 from rfl, List.drop_zero, h5]
        rfl
      rw [hge, hgl] at hg
      have HG := Lib.hid hg
      clear hg hgl hge hq1
      go_wp2_with (go_at_call 18; go_must (refine HG.out.mono ?_); rintro e w' ⟨rfl, rfl⟩; simp only [getV])
      go_round
      case rel => exact ⟨k + 1, by omega, by go_num⟩
      case measure => simp [intOf]; omega
    · rcases get0 l with (hv | hv) | ⟨m, t, hv, hm, ht, hone⟩
      all_goals rw [hv] at hq1
      all_goals have HQ := Lib.hid hq1
      all_goals clear hq1 hv
      · go_wp2_with (go_at_call 18; go_must (refine HQ.out.mono ?_); rintro e w' ⟨rfl, rfl⟩; simp only [getV])
        go_quiet (fail)
        all_goals (go_wp2; go_ret; exact ⟨rfl, (below_drewN HB5.out)⟩)
      · go_wp2_with (go_at_call 18; go_must (refine HQ.out.mono ?_); rintro e w' ⟨rfl, rfl⟩; simp only [getV])
        go_quiet (fail)
        all_goals (go_wp2; go_ret; exact ⟨rfl, (below_drewN HB5.out)⟩)
      · have HM := Lib.hid hm
        have HO := Lib.hid hone
        clear hm hone
        go_wp2_with (go_at_call 18; go_must (refine HQ.out.mono ?_); rintro e w' ⟨rfl, rfl⟩; simp only [getV])
        have hlt : (l.take t).length = t := by rw [List.length_take]; omega
        have hrt : Reads w5 w.heap.size A ((l.take t).map vb) := by rw [List.map_take]; exact hr5.take t
        have hsA := run_str (n := t) (c := c) hrt.drew hlt
        have hsB := run_str (n := t) (c := c) (hrt.alloc (by omega) (.cells #[.int .u64 m] 29)).drew hlt
        rw [← HO.out] at hsA hsB
        have Hlt := Lib.hid hlt
        have Hrt := Lib.hid hrt
        have h65 : w.heap.size ≤ w5.heap.size := by omega
        clear hlt hrt hr5 hrb5
        go_region_with (go_at_call 15; go_must (refine (putOne m HM.out _ _ (by simp) (by simp)).mono ?_); rintro e w6 ⟨v6, rfl, hown6, hb6⟩; obtain ⟨A6, c6, rfl, -⟩ := own_slice hown6; have hs6 := run_str (c := c6) (Reads.of_own hown6) rfl; have hb6' : Below w5.heap.size w5 w6 := ((Below.refl _ _).alloc (Nat.le_refl _) _).trans (below_of_drew (hb6.mono (by simp))); have hsC := run_str (n := t) (c := c) (Hrt.out.below (hb6'.mono h65)) Hlt.out; rw [← HO.out] at hsC)
        all_goals
          go_wp2
          go_ret
          exact ⟨rfl, HB5.out.trans (hb6'.mono h65)⟩
end Go.Proofs.Ytjbachplnkonkaa
