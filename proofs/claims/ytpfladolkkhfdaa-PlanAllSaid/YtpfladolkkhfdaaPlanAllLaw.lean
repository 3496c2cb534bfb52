/- PlanAll: the walk of the law. -/
import Derived.Test.YtpfladolkkhfdaaAwake16
namespace Go.Proofs.Ytpfladolkkhfdaa
set_option linter.unusedVariables false
open Go.RowKit

theorem pl_ints (p : List Nat) : pl p = (p.map fun (n : Nat) => (n : Int)).map (Value.int .i64) := by simp [pl]

set_option maxHeartbeats 4000000 in
set_option maxRecDepth 100000 in
theorem planAll_any (l : List Sg) (A : Option Addr) (c : Nat) (n mark : Int) (w : World) (hr : Reads w w.heap.size A (segCells l)) (hl : l.length ≤ 7000000000000) (hn1 : -9223372036854775808 ≤ n) (hn2 : n ≤ 9223372036854775807) :
    Calls Try.prog 7 #[.slice A l.length c, .int .i64 n, .int .i64 mark] w fun e w' => e = .returned (.bool true) ∧ Below w.heap.size w w' := by
  go_enter Try.func7, Try.ntmps7
  go_wp2_with fail
  refine (awake16_any _).mono ?_
  rintro e w1 ⟨rfl, hb1⟩
  have hs1 := hb1.size
  have hr1 := (hr.below hb1).more hs1
  go_wp2_with fail
  refine (tier_any n _ hn1 hn2).mono ?_
  rintro e w2 ⟨rfl, rfl⟩
  go_wp2_with fail
  refine (refTier_any n _ hn1 hn2).mono ?_
  rintro e w2 ⟨rfl, rfl⟩
  have q1 : ((tier n : Int) == (tier n : Int)) = true := by simp
  go_wp2_with fail
  refine (bound_any n _ hn1 hn2).mono ?_
  rintro e w2 ⟨rfl, rfl⟩
  go_wp2_with fail
  refine (refBound_any n _ hn1 hn2).mono ?_
  rintro e w2 ⟨rfl, rfl⟩
  have q2 : (bound n == bound n) = true := by simp
  go_wp2_with fail
  refine (planMerge_any l A c w1 hr1 hl).mono ?_
  rintro e w2 ⟨v, rfl, hown, hb2⟩
  have hs2 := hb2.size
  obtain ⟨A2, c2, rfl, hA2, hA2', -⟩ := own_slice hown
  go_wp2_with fail
  refine (refMerge_any l A c w2 ((hr1.below hb2).more hs2) hl).mono ?_
  rintro e w3 ⟨v, rfl, hown3, hb3⟩
  have hs3 := hb3.size
  obtain ⟨A3, c3, rfl, -⟩ := own_slice hown3
  have hR2 := ((Reads.of_own hown).below hb3).more hs3
  have hR3 := Reads.of_own hown3
  rw [pl_ints] at hR2 hR3
  have hml : (merge l).length ≤ 9223372036854775807 := by unfold maxLen at hA2'; omega
  have hsame := same_any _ _ A2 A3 c2 c3 w3 _ hR2 hR3 (by simpa using hml) (by simpa using hml)
  simp only [List.length_map, decide_true] at hsame
  have HB := Lib.hid ((hb1.trans (hb2.mono hs1)).trans (hb3.mono (Nat.le_trans hs1 hs2)))
  have HS := Lib.hid hsame
  have HR := Lib.hid hr
  clear hsame hown hown3 hR2 hR3 hb2 hb3 hr hr1 hb1
  go_wp2_with fail
  refine HS.out.mono ?_
  rintro e w4 ⟨rfl, n4, hw4⟩
  have HB4 : Hid (Below w.heap.size w w4) := Lib.hid (by rw [hw4]; exact below_drewN HB.out)
  clear HB HS hw4
  go_wp2_with fail
  have hs4 := HB4.out.size
  have hr4 := (HR.out.below HB4.out).more hs4
  refine (gone_any l A c mark w4 hr4 hl).mono ?_
  rintro e w5 ⟨v, rfl, hown, hb5⟩
  have hs5 := hb5.size
  obtain ⟨A5, c5, rfl, hA5, hA5', -⟩ := own_slice hown
  go_wp2_with fail
  refine (refGone_any l A c mark w5 ((hr4.below hb5).more hs5) hl).mono ?_
  rintro e w6 ⟨v, rfl, hown6, hb6⟩
  obtain ⟨A6, c6, rfl, -⟩ := own_slice hown6
  have hsame := same_any (gone l mark) (gone l mark) A5 A6 c5 c6 w6 _ (((Reads.of_own hown).below hb6).more hb6.size) (Reads.of_own hown6) (by unfold maxLen at hA5'; omega) (by unfold maxLen at hA5'; omega)
  simp only [decide_true] at hsame
  have HB6 := Lib.hid ((HB4.out.trans (hb5.mono hs4)).trans (hb6.mono (Nat.le_trans hs4 hs5)))
  have HS := Lib.hid hsame
  clear hsame hown hown6 hb5 hb6 hr4
  go_wp2_with fail
  refine HS.out.mono ?_
  rintro e w7 ⟨rfl, n7, hw7⟩
  have HB7 : Hid (Below w.heap.size w w7) := Lib.hid (by rw [hw7]; exact below_drewN HB6.out)
  clear HS hw7
  go_wp2_with fail
  go_ret
  exact ⟨rfl, HB7.out⟩
end Go.Proofs.Ytpfladolkkhfdaa
