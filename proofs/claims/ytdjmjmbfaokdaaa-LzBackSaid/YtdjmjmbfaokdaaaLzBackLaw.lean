/- LzBack: the walk of the law. -/
import Derived.Test.YtdjmjmbfaokdaaaLzBackM
import Derived.Test.YtdjmjmbfaokdaaaAwake4
namespace Go.Proofs.Ytdjmjmbfaokdaaa
set_option linter.unusedVariables false
open Go.RowKit
open Varm

set_option maxRecDepth 100000 in
theorem lzBack_any (b : List UInt8) (A : Option Addr) (c : Nat) (w : World) (hr : Reads w w.heap.size A (b.map vb)) (hc : b.length ≤ c) (hc2 : c ≤ 9223372036854775807) (hl : b.length ≤ 140737488351232) :
    Calls Try.prog 4 #[.slice A b.length c] w fun e w' => e = .returned (.bool true) ∧ Below w.heap.size w w' := by
  rcases Nat.lt_or_ge 65536 b.length with hbig | hsm
  · have hE : compress b = ([], 4) := by unfold compress; rw [if_pos hbig]
    have hd : decide ((65536 : Int) < (b.length : Int)) = true := decide_eq_true (by omega)
    go_enter Try.func4, Try.ntmps4
    go_wp2_with fail
    refine (awake4_any w).mono ?_
    rintro e w0 ⟨rfl, hb0⟩
    have hs0 := hb0.size
    go_wp2_with fail
    have h1 := comp_any b A c w0 w0.heap.size ((hr.below hb0).more hs0) (Nat.le_refl _) hc (by omega)
    rw [hE] at h1
    refine h1.mono ?_
    rintro e w1 ⟨v1, rfl, hown1, hb1⟩
    obtain ⟨A1, c1, rfl, -, -⟩ := own_slice hown1
    go_wp2_with fail
    go_ret
    exact ⟨rfl, hb0.trans (hb1.mono hs0)⟩
  · obtain ⟨e1, e2, e3, e4, e5, e6⟩ := compress_back hsm
    have hd : decide ((65536 : Int) < (b.length : Int)) = false := decide_eq_false (by omega)
    go_enter Try.func4, Try.ntmps4
    go_wp2_with fail
    refine (awake4_any w).mono ?_
    rintro e w0 ⟨rfl, hb0⟩
    have hs0 := hb0.size
    go_wp2_with fail
    have h1 := comp_any b A c w0 w0.heap.size ((hr.below hb0).more hs0) (Nat.le_refl _) hc (by omega)
    unfold ExpAns at h1
    rw [e1] at h1
    generalize (compress b).1 = C at *
    refine h1.mono ?_
    rintro e w1 ⟨v1, rfl, hown1, hb1⟩
    obtain ⟨A1, c1, rfl, hc1, hm1, -⟩ := own_slice hown1
    unfold maxLen at hm1
    have hs1 := hb1.size
    have hb01 := hb0.trans (hb1.mono hs0)
    clear h1 hb0 hb1 e1
    simp only [castZero]
    go_wp2_with fail
    have h2 := expand_any C A1 c1 (b.length : Nat) w1 w1.heap.size (Reads.of_own hown1) (Nat.le_refl _) hc1 hm1 (by omega) (by omega)
    rw [e2] at h2
    refine h2.mono ?_
    rintro e w2 ⟨v2, rfl, hown2, hb2⟩
    obtain ⟨A2, c2, rfl, -, -⟩ := own_slice hown2
    have hs2 := hb2.size
    have hb02 := hb01.trans (hb2.mono (by omega))
    have hown12 := own_past hown1 hb2 (Nat.le_refl _)
    clear h2 hb01 hb2 hown1
    simp only [castZero]
    go_wp2_with fail
    have h3 := refExpand_any C A1 c1 (b.length : Nat) w2 w2.heap.size (Reads.of_own hown12) (Nat.le_refl _) hc1 hm1 (by omega) (by omega)
    rw [e2] at h3
    refine h3.mono ?_
    rintro e w3 ⟨v3, rfl, hown3, hb3⟩
    obtain ⟨A3, c3, rfl, -, -⟩ := own_slice hown3
    have hs3 := hb3.size
    have hb03 := hb02.trans (hb3.mono (by omega))
    have hown13 := own_past hown12 hb3 (Nat.le_refl _)
    have hown23 := own_past hown2 hb3 (Nat.le_refl _)
    have s0 := run_str (c := c) (hr.below hb03) rfl
    have s2 := run_str (c := c2) (Reads.of_own hown23) rfl
    have s3 := run_str (c := c3) (Reads.of_own hown3) rfl
    clear h3 hb02 hb3 hown12 hown2 hown3 hown23 hr
    simp only [castZero]
    have g1 : decide ((b.length : Int) + 8 < (C.length : Int)) = false := decide_eq_false (by omega)
    have g2 : ((C.length : Int) == 0) = false := by simp only [beq_eq_false_iff_ne, ne_eq]; omega
    go_wp2_with fail
    have h4 := expand_any C A1 c1 ((b.length : Nat) - 1 : Int) w3 w3.heap.size (Reads.of_own hown13) (Nat.le_refl _) hc1 hm1 (by omega) (by omega)
    unfold ExpAns at h4
    rw [e6] at h4
    refine h4.mono ?_
    rintro e w4 ⟨v4, rfl, hown4, hb4⟩
    have hs4 := hb4.size
    have hb04 := hb03.trans (hb4.mono (by omega))
    have hown14 := own_past hown13 hb4 (Nat.le_refl _)
    clear h4 hb03 hb4 hown13 hown4 s0 s2 s3
    go_wp2_with fail
    have htk : (C.take (C.length - 1)).length = C.length - 1 := by rw [List.length_take]; omega
    have h5 := expand_any (C.take (C.length - 1)) A1 c1 (b.length : Nat) w4 w4.heap.size (by rw [List.map_take]; exact (Reads.of_own hown14).take _) (Nat.le_refl _) (by omega) hm1 (by omega) (by omega)
    rw [htk] at h5
    refine h5.mono ?_
    rintro e w5 ⟨v5, rfl, hown5, hb5⟩
    have hB := hb04.trans (hb5.mono (by omega))
    have hz : (((expand (C.take (C.length - 1)) (b.length : Nat)).2 : Int) != 0) = true := by simp only [bne_iff_ne, ne_eq]; omega
    generalize (expand (C.take (C.length - 1)) (b.length : Nat)).2 = z at *
    clear hown5 hb5 h5 hb04
    go_wp2
    go_ret
    exact ⟨rfl, hB⟩
end Go.Proofs.Ytdjmjmbfaokdaaa
