/- LzRuns: the walk of the law. -/
import Derived.Test.YtdjmjmbfaokdaaaLzBackM
import Derived.Test.YtdjmjmbfaokdaaaAwake4
import Derived.Test.YtdjmjmbfaokdaaaMade
namespace Go.Proofs.Ytdjmjmbfaokdaaa
set_option linter.unusedVariables false
open Go.RowKit
open Varm

theorem cpl_self : ∀ (k : Nat) (x : UInt8), cpl (List.replicate (k + 1) x) (List.replicate k x) = k
  | 0, x => by simp [cpl]
  | k + 1, x => by
    show cpl (x :: List.replicate (k + 1) x) (x :: List.replicate k x) = k + 1
    rw [cpl, if_pos rfl, cpl_self k x]
theorem runs_comp (x : UInt8) (k : Nat) (h1 : 64 ≤ k) (h2 : k ≤ 65536) : (compress (List.replicate k x)).1.length ≤ 16 := by
  have hlen : (List.replicate k x).length = k := List.length_replicate
  have hk0 : keyAt (List.replicate k x) 0 = List.replicate 4 x := by unfold keyAt; rw [List.drop_zero, List.take_replicate]; congr 1; omega
  have hk1 : keyAt (List.replicate k x) (0 + 1) = List.replicate 4 x := by unfold keyAt; rw [List.drop_replicate, List.take_replicate]; congr 1; omega
  have hs : sameAt (List.replicate k x) 0 (0 + 1) = k - 1 := by
    unfold sameAt
    obtain ⟨m, rfl⟩ : ∃ m, k = m + 1 := ⟨k - 1, by omega⟩
    rw [List.drop_zero, List.drop_replicate, Nat.add_sub_cancel, cpl_self]
  have hone : ∀ n, n ≤ 131073 → (one n).length ≤ 3 := fun n hn => one_len_pow 2 n (by omega)
  have hE : compress (List.replicate k x) = (compS (List.replicate k x) (k + 1) (one k) (fun _ => none) 0 0, 0) := by unfold compress; rw [hlen, if_neg (by omega)]
  rw [hE]
  obtain ⟨f, rfl⟩ : ∃ f, k = f + 1 := ⟨k - 1, by omega⟩
  rw [compS_skip (by omega) (by simp), compS_match (q := 0) (by omega) (by rw [hk0, hk1]; simp) (by omega), hs]
  have e1 : 0 + 1 + (f + 1 - 1) = f + 1 := by omega
  rw [e1, compS_end (by omega)]
  have hd : (List.replicate (f + 1) x).drop (f + 1) = [] := List.drop_eq_nil_of_le (by omega)
  have hl := litOf_len (one (f + 1)) (((List.replicate (f + 1) x).drop 0).take (0 + 1 - 0)) (by simp)
  have h3 := hone (f + 1) (by omega)
  have h4 := hone (2 * (f + 1 - 1) + 1) (by omega)
  have h5 : (one (0 + 1 - 0)).length ≤ 1 := one_len_pow 0 1 (by omega)
  have hlit : (litOf (one (f + 1)) (((List.replicate (f + 1) x).drop 0).take (0 + 1 - 0))).length ≤ 6 := by
    have : ((List.replicate (f + 1) x).drop 0).take (0 + 1 - 0) = [x] := by simp
    rw [this]
    have h6 : (one (2 * [x].length)).length ≤ 1 := one_len_pow 0 2 (by omega)
    simp only [litOf, List.length_singleton]
    simp only [List.length_singleton] at h6
    rw [if_neg (by simp)]
    simp only [List.length_append, List.length_singleton]
    omega
  rw [hd]
  simp only [litOf, if_true, List.length_append] at hlit ⊢
  omega
theorem runs_set (x : UInt8) (K j : Nat) (h : j < K) : ((List.replicate j x ++ List.replicate (K - j) 0).map vb).set j (vb x) = (List.replicate (j + 1) x ++ List.replicate (K - (j + 1)) 0).map vb := by
  refine List.ext_getElem? fun i => ?_
  simp only [List.getElem?_set, List.getElem?_map, List.getElem?_append, List.getElem?_replicate, List.length_replicate, List.length_map, List.length_append]
  by_cases h1 : j = i
  · subst h1; simp; omega
  · rw [if_neg h1]
    by_cases h2 : i < j
    · simp [h2, show i < j + 1 by omega]
    · simp only [h2, if_false, show ¬ i < j + 1 by omega]
      by_cases h3 : i < K
      · rw [if_pos (by omega), if_pos (by omega)]
      · rw [if_neg (by omega), if_neg (by omega)]

set_option maxHeartbeats 1000000 in
set_option maxRecDepth 100000 in
theorem lzRuns_any (x : UInt8) (n : Nat) (hn : n ≤ 65535) (w : World) :
    Calls Try.prog 5 #[.int .u8 (x.toNat : Int), .int .u16 (n : Int)] w fun e w' => e = .returned (.bool true) ∧ Below w.heap.size w w' := by
  rcases Nat.lt_or_ge 65536 (n + 64) with hk | hk
  · have hkI : (65536 : Int) < (n : Int) + 64 := by omega
    obtain ⟨K, hKa, hKb⟩ : ∃ K : Nat, K ≤ 65536 ∧ 65536 ≤ K := ⟨65536, Nat.le_refl _, Nat.le_refl _⟩
    have hKj : ∀ j : Nat, j < K → (j : Int) < 65536 := fun j h => by omega
    have hKe := runs_comp x K (by omega) (by omega)
    go_enter Try.func5, Try.ntmps5
    go_wp2_with fail
    refine (awake4_any w).mono ?_
    rintro e w0 ⟨rfl, hb0⟩
    have hs0 := hb0.size
    go_wp2_with (at_make; go_must (refine makeBytes rfl _ _ rfl w.heap.size _ _ _ _ K rfl rfl (by first | rfl | omega) (by first | rfl | omega) (by omega) hs0 ?_))
    intro w1 hown1 hg1
    have hb1 := hb0.grown hg1 hs0 (fun j hj => by cases hj)
    go_wp2_with fail
    go_loopw [7] (fun i wr => ∃ j : Nat, j ≤ K ∧ i = .int .i64 j ∧ wr.ownsRow w.heap.size 5 1 (.slice (some ⟨w0.heap.size, 0, none⟩) K K) K ((List.replicate j x ++ List.replicate (K - j) 0).map vb) ∧ Below w.heap.size w wr) (fun i _ => K - (intOf i).toNat)
    case atStart => exact ⟨0, Nat.zero_le _, rfl, by simpa using hown1, hb1⟩
    case round =>
      obtain ⟨j, hj, rfl, hown, hbr⟩ := hrel
      clear hown1 hg1 hb1
      rcases Nat.lt_or_ge j K with hlt | hge
      · obtain ⟨g, hA, hbg, hgl, hfz, hcl, hset⟩ := own_store hown (by omega)
        injection hA with hA
        injection hA with hA
        subst hA
        have h1 := hfz j
        have hjI := hKj j hlt
        have hcj := hcl j hlt
        obtain ⟨old, hold⟩ : ∃ old, ((List.replicate j x ++ List.replicate (K - j) 0).map vb)[j]? = some old := ⟨_, List.getElem?_eq_getElem (by simp; omega)⟩
        rw [hold] at hcj
        have hs := hset j (vb x)
        rw [runs_set x K j hlt] at hs
        have hb2 := hbr.grown hs.2 (by have := hbr.size; omega) (fun g hg => by injection hg with hg; omega)
        have hs1 := hs.1
        clear hfz hcl hset hold hs hown hbr
        go_wp2_with fail
        go_roundw
        case rel => exact ⟨j + 1, by omega, by go_num, hs1, hb2⟩
        case measure => simp [intOf]; omega
      · obtain rfl : K = j := by omega
        have hjn : ¬ (((K : Nat) : Int) < 65536) := by omega
        rw [Nat.sub_self, List.replicate_zero, List.append_nil] at hown
        obtain ⟨e1, e2, e3, e4, e5, e6⟩ := compress_back (b := List.replicate K x) (by rw [List.length_replicate]; omega)
        have hsr := hbr.size
        have hRL : (List.replicate K x).length = K := List.length_replicate
        go_wp2_with fail
        have h1 := comp_any (List.replicate K x) (some ⟨w0.heap.size, 0, none⟩) K wr wr.heap.size (Reads.of_own hown) (Nat.le_refl _) (by omega) (by omega)
        unfold ExpAns at h1
        rw [e1, hRL] at h1
        rw [hRL] at e2
        refine h1.mono ?_
        rintro e w2 ⟨v2, rfl, hown2, hb2⟩
        clear h1
        obtain ⟨A2, c2, rfl, hc2, hm2, -⟩ := own_slice hown2
        unfold maxLen at hm2
        have hs2 := hb2.size
        have hownr2 := own_past hown hb2 (Nat.le_refl _)
        simp only [castZero]
        go_wp2_with fail
        have h1 := comp_any (List.replicate K x) (some ⟨w0.heap.size, 0, none⟩) K w2 w2.heap.size (Reads.of_own hownr2) (Nat.le_refl _) (by omega) (by omega)
        unfold ExpAns at h1
        rw [e1, hRL] at h1
        refine h1.mono ?_
        rintro e w3 ⟨v3, rfl, hown3, hb3⟩
        clear h1
        obtain ⟨A3, c3, rfl, -, -⟩ := own_slice hown3
        have hs3 := hb3.size
        have hownr3 := own_past hownr2 hb3 (Nat.le_refl _)
        have hown23 := own_past hown2 hb3 (Nat.le_refl _)
        generalize (compress (List.replicate K x)).1 = C at *
        simp only [castZero]
        go_wp2_with fail
        have h1 := expand_any C A2 c2 (65536) w3 w3.heap.size (Reads.of_own hown23) (Nat.le_refl _) hc2 hm2 (by omega) (by omega)
        have hKK : (65536 : Int) = ((K : Nat) : Int) := by omega
        unfold ExpAns at h1
        rw [hKK, e2] at h1
        try rw [← hKK] at h1
        refine h1.mono ?_
        rintro e w4 ⟨v4, rfl, hown4, hb4⟩
        clear h1 hKK
        obtain ⟨A4, c4, rfl, -, -⟩ := own_slice hown4
        have hownr4 := own_past hownr3 hb4 (Nat.le_refl _)
        have hown24 := own_past hown23 hb4 (Nat.le_refl _)
        have hown34 := own_past hown3 hb4 (Nat.le_refl _)
        have HB := Lib.hid (hbr.trans ((hb2.trans ((hb3.trans (hb4.mono hs3)).mono hs2)).mono hsr))
        have s2 := run_str (c := c2) (Reads.of_own hown24) rfl
        have s3 := run_str (c := c3) (Reads.of_own hown34) rfl
        have s4 := run_str (c := c4) (Reads.of_own hown4) rfl
        have sr := run_str (c := K) (Reads.of_own hownr4) hRL
        have hC16 : decide ((C.length : Int) ≤ 16) = true := decide_eq_true (by omega)
        have hC16n : decide (C.length ≤ 16) = true := decide_eq_true (by omega)
        rw [hRL] at s4
        clear hown hown2 hown3 hown4 hownr2 hownr3 hownr4 hown23 hown24 hown34 hbr hb2 hb3 hb4 e1 e2 e3 e4 e5 e6
        simp only [castZero]
        try simp only [hRL]
        go_wp2
        go_ret
        exact ⟨rfl, HB.out⟩
  · obtain ⟨N, hNI, hNb⟩ : ∃ N : Nat, (n : Int) + 64 = (N : Int) ∧ 64 ≤ N := ⟨n + 64, by omega, by omega⟩
    have hKj : ∀ j : Nat, j < N → (j : Int) < (N : Int) := fun j h => by omega
    have hkI : ¬ ((65536 : Int) < (N : Int)) := by omega
    have hKe := runs_comp x N (by omega) (by omega)
    go_enter Try.func5, Try.ntmps5
    go_wp2_with fail
    refine (awake4_any w).mono ?_
    rintro e w0 ⟨rfl, hb0⟩
    have hs0 := hb0.size
    go_wp2_with (at_make; go_must (refine makeBytes rfl _ _ rfl w.heap.size _ _ _ _ N rfl rfl (by first | rfl | omega) (by first | rfl | omega) (by omega) hs0 ?_))
    intro w1 hown1 hg1
    have hb1 := hb0.grown hg1 hs0 (fun j hj => by cases hj)
    go_wp2_with fail
    go_loopw [7] (fun i wr => ∃ j : Nat, j ≤ N ∧ i = .int .i64 j ∧ wr.ownsRow w.heap.size 5 1 (.slice (some ⟨w0.heap.size, 0, none⟩) N N) N ((List.replicate j x ++ List.replicate (N - j) 0).map vb) ∧ Below w.heap.size w wr) (fun i _ => N - (intOf i).toNat)
    case atStart => exact ⟨0, Nat.zero_le _, rfl, by simpa using hown1, hb1⟩
    case round =>
      obtain ⟨j, hj, rfl, hown, hbr⟩ := hrel
      clear hown1 hg1 hb1
      rcases Nat.lt_or_ge j N with hlt | hge
      · obtain ⟨g, hA, hbg, hgl, hfz, hcl, hset⟩ := own_store hown (by omega)
        injection hA with hA
        injection hA with hA
        subst hA
        have h1 := hfz j
        have hjI := hKj j hlt
        have hcj := hcl j hlt
        obtain ⟨old, hold⟩ : ∃ old, ((List.replicate j x ++ List.replicate (N - j) 0).map vb)[j]? = some old := ⟨_, List.getElem?_eq_getElem (by simp; omega)⟩
        rw [hold] at hcj
        have hs := hset j (vb x)
        rw [runs_set x N j hlt] at hs
        have hb2 := hbr.grown hs.2 (by have := hbr.size; omega) (fun g hg => by injection hg with hg; omega)
        have hs1 := hs.1
        clear hfz hcl hset hold hs hown hbr
        go_wp2_with fail
        go_roundw
        case rel => exact ⟨j + 1, by omega, by go_num, hs1, hb2⟩
        case measure => simp [intOf]; omega
      · obtain rfl : N = j := by omega
        have hjn : ¬ (((N : Nat) : Int) < (N : Int)) := by omega
        rw [Nat.sub_self, List.replicate_zero, List.append_nil] at hown
        obtain ⟨e1, e2, e3, e4, e5, e6⟩ := compress_back (b := List.replicate N x) (by rw [List.length_replicate]; omega)
        have hsr := hbr.size
        have hRL : (List.replicate N x).length = N := List.length_replicate
        go_wp2_with fail
        have h1 := comp_any (List.replicate N x) (some ⟨w0.heap.size, 0, none⟩) N wr wr.heap.size (Reads.of_own hown) (Nat.le_refl _) (by omega) (by omega)
        unfold ExpAns at h1
        rw [e1, hRL] at h1
        rw [hRL] at e2
        refine h1.mono ?_
        rintro e w2 ⟨v2, rfl, hown2, hb2⟩
        clear h1
        obtain ⟨A2, c2, rfl, hc2, hm2, -⟩ := own_slice hown2
        unfold maxLen at hm2
        have hs2 := hb2.size
        have hownr2 := own_past hown hb2 (Nat.le_refl _)
        simp only [castZero]
        go_wp2_with fail
        have h1 := comp_any (List.replicate N x) (some ⟨w0.heap.size, 0, none⟩) N w2 w2.heap.size (Reads.of_own hownr2) (Nat.le_refl _) (by omega) (by omega)
        unfold ExpAns at h1
        rw [e1, hRL] at h1
        refine h1.mono ?_
        rintro e w3 ⟨v3, rfl, hown3, hb3⟩
        clear h1
        obtain ⟨A3, c3, rfl, -, -⟩ := own_slice hown3
        have hs3 := hb3.size
        have hownr3 := own_past hownr2 hb3 (Nat.le_refl _)
        have hown23 := own_past hown2 hb3 (Nat.le_refl _)
        generalize (compress (List.replicate N x)).1 = C at *
        simp only [castZero]
        go_wp2_with fail
        have h1 := expand_any C A2 c2 ((N : Int)) w3 w3.heap.size (Reads.of_own hown23) (Nat.le_refl _) hc2 hm2 (by omega) (by omega)
        have hKK : ((N : Int) : Int) = ((N : Nat) : Int) := by omega
        unfold ExpAns at h1
        rw [hKK, e2] at h1
        try rw [← hKK] at h1
        refine h1.mono ?_
        rintro e w4 ⟨v4, rfl, hown4, hb4⟩
        clear h1 hKK
        obtain ⟨A4, c4, rfl, -, -⟩ := own_slice hown4
        have hownr4 := own_past hownr3 hb4 (Nat.le_refl _)
        have hown24 := own_past hown23 hb4 (Nat.le_refl _)
        have hown34 := own_past hown3 hb4 (Nat.le_refl _)
        have HB := Lib.hid (hbr.trans ((hb2.trans ((hb3.trans (hb4.mono hs3)).mono hs2)).mono hsr))
        have s2 := run_str (c := c2) (Reads.of_own hown24) rfl
        have s3 := run_str (c := c3) (Reads.of_own hown34) rfl
        have s4 := run_str (c := c4) (Reads.of_own hown4) rfl
        have sr := run_str (c := N) (Reads.of_own hownr4) hRL
        have hC16 : decide ((C.length : Int) ≤ 16) = true := decide_eq_true (by omega)
        have hC16n : decide (C.length ≤ 16) = true := decide_eq_true (by omega)
        rw [hRL] at s4
        clear hown hown2 hown3 hown4 hownr2 hownr3 hownr4 hown23 hown24 hown34 hbr hb2 hb3 hb4 e1 e2 e3 e4 e5 e6
        simp only [castZero]
        try simp only [hRL]
        go_wp2
        go_ret
        exact ⟨rfl, HB.out⟩

/-- .. at the arguments as they came in. -/
theorem lzRuns_int (x n : Int) (hx : 0 ≤ x ∧ x ≤ 255) (hn : 0 ≤ n ∧ n ≤ 65535) (w : World) :
    Calls Try.prog 5 #[.int .u8 x, .int .u16 n] w fun e w' => e = .returned (.bool true) ∧ Below w.heap.size w w' := by
  have h := lzRuns_any (UInt8.ofNat x.toNat) n.toNat (by omega) w
  have e1 : ((UInt8.ofNat x.toNat).toNat : Int) = x := by simp; omega
  have e2 : ((n.toNat : Nat) : Int) = n := by omega
  rw [e1, e2] at h
  exact h
end Go.Proofs.Ytdjmjmbfaokdaaa
