/- The walk of pack.Unpack. -/
import Derived.Test.YtdjmjmbfaokdaaaUnpR
import Derived.Test.YtdjmjmbfaokdaaaLzM
import Derived.Test.YtdjmjmbfaokdaaaRef1
namespace Go.Proofs.Ytdjmjmbfaokdaaa
set_option linter.unusedVariables false
open Go.RowKit
open Varm Pk

namespace Pk
theorem numAt_congr {f g : Nat → Bool} {w first : Nat} : ∀ {n : Nat}, (∀ j, j < n * w → f j = g j) → numAt f w first n = numAt g w first n
  | 0, _ => rfl
  | n + 1, h => by
    have e : (n + 1) * w = n * w + w := by rw [Nat.add_mul, Nat.one_mul]
    rw [numAt, numAt, numAt_congr (n := n) (fun j hj => h j (by omega)), getN_congr (f := f) (g := g) (fun j hj => h _ (by omega))]
theorem needTo_congr {f g : Nat → Bool} {w : Nat} : ∀ {n : Nat}, (∀ j, j < n * w → f j = g j) → needTo f w n = needTo g w n
  | 0, _ => rfl
  | n + 1, h => by
    have e : (n + 1) * w = n * w + w := by rw [Nat.add_mul, Nat.one_mul]
    rw [needTo, needTo, needTo_congr (n := n) (fun j hj => h j (by omega)), getN_congr (f := f) (g := g) (fun j hj => h _ (by omega))]
theorem restOf_congr {f g : Nat → Bool} {w first n to : Nat} (h : ∀ j, j < 8 * packSize n w → f j = g j) : restOf f w first n to = restOf g w first n to := by
  have hb := packSize_bits n w
  have h1 : ∀ j, j < n * w → f j = g j := fun j hj => h j (by omega)
  have hn : numbers f w first (n + 1) = numbers g w first (n + 1) := by
    unfold numbers
    refine List.map_congr_left fun k hk => ?_
    have hk := List.mem_range.1 hk
    have hle : k * w ≤ n * w := Nat.mul_le_mul_right _ (by omega)
    rw [numAt_congr (f := f) (g := g) (fun j hj => h1 j (by omega))]
  have hc : Pk.Clean f (n * w) (packSize n w) ↔ Pk.Clean g (n * w) (packSize n w) := ⟨fun hh j hj hm => (h j hj) ▸ hh j hj hm, fun hh j hj hm => (h j hj).symm ▸ hh j hj hm⟩
  unfold restOf
  rw [numAt_congr h1, needTo_congr h1, hn]
  exact ite_iff (or_congr Iff.rfl (or_congr Iff.rfl (not_congr hc))) _ _
theorem bitAt_take (b : List UInt8) (n j : Nat) (h : j < 8 * n) : bitAt (b.take n) j = bitAt b j := by
  unfold bitAt
  rw [List.getD, List.getD, List.getElem?_take, if_pos (by omega)]
end Pk

set_option maxHeartbeats 2000000 in
set_option maxRecDepth 100000 in
theorem unpack_any (b : List UInt8) (A : Option Addr) (c : Nat) (p : Int) (w : World) (B : Nat) (hr : Reads w B A (b.map vb)) (hB : B ≤ w.heap.size) (hc : b.length ≤ c) (hc2 : c ≤ 9223372036854775807) (hl : b.length ≤ 140737488355328) :
    Calls Try.prog 23 #[.slice A b.length c, .int .i64 p] w (UAns (unpack b p) B w) := by
  have hg := get_any b A c p w B hr hc (by omega)
  obtain ⟨r1, r2, r3, r4, r5⟩ := getAt_range4 b p
  have hP : unpack b p = unpack b p := rfl
  conv at hP => rhs; unfold unpack
  obtain ⟨n, f, e, hv⟩ : ∃ n f e, getAt b p = (n, f, e) := ⟨_, _, _, rfl⟩
  rw [hv] at hg r1 r2 r3 r4 r5 hP
  simp only at r1 r2 r3 r4 r5 hP
  obtain ⟨t, rfl⟩ := Int.eq_ofNat_of_zero_le r2
  simp only [Int.toNat_natCast] at hP
  have HG := Lib.hid hg
  clear hg hv r2 r5
  rcases Nat.eq_zero_or_pos e with he | he
  · subst he
    rw [if_neg (by simp)] at hP
    by_cases hbig : 65536 < n
    · rw [if_pos hbig] at hP
      rw [hP]
      clear hP
      have q1 : (65536 : Int) < (n : Int) := by omega
      go_enter Try.func23, Try.ntmps23
      go_wp2_with (go_at_call 26; go_must (refine HG.out.mono ?_); rintro e w' ⟨rfl, rfl⟩; simp only [getV])
      go_ret3
      exact uAns_err rfl (Below.refl _ _)
    · rw [if_neg hbig] at hP
      have q1 : (n : Int) ≤ 65536 := by omega
      have q1n : ¬ ((65536 : Int) < (n : Int)) := by omega
      by_cases hn0 : n = 0
      · subst hn0
        rw [if_pos rfl] at hP
        rw [hP]
        clear hP
        go_enter Try.func23, Try.ntmps23
        go_wp2_with (go_at_call 26; go_must (refine HG.out.mono ?_); rintro e w' ⟨rfl, rfl⟩; simp only [getV])
        go_ret3
        exact ⟨_, rfl, World.ownsRow_nil _ _ _ _, Below.refl _ _⟩
      · rw [if_neg hn0] at hP
        have q2 : ((n : Int) == 0) = false := by simp only [beq_eq_false_iff_ne, ne_eq]; omega
        have hg2 := get_any b A c (t : Nat) w B hr hc (by omega)
        obtain ⟨s1, s2, s3, s4, s5⟩ := getAt_range4 b (t : Nat)
        obtain ⟨d, f2, e2, hv2⟩ : ∃ d f2 e2, getAt b (t : Nat) = (d, f2, e2) := ⟨_, _, _, rfl⟩
        rw [hv2] at hg2 s1 s2 s3 s4 s5 hP
        simp only at s1 s2 s3 s4 s5 hP
        obtain ⟨t2, rfl⟩ := Int.eq_ofNat_of_zero_le s2
        simp only [Int.toNat_natCast] at hP
        have HG2 := Lib.hid hg2
        clear hg2 hv2 s2 s5
        rcases Nat.eq_zero_or_pos e2 with he2 | he2
        · subst he2
          rw [if_neg (by simp)] at hP
          have hol := own_lit (w := w) B hB 33 (.int .u64 (d : Int))
          have hbl : Below B w (w.alloc (.cells #[.int .u64 (d : Int)] 33)) := (Below.refl _ _).alloc hB _
          have hrl := hr.alloc hB (.cells #[.int .u64 (d : Int)] 33)
          by_cases hn1 : n = 1
          · subst hn1
            rw [if_pos rfl] at hP
            rw [hP]
            clear hP
            go_enter Try.func23, Try.ntmps23
            go_wp2_with fail
            refine HG.out.mono ?_
            rintro e w' ⟨rfl, rfl⟩
            simp only [getV]
            go_wp2_with fail
            refine HG2.out.mono ?_
            rintro e w' ⟨rfl, rfl⟩
            simp only [getV]
            go_wp2_with fail
            go_ret3
            exact ⟨_, rfl, by rw [List.map_singleton, vq_of s1]; exact hol, hbl⟩
          · rw [if_neg hn1] at hP
            have q3 : ((n : Int) == 1) = false := by simp only [beq_eq_false_iff_ne, ne_eq]; omega
            obtain ⟨m, hm⟩ : ∃ m, m = n - 1 := ⟨_, rfl⟩
            have hmI : (n : Int) - 1 = (m : Int) := by omega
            rw [← hm] at hP
            have hm2 : m ≤ 65536 := by omega
            unfold tailOf at hP
            have HM := Lib.hid hm
            clear hm
            rcases Nat.lt_or_ge t2 b.length with hlt | hge
            · rw [if_neg (by omega)] at hP
              have q4 : ((t2 : Int) == (b.length : Int)) = false := by simp only [beq_eq_false_iff_ne, ne_eq]; omega
              obtain ⟨bb, off, rfl, hbB, hcell⟩ := hr.at_ (k := t2) (by simpa using hlt)
              have hc1 := (Reads.alloc (fun _ => ⟨bb, off, rfl, hbB, hcell⟩ : Reads w B (some ⟨bb, off, none⟩) (b.map vb)) hB (.cells #[.int .u64 (d : Int)] 33))
              obtain ⟨bb', off', hAA, -, hcellA⟩ := hc1.at_ (k := t2) (by simpa using hlt)
              injection hAA with hAA
              injection hAA with h1 h2
              subst h1 h2
              have hx := Reads.byte hcellA hlt
              have hgd : b.getD t2 0 = b[t2] := by rw [List.getD, List.getElem?_eq_getElem hlt]; rfl
              rw [hgd] at hP
              obtain ⟨wd, hwd⟩ : ∃ wd, wd = b[t2].toNat := ⟨_, rfl⟩
              have hwl : wd ≤ 255 := by have := UInt8.toNat_lt b[t2]; omega
              rw [← hwd] at hP hx
              clear hwd hgd hcell hcellA hc1
              obtain ⟨t3, ht3⟩ : ∃ t3, t3 = t2 + 1 := ⟨_, rfl⟩
              have h3I : (t2 : Int) + 1 = (t3 : Int) := by omega
              have h3l : t3 ≤ b.length := by omega
              have hw3 : IntKind.i64.wrap (t3 : Int) = (t3 : Int) := IntWalk.i64_in _ (by omega)
              rw [← ht3] at hP
              by_cases hw64 : 64 < wd
              · rw [if_pos hw64] at hP
                rw [hP]
                clear hP
                have q5 : decide ((64 : Int) < (wd : Int)) = true := decide_eq_true (by omega)
                have q5c : (64 : Int) < (wd : Int) := by omega
                clear hw64 ht3
                go_enter Try.func23, Try.ntmps23
                go_wp2_with fail
                refine HG.out.mono ?_
                rintro e w' ⟨rfl, rfl⟩
                simp only [getV]
                go_wp2_with fail
                refine HG2.out.mono ?_
                rintro e w' ⟨rfl, rfl⟩
                simp only [getV]
                go_wp2_with fail
                go_ret3
                exact uAns_err rfl hbl
              · rw [if_neg hw64] at hP
                have q5 : ¬ ((64 : Int) < (wd : Int)) := by omega
                have q5b : (wd : Int) ≤ 64 := by omega
                have hps := packSize_le m wd hm2 (by omega)
                have hkw : m * wd ≤ 1000000000000 := by have : m * wd ≤ 65536 * 64 := Nat.mul_le_mul hm2 (by omega); omega
                have HSZ := Lib.hid (fun w' => size_any m wd w' hkw (by omega) (by omega))
                obtain ⟨S, hS⟩ : ∃ S, S = packSize m wd := ⟨_, rfl⟩
                rw [← hS] at hps HSZ hP
                obtain ⟨to, hto⟩ : ∃ to, to = t3 + S := ⟨_, rfl⟩
                have htoI : (t3 : Int) + (S : Int) = (to : Int) := by omega
                rw [← hto] at hP
                have htl : to ≤ 200000000000000 := by omega
                have HT3 := Lib.hid ht3
                have hwto : IntKind.i64.wrap (to : Int) = (to : Int) := IntWalk.i64_in _ (by omega)
                by_cases hsh : b.length < to
                · rw [if_pos hsh] at hP
                  rw [hP]
                  clear hP ht3
                  have q6 : (b.length : Int) < (to : Int) := by omega
                  clear hto hS
                  go_enter Try.func23, Try.ntmps23
                  go_wp2_with fail
                  refine HG.out.mono ?_
                  rintro e w' ⟨rfl, rfl⟩
                  simp only [getV]
                  go_wp2_with fail
                  refine HG2.out.mono ?_
                  rintro e w' ⟨rfl, rfl⟩
                  simp only [getV]
                  go_wp2_with fail
                  refine (HSZ.out _).mono ?_
                  rintro e w' ⟨rfl, rfl⟩
                  go_wp2_with fail
                  go_ret3
                  exact uAns_err rfl hbl
                · rw [if_neg hsh] at hP
                  have q6 : ¬ ((b.length : Int) < (to : Int)) := by omega
                  have q6b : (to : Int) ≤ (b.length : Int) := by omega
                  have q6c : to ≤ b.length := by omega
                  by_cases hct : c = t3
                  · have hS0 : S = 0 := by omega
                    obtain rfl : t3 = c := hct.symm
                    clear hct
                    have hsub : Reads (w.alloc (.cells #[.int .u64 (d : Int)] 33)) B (some ⟨bb, off, none⟩) (((b.drop t3).take S).map vb) := by
                      rw [hS0, List.take_zero]; exact Reads.nil_
                    clear hS0
                    have hsl : ((b.drop t3).take S).length = to - t3 := by rw [List.length_take, List.length_drop]; omega
                    have hrest := rest_any ((b.drop t3).take S) d m wd to _ _ 0 _ B (by rw [vq_of s1]; exact hol) hsub (by rw [World.size_alloc]; omega) (by rw [hsl, ← hS]; omega) hm2 (by omega) s1
                    rw [restOf_congr (g := bitAt (b.drop t3)) (fun j hj => bitAt_take _ _ _ (by rw [hS]; exact hj)), ← hP, hsl] at hrest
                    have HRST := Lib.hid hrest
                    clear hP ht3 hto hS hrest hsl hsub
                    go_enter Try.func23, Try.ntmps23
                    go_wp2_with fail
                    refine HG.out.mono ?_
                    rintro e w' ⟨rfl, rfl⟩
                    simp only [getV]
                    go_wp2_with fail
                    refine HG2.out.mono ?_
                    rintro e w' ⟨rfl, rfl⟩
                    simp only [getV]
                    go_wp2_with fail
                    refine (HSZ.out _).mono ?_
                    rintro e w' ⟨rfl, rfl⟩
                    go_wp2_with fail
                    refine HRST.out.mono ?_
                    rintro e w5 ⟨v5, rfl, hown5, hb5⟩
                    have hb6 := hbl.trans hb5
                    go_wp2_with fail
                    go_ret3
                    exact ⟨_, rfl, hown5, hb6⟩
                  · have hct2 := hct
                    have hsub : Reads (w.alloc (.cells #[.int .u64 (d : Int)] 33)) B (some ⟨bb, off + t3, none⟩) (((b.drop t3).take S).map vb) := by
                      rw [List.map_take, List.map_drop]
                      refine Reads.take ?_ _
                      have h := hrl.cut (k := t3) (cap := c) (by simpa using hc)
                      rw [if_neg (by omega), Option.map_some, Addr.add_lit] at h
                      exact h
                    have hsl : ((b.drop t3).take S).length = to - t3 := by rw [List.length_take, List.length_drop]; omega
                    have hrest := rest_any ((b.drop t3).take S) d m wd to _ _ (c - t3) _ B (by rw [vq_of s1]; exact hol) hsub (by rw [World.size_alloc]; omega) (by rw [hsl, ← hS]; omega) hm2 (by omega) s1
                    rw [restOf_congr (g := bitAt (b.drop t3)) (fun j hj => bitAt_take _ _ _ (by rw [hS]; exact hj)), ← hP, hsl] at hrest
                    have HRST := Lib.hid hrest
                    clear hP ht3 hto hS hrest hsl hsub
                    go_enter Try.func23, Try.ntmps23
                    go_wp2_with fail
                    refine HG.out.mono ?_
                    rintro e w' ⟨rfl, rfl⟩
                    simp only [getV]
                    go_wp2_with fail
                    refine HG2.out.mono ?_
                    rintro e w' ⟨rfl, rfl⟩
                    simp only [getV]
                    go_wp2_with fail
                    refine (HSZ.out _).mono ?_
                    rintro e w' ⟨rfl, rfl⟩
                    go_wp2_with fail
                    refine HRST.out.mono ?_
                    rintro e w5 ⟨v5, rfl, hown5, hb5⟩
                    have hb6 := hbl.trans hb5
                    go_wp2_with fail
                    go_ret3
                    exact ⟨_, rfl, hown5, hb6⟩
            · rw [if_pos hge] at hP
              rw [hP]
              clear hP
              have q4 : ((t2 : Int) == (b.length : Int)) = true := by simp only [beq_iff_eq]; omega
              go_enter Try.func23, Try.ntmps23
              go_wp2_with fail
              refine HG.out.mono ?_
              rintro e w' ⟨rfl, rfl⟩
              simp only [getV]
              go_wp2_with fail
              refine HG2.out.mono ?_
              rintro e w' ⟨rfl, rfl⟩
              simp only [getV]
              go_wp2_with fail
              go_ret3
              exact uAns_err rfl hbl
        · rw [if_pos (by omega)] at hP
          rw [hP]
          clear hP
          have hb : ((e2 : Int) != 0) = true := by simp only [bne_iff_ne, ne_eq]; omega
          go_enter Try.func23, Try.ntmps23
          go_wp2_with fail
          refine HG.out.mono ?_
          rintro e w' ⟨rfl, rfl⟩
          simp only [getV]
          go_wp2_with fail
          refine HG2.out.mono ?_
          rintro e w' ⟨rfl, rfl⟩
          simp only [getV]
          go_wp2_with fail
          go_ret3
          exact uAns_err rfl (Below.refl _ _)
  · rw [if_pos (by omega)] at hP
    rw [hP]
    clear hP
    have hb : ((e : Int) != 0) = true := by simp; omega
    go_enter Try.func23, Try.ntmps23
    go_wp2_with (go_at_call 26; go_must (refine HG.out.mono ?_); rintro e w' ⟨rfl, rfl⟩; simp only [getV])
    go_ret3
    exact uAns_err rfl (Below.refl _ _)
end Go.Proofs.Ytdjmjmbfaokdaaa
