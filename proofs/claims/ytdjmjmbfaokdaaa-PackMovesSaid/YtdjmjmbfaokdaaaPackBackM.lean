/- Plain mathematics of chapter 3: what is packed is unpacked, and back. No program in sight. -/
import Derived.Test.YtdjmjmbfaokdaaaUnp
import Derived.Test.YtdjmjmbfaokdaaaLzM
namespace Go.Proofs.Ytdjmjmbfaokdaaa
set_option linter.unusedVariables false
open Varm

namespace Pk
theorem getAt_here {pre rest : List UInt8} {n : Nat} (hn : n < 18446744073709551616) {i : Int} (hi : i = (pre.length : Nat)) : getAt (pre ++ (one n ++ rest)) i = (n, ((pre.length + (one n).length : Nat) : Int), 0) := by
  subst hi
  unfold getAt
  rw [if_neg (by simp only [List.length_append]; omega), Int.toNat_natCast, List.drop_left, getA_one0 n rest hn]
  simp
theorem getAt_short5 {pre : List UInt8} {n j : Nat} (hn : n < 18446744073709551616) (hj : j < (one n).length) {i : Int} (hi : i = (pre.length : Nat)) : (getAt (pre ++ (one n).take j) i).2.2 = 5 := by
  subst hi
  have h := getA_short n j 0 0 (by simpa using hn) (by omega) hj
  unfold getAt
  rw [if_neg (by simp only [List.length_append]; omega), Int.toNat_natCast, List.drop_left, if_neg (by rw [h]; simp)]
  simp only
  rw [h]
/-- A number that was read stands there. -/
theorem getAt_took {b : List UInt8} {t : Nat} {n : Nat} {f : Int} (h : getAt b (t : Nat) = (n, f, 0)) : ∃ t', f = ((t + t' : Nat) : Int) ∧ t + t' ≤ b.length ∧ one n = (b.drop t).take t' ∧ n < 18446744073709551616 := by
  unfold getAt at h
  by_cases h1 : ((t : Nat) : Int) < 0 ∨ (b.length : Int) < ((t : Nat) : Int)
  · rw [if_pos h1] at h; simp at h
  · rw [if_neg h1, Int.toNat_natCast] at h
    by_cases h2 : (getA (b.drop t) 0 0).2.2 = 0
    · rw [if_pos h2] at h
      simp only [Prod.mk.injEq] at h
      obtain ⟨ha, hb, -⟩ := h
      obtain ⟨-, k2, k3, -, k5⟩ := getA_ok0 (bs := b.drop t) (m := (getA (b.drop t) 0 0).1) (t := (getA (b.drop t) 0 0).2.1) (Prod.ext rfl (Prod.ext rfl h2))
      rw [List.length_drop] at k2
      refine ⟨(getA (b.drop t) 0 0).2.1, by omega, by omega, by rw [← ha]; exact k3, by rw [← ha]; exact k5⟩
    · rw [if_neg h2] at h
      simp only [Prod.mk.injEq] at h
      exact absurd h.2.2 h2

theorem nth_map (l : List UInt64) : (List.range l.length).map (fun k => UInt64.ofNat (nth l k)) = l := by
  refine List.ext_getElem? fun i => ?_
  rcases Nat.lt_or_ge i l.length with h | h
  · simp only [List.getElem?_map, List.getElem?_range h, Option.map_some, nth, List.getD, List.getElem?_eq_getElem h, Option.getD_some]
    simp
  · rw [List.getElem?_eq_none h, List.getElem?_eq_none (by simp; omega)]
theorem laid_at2 (l : List UInt64) (w n j t : Nat) (hj : j < n) (ht : t < w) : laid l w n (j * w + t) = (gap l j).testBit t := by
  have hle : (j + 1) * w ≤ n * w := Nat.mul_le_mul_right _ hj
  have e : (j + 1) * w = j * w + w := by rw [Nat.add_mul, Nat.one_mul]
  unfold laid bitsF
  rw [if_pos (by omega)]
  have e1 : (j * w + t) / w = j := by
    rw [Nat.div_eq_iff (by omega)]
    omega
  have e2 : (j * w + t) % w = t := by
    rw [Nat.mul_comm, Nat.mul_add_mod, Nat.mod_eq_of_lt ht]
  rw [e1, e2]
theorem getN_laid (l : List UInt64) (w n i : Nat) (hi : i < n) (hg : gap l i < 2 ^ w) : getN (laid l w n) (i * w) w = gap l i :=
  getN_of hg fun j hj => laid_at2 l w n i j hi hj
theorem numAt_laid (l : List UInt64) (n : Nat) (hr : Rises l n) : ∀ i, i ≤ n → numAt (laid l (width l n) n) (width l n) (nth l 0) i = nth l i
  | 0, _ => rfl
  | i + 1, h => by
    have := hr i (by omega)
    rw [numAt, numAt_laid l n hr i (by omega), getN_laid l _ n i (by omega) (gap_bits l (by omega))]
    unfold gap; omega
theorem needTo_laid (l : List UInt64) (n : Nat) : ∀ i, i ≤ n → needTo (laid l (width l n) n) (width l n) i = width l i
  | 0, _ => rfl
  | i + 1, h => by
    rw [needTo, needTo_laid l n i (by omega), getN_laid l _ n i (by omega) (gap_bits l (by omega)), width]
theorem restOf_laid (l : List UInt64) (n to : Nat) (hl : l.length = n + 1) (hr : Rises l n) : restOf (laid l (width l n) n) (width l n) (nth l 0) n to = (l, to, 0) := by
  unfold restOf
  rw [if_neg]
  · rw [numbers]
    refine Prod.ext ?_ rfl
    simp only
    conv => rhs; rw [← nth_map l, hl]
    refine List.map_congr_left fun k hk => ?_
    rw [numAt_laid l n hr k (by have := List.mem_range.1 hk; omega)]
  · intro h
    rcases h with h | h | h
    · rw [numAt_laid l n hr n (Nat.le_refl _)] at h
      have := nth_lt l n
      omega
    · exact h (needTo_laid l n n (Nat.le_refl _))
    · exact h (fun j _ hj => by unfold laid; rw [if_neg (by omega)])

theorem pack_ok {l : List UInt64} {c : List UInt8} (h : pack l = (c, 0)) : l.length ≤ 65536 ∧ Rises l (l.length - 1) ∧ c = (if l.length = 0 then one 0 else if l.length = 1 then one 1 ++ one (nth l 0)
    else one l.length ++ one (nth l 0) ++ [UInt8.ofNat (width l (l.length - 1))] ++ mkB (laid l (width l (l.length - 1)) (l.length - 1)) (packSize (l.length - 1) (width l (l.length - 1)))) := by
  unfold pack at h
  by_cases h1 : 65536 < l.length
  · rw [if_pos h1] at h; simp at h
  · rw [if_neg h1] at h
    by_cases h2 : ¬ Rises l (l.length - 1)
    · rw [if_pos h2] at h; simp at h
    · rw [if_neg h2] at h
      refine ⟨by omega, Decidable.not_not.1 h2, ?_⟩
      by_cases h3 : l.length = 0
      · rw [if_pos h3] at h ⊢; exact (congrArg Prod.fst h).symm
      · rw [if_neg h3] at h ⊢
        by_cases h4 : l.length = 1
        · rw [if_pos h4] at h ⊢; exact (congrArg Prod.fst h).symm
        · rw [if_neg h4] at h ⊢; exact (congrArg Prod.fst h).symm

/-- P3.2: what is packed is unpacked, whatever stands beside it. -/
theorem unpack_pack {l : List UInt64} {c : List UInt8} (h : pack l = (c, 0)) (pre post : List UInt8) : unpack (pre ++ (c ++ post)) (pre.length : Nat) = (l, pre.length + c.length, 0) := by
  obtain ⟨hl, hr, hc⟩ := pack_ok h
  rcases Nat.lt_or_ge l.length 2 with h2 | h2
  · rcases Nat.eq_zero_or_pos l.length with h0 | h0
    · rw [if_pos h0] at hc
      subst hc
      have hg := getAt_here (pre := pre) (rest := post) (n := 0) (by omega) (i := (pre.length : Nat)) rfl
      unfold unpack
      rw [hg]
      rw [if_neg (by simp), if_neg (by simp), if_pos rfl, List.eq_nil_of_length_eq_zero h0]
      refine Prod.ext rfl (Prod.ext ?_ rfl)
      simp only [Int.toNat_natCast]
    · have h1 : l.length = 1 := by omega
      rw [if_neg (by omega), if_pos h1] at hc
      subst hc
      have hg := getAt_here (pre := pre) (rest := one (nth l 0) ++ post) (n := 1) (by omega) (i := (pre.length : Nat)) rfl
      have hg2 := getAt_here (pre := pre ++ one 1) (rest := post) (n := nth l 0) (nth_lt l 0) (i := ((pre.length + (one 1).length : Nat) : Int)) (by rw [List.length_append])
      have e : pre ++ (one 1 ++ one (nth l 0) ++ post) = pre ++ (one 1 ++ (one (nth l 0) ++ post)) := by simp
      have e2 : pre ++ one 1 ++ (one (nth l 0) ++ post) = pre ++ (one 1 ++ (one (nth l 0) ++ post)) := by simp
      rw [e2] at hg2
      unfold unpack
      rw [e, hg]
      simp only
      rw [hg2]
      rw [if_neg (by simp), if_neg (by simp), if_neg (by simp), if_neg (by simp), if_pos (by first | rfl | trivial)]
      have hm := nth_map l
      rw [h1] at hm
      refine Prod.ext ?_ (Prod.ext ?_ rfl)
      · show [UInt64.ofNat (nth l 0)] = l
        exact hm
      · simp only [List.length_append, Int.toNat_natCast]; omega
  · rw [if_neg (by omega), if_neg (by omega)] at hc
    obtain ⟨k, hk⟩ : ∃ k, l.length = k + 1 := ⟨l.length - 1, by omega⟩
    have hk1 : l.length - 1 = k := by omega
    rw [hk1] at hr hc
    obtain ⟨w, hw⟩ : ∃ w, w = width l k := ⟨_, rfl⟩
    have hwl := width_le l k
    rw [← hw] at hc hwl
    obtain ⟨M, hM⟩ : ∃ M, M = mkB (laid l w k) (packSize k w) := ⟨_, rfl⟩
    have hMl : M.length = packSize k w := by rw [hM, mkB_len]
    rw [← hM] at hc
    subst hc
    have e : pre ++ (one l.length ++ one (nth l 0) ++ [UInt8.ofNat w] ++ M ++ post) = pre ++ (one l.length ++ (one (nth l 0) ++ ([UInt8.ofNat w] ++ (M ++ post)))) := by simp
    have hg := getAt_here (pre := pre) (rest := one (nth l 0) ++ ([UInt8.ofNat w] ++ (M ++ post))) (n := l.length) (by omega) (i := (pre.length : Nat)) rfl
    have hg2 := getAt_here (pre := pre ++ one l.length) (rest := [UInt8.ofNat w] ++ (M ++ post)) (n := nth l 0) (nth_lt l 0) (i := ((pre.length + (one l.length).length : Nat) : Int)) (by rw [List.length_append])
    have e2 : pre ++ one l.length ++ (one (nth l 0) ++ ([UInt8.ofNat w] ++ (M ++ post))) = pre ++ (one l.length ++ (one (nth l 0) ++ ([UInt8.ofNat w] ++ (M ++ post)))) := by simp
    rw [e2] at hg2
    obtain ⟨b, hb⟩ : ∃ b, b = pre ++ (one l.length ++ (one (nth l 0) ++ ([UInt8.ofNat w] ++ (M ++ post)))) := ⟨_, rfl⟩
    obtain ⟨p, hp⟩ : ∃ p, p = (pre ++ one l.length).length + (one (nth l 0)).length := ⟨_, rfl⟩
    rw [e]
    rw [← hb] at hg hg2 ⊢
    rw [← hp] at hg2
    have hbp : b = (pre ++ one l.length ++ one (nth l 0)) ++ ([UInt8.ofNat w] ++ (M ++ post)) := by rw [hb]; simp
    have hbl : b.length = p + 1 + (M.length + post.length) := by rw [hbp, hp]; simp only [List.length_append, List.length_singleton]; omega
    have hbg : (b.getD p 0).toNat = w := by
      rw [hbp, List.getD, List.getElem?_append_right (by rw [hp]; simp only [List.length_append]; omega), show p - (pre ++ one l.length ++ one (nth l 0)).length = 0 by rw [hp]; simp only [List.length_append]; omega]
      simp; omega
    have hbd : b.drop (p + 1) = M ++ post := by
      have : b = (pre ++ one l.length ++ one (nth l 0) ++ [UInt8.ofNat w]) ++ (M ++ post) := by rw [hb]; simp
      rw [this, List.drop_left' (by rw [hp]; simp only [List.length_append, List.length_singleton])]
    unfold unpack
    rw [hg]
    simp only
    rw [hg2]
    rw [if_neg (by simp), if_neg (by omega), if_neg (by omega), if_neg (by simp), if_neg (by omega)]
    simp only [Int.toNat_natCast]
    unfold tailOf
    rw [hbg, if_neg (by omega), if_neg (by omega), hk1, if_neg (by omega), hbd]
    rw [restOf_congr (g := laid l w k) (fun j hj => by
      have h1 := bitAt_take (M ++ post) M.length j (by rw [hMl]; exact hj)
      rw [List.take_left] at h1
      rw [← h1, hM, bitAt_mkB hj]), hw, restOf_laid l k _ hk hr]
    refine Prod.ext rfl (Prod.ext ?_ rfl)
    simp only [List.length_append, List.length_singleton, hMl, ← hw]
    rw [hp]
    simp only [List.length_append]
    omega

/-- .. and each shorter beginning is too short. -/
theorem unpack_short {l : List UInt64} {c : List UInt8} (h : pack l = (c, 0)) (k : Nat) (hk : k < c.length) : (unpack (c.take k) 0).2.2 = 5 := by
  obtain ⟨hl, hr, hc⟩ := pack_ok h
  have hcut : ∀ n, n < 18446744073709551616 → ∀ j, j < (one n).length → (unpack ((one n).take j) 0).2.2 = 5 := fun n hn j hj => by
    have := getAt_short5 (pre := []) hn hj (i := 0) rfl
    rw [List.nil_append] at this
    unfold unpack
    rw [if_pos (by rw [this]; simp)]
    exact this
  rcases Nat.eq_zero_or_pos l.length with h0 | h0
  · rw [if_pos h0] at hc
    subst hc
    exact hcut 0 (by omega) k hk
  · -- at least one number: one n ++ (one l0 ++ rest)
    obtain ⟨rest, hrest, hn1⟩ : ∃ rest, c = one l.length ++ (one (nth l 0) ++ rest) ∧ (l.length = 1 → rest = []) := by
      by_cases h1 : l.length = 1
      · rw [if_neg (by omega), if_pos h1] at hc
        exact ⟨[], by rw [hc, h1]; simp, fun _ => rfl⟩
      · rw [if_neg (by omega), if_neg h1] at hc
        exact ⟨_, by rw [hc, List.append_assoc, List.append_assoc], fun h => absurd h h1⟩
    rcases Nat.lt_or_ge k (one l.length).length with h1 | h1
    · rw [hrest, List.take_append_of_le_length (by omega)]
      exact hcut l.length (by omega) k h1
    · rcases Nat.lt_or_ge k ((one l.length).length + (one (nth l 0)).length) with h2 | h2
      · have e : c.take k = one l.length ++ (one (nth l 0)).take (k - (one l.length).length) := by
          rw [hrest, List.take_append, List.take_of_length_le h1, List.take_append_of_le_length (by omega)]
        have hg := getAt_here (pre := []) (rest := (one (nth l 0)).take (k - (one l.length).length)) (n := l.length) (by omega) (i := 0) rfl
        have hg2 := getAt_short5 (pre := one l.length) (n := nth l 0) (j := k - (one l.length).length) (nth_lt l 0) (by omega) (i := ((([] : List UInt8).length + (one l.length).length : Nat) : Int)) (by simp)
        rw [List.nil_append] at hg
        rw [e]
        unfold unpack
        rw [hg]
        simp only
        rw [if_neg (by simp), if_neg (by omega), if_neg (by omega), if_pos (by rw [hg2]; simp)]
        exact hg2
      · have hne : l.length ≠ 1 := fun hh => by
          rw [hrest, hn1 hh] at hk
          simp only [List.length_append, List.length_nil] at hk
          omega
        obtain ⟨n, hn⟩ : ∃ n, l.length = n + 1 := ⟨l.length - 1, by omega⟩
        have hn1 : l.length - 1 = n := by omega
        rw [if_neg (by omega), if_neg hne, hn1] at hc
        obtain ⟨w, hw⟩ : ∃ w, w = width l n := ⟨_, rfl⟩
        have hwl := width_le l n
        rw [← hw] at hc hwl
        obtain ⟨M, hM⟩ : ∃ M, M = mkB (laid l w n) (packSize n w) := ⟨_, rfl⟩
        have hMl : M.length = packSize n w := by rw [hM, mkB_len]
        rw [← hM] at hc
        have hc2 : c = (one l.length ++ one (nth l 0)) ++ ([UInt8.ofNat w] ++ M) := by rw [hc]; simp
        obtain ⟨p, hp⟩ : ∃ p, p = (one l.length).length + (one (nth l 0)).length := ⟨_, rfl⟩
        have hpl : (one l.length ++ one (nth l 0)).length = p := by rw [hp, List.length_append]
        have hcl : c.length = p + 1 + packSize n w := by rw [hc2, List.length_append, hpl, List.length_append, hMl]; simp; omega
        have e : c.take k = one l.length ++ (one (nth l 0) ++ ([UInt8.ofNat w] ++ M).take (k - p)) := by
          rw [hc2, List.take_append, List.take_of_length_le (by omega), hpl, List.append_assoc]
        have hg := getAt_here (pre := []) (rest := one (nth l 0) ++ ([UInt8.ofNat w] ++ M).take (k - p)) (n := l.length) (by omega) (i := 0) rfl
        have hg2 := getAt_here (pre := one l.length) (rest := ([UInt8.ofNat w] ++ M).take (k - p)) (n := nth l 0) (nth_lt l 0) (i := ((([] : List UInt8).length + (one l.length).length : Nat) : Int)) (by simp)
        rw [List.nil_append] at hg
        have hbl : (one l.length ++ (one (nth l 0) ++ ([UInt8.ofNat w] ++ M).take (k - p))).length = k := by
          rw [← e, List.length_take]; omega
        rw [e]
        unfold unpack
        rw [hg]
        simp only
        rw [hg2]
        rw [if_neg (by simp), if_neg (by omega), if_neg (by omega), if_neg (by simp), if_neg (by omega)]
        simp only [Int.toNat_natCast]
        rw [← hp]
        unfold tailOf
        by_cases h3 : k ≤ p
        · rw [hbl, if_pos h3]
        · have hbg : ((one l.length ++ (one (nth l 0) ++ ([UInt8.ofNat w] ++ M).take (k - p))).getD p 0).toNat = w := by
            rw [← List.append_assoc, List.getD, List.getElem?_append_right (by rw [hpl]; exact Nat.le_refl _), hpl, Nat.sub_self, List.getElem?_take, if_pos (by omega)]
            simp; omega
          rw [hbg, hbl, if_neg h3, if_neg (by omega), hn1, if_pos (by omega)]

/-- What is unpacked is packed as the bytes that were read. -/
theorem pack_unpack {b : List UInt8} {m : List UInt64} {to : Nat} (h : unpack b 0 = (m, to, 0)) : pack m = (b.take to, 0) ∧ to ≤ b.length := by
  unfold unpack at h
  obtain ⟨n, f, e, hv⟩ : ∃ n f e, getAt b 0 = (n, f, e) := ⟨_, _, _, rfl⟩
  rw [hv] at h
  simp only at h
  by_cases he : e = 0
  · subst he
    rw [if_neg (by simp)] at h
    obtain ⟨t, rfl, ht, ho, hn64⟩ := getAt_took (b := b) (t := 0) hv
    rw [Nat.zero_add] at ht h
    rw [List.drop_zero] at ho
    by_cases h1 : 65536 < n
    · rw [if_pos h1] at h; simp at h
    · rw [if_neg h1] at h
      by_cases h2 : n = 0
      · subst h2
        rw [if_pos rfl] at h
        simp only [Prod.mk.injEq, Int.toNat_natCast] at h
        obtain ⟨rfl, rfl, -⟩ := h
        refine ⟨?_, ht⟩
        rw [← ho]
        rfl
      · rw [if_neg h2] at h
        obtain ⟨d, f2, e2, hv2⟩ : ∃ d f2 e2, getAt b (t : Nat) = (d, f2, e2) := ⟨_, _, _, rfl⟩
        rw [hv2] at h
        simp only at h
        by_cases he2 : e2 = 0
        · subst he2
          rw [if_neg (by simp)] at h
          obtain ⟨t', rfl, ht2, ho2, hd64⟩ := getAt_took (b := b) (t := t) hv2
          have hone : one n ++ one d = b.take (t + t') := by rw [ho, ho2, List.take_add]
          by_cases h3 : n = 1
          · subst h3
            rw [if_pos rfl] at h
            simp only [Prod.mk.injEq, Int.toNat_natCast] at h
            obtain ⟨rfl, rfl, -⟩ := h
            refine ⟨?_, ht2⟩
            rw [← hone]
            have e : nth [UInt64.ofNat d] 0 = d := by simp [nth]; omega
            unfold pack
            rw [if_neg (by simp), if_neg (fun h => h (fun j hj => by simp at hj)), if_neg (by simp), if_pos (by simp), e]
          · rw [if_neg h3] at h
            simp only [Int.toNat_natCast] at h
            obtain ⟨k, rfl⟩ : ∃ k, n = k + 1 := ⟨n - 1, by omega⟩
            rw [Nat.add_sub_cancel] at h
            obtain ⟨p, hp⟩ : ∃ p, p = t + t' := ⟨_, rfl⟩
            rw [← hp] at h ht2 hone
            unfold tailOf at h
            by_cases h4 : b.length ≤ p
            · rw [if_pos h4] at h; simp at h
            · rw [if_neg h4] at h
              obtain ⟨w, hw⟩ : ∃ w, w = (b.getD p 0).toNat := ⟨_, rfl⟩
              rw [← hw] at h
              by_cases h5 : 64 < w
              · rw [if_pos h5] at h; simp at h
              · rw [if_neg h5] at h
                by_cases h6 : b.length < p + 1 + packSize k w
                · rw [if_pos h6] at h; simp at h
                · rw [if_neg h6] at h
                  unfold restOf at h
                  by_cases h7 : 18446744073709551616 ≤ numAt (bitAt (b.drop (p + 1))) w d k ∨ needTo (bitAt (b.drop (p + 1))) w k ≠ w ∨ ¬ Pk.Clean (bitAt (b.drop (p + 1))) (k * w) (packSize k w)
                  · rw [if_pos h7] at h; simp at h
                  · rw [if_neg h7] at h
                    have hN : numAt (bitAt (b.drop (p + 1))) w d k < 18446744073709551616 := by
                      rcases Nat.lt_or_ge (numAt (bitAt (b.drop (p + 1))) w d k) 18446744073709551616 with hh | hh
                      · exact hh
                      · exact absurd (.inl hh) h7
                    have hW : needTo (bitAt (b.drop (p + 1))) w k = w := Decidable.byContradiction fun hh => h7 (.inr (.inl hh))
                    have hC : Pk.Clean (bitAt (b.drop (p + 1))) (k * w) (packSize k w) := Decidable.byContradiction fun hh => h7 (.inr (.inr hh))
                    simp only [Prod.mk.injEq] at h
                    obtain ⟨rfl, rfl, -⟩ := h
                    have hg : mkB (bitAt (b.drop (p + 1))) (packSize k w) = (b.drop (p + 1)).take (packSize k w) := by
                      have hl : ((b.drop (p + 1)).take (packSize k w)).length = packSize k w := by rw [List.length_take, List.length_drop]; omega
                      rw [← mkB_congr (f := bitAt ((b.drop (p + 1)).take (packSize k w))) (fun j hj => bitAt_take _ _ _ hj)]
                      have := mkB_bitAt ((b.drop (p + 1)).take (packSize k w))
                      rwa [hl] at this
                    generalize bitAt (b.drop (p + 1)) = g at *
                    obtain ⟨m, hm⟩ : ∃ m, m = numbers g w d (k + 1) := ⟨_, rfl⟩
                    have hml : m.length = k + 1 := by rw [hm, numbers_len]
                    have hnth : ∀ i, i ≤ k → nth m i = numAt g w d i := fun i hi => by
                      have := numAt_mono g w d hi
                      rw [nth, hm, List.getD, numbers_get g w d (k + 1) i (by omega), Option.getD_some]
                      simp; omega
                    have hgap : ∀ i, i < k → gap m i = getN g (i * w) w := fun i hi => by
                      unfold gap; rw [hnth i (by omega), hnth (i + 1) (by omega), numAt]; omega
                    have hwid : ∀ i, i ≤ k → width m i = needTo g w i := fun i => by
                      induction i with
                      | zero => intro _; rfl
                      | succ i ih => intro hi; rw [width, needTo, ih (by omega), hgap i (by omega)]
                    have hris : Rises m k := fun i hi => by
                      rw [hnth i (by omega), hnth (i + 1) (by omega), numAt]; omega
                    have hwk : width m k = w := (hwid k (Nat.le_refl _)).trans hW
                    have hlaid : mkB (laid m w k) (packSize k w) = mkB g (packSize k w) := mkB_congr fun j hj => by
                      by_cases hjk : j < k * w
                      · have hw0 : 0 < w := by
                          rcases Nat.eq_zero_or_pos w with h0 | h0
                          · rw [h0] at hjk; simp at hjk
                          · exact h0
                        have hdiv : j / w < k := by rw [Nat.div_lt_iff_lt_mul hw0]; exact hjk
                        have hmod : j % w < w := Nat.mod_lt _ hw0
                        unfold laid bitsF
                        rw [if_pos hjk, hgap _ hdiv, getN_bit g _ _ _ hmod]
                        congr 1
                        rw [Nat.mul_comm]; exact Nat.div_add_mod j w
                      · unfold laid
                        rw [if_neg hjk]
                        exact (hC j hj (by omega)).symm
                    rw [← hm]
                    refine ⟨?_, by omega⟩
                    unfold pack
                    rw [hml, Nat.add_sub_cancel, if_neg (by omega), if_neg (fun hh => hh hris), if_neg (by omega), if_neg (by omega), hwk, hlaid, hg, hnth 0 (by omega)]
                    refine Prod.ext ?_ rfl
                    simp only
                    rw [show numAt g w d 0 = d from rfl, hone]
                    have hbp : b.take (p + 1) = b.take p ++ [UInt8.ofNat w] := by
                      rw [List.take_succ_eq_append_getElem (by omega)]
                      congr 2
                      rw [hw, List.getD, List.getElem?_eq_getElem (by omega)]
                      simp
                    rw [← hbp]
                    exact List.take_add.symm
        · rw [if_pos he2] at h
          simp only [Prod.mk.injEq] at h
          exact absurd h.2.2 he2
  · rw [if_pos he] at h
    simp only [Prod.mk.injEq] at h
    exact absurd h.2.2 he
end Pk
end Go.Proofs.Ytdjmjmbfaokdaaa
