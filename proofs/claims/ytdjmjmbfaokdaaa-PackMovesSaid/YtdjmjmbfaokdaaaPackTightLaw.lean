/- PackTight: the walk of the law. -/
import Derived.Test.YtdjmjmbfaokdaaaPackBackLaw
namespace Go.Proofs.Ytdjmjmbfaokdaaa
set_option linter.unusedVariables false
open Go.RowKit
open Varm Pk

def Apart (u v : Value) : Prop := u.ownBlock = none ∨ u.ownBlock ≠ v.ownBlock
theorem Apart.symm {u v : Value} (h : Apart u v) : Apart v u := by
  unfold Apart at *
  rcases h with h | h
  · cases hv : v.ownBlock with
    | none => exact .inl rfl
    | some g => right; rw [h]; simp
  · exact .inr (fun e => h e.symm)
theorem Apart.grow {w w' : World} {u v v' : Value} (h : Apart u v) (hg : Grew w v w' v') (hu : ∀ g, u.ownBlock = some g → g < w.heap.size) : Apart u v' := by
  unfold Apart at *
  rcases hg.at_ with e | ⟨k, e, hk⟩
  · rw [e]; exact h
  · cases hub : u.ownBlock with
    | none => exact .inl rfl
    | some g =>
      right
      rw [e]
      intro h2
      injection h2 with h2
      have := hu g hub
      omega

namespace Pk
/-- Numbers at one distance. -/
def steps (a g k : Nat) : List UInt64 := (List.range k).map fun i => UInt64.ofNat (a + i * g)
theorem steps_len (a g k : Nat) : (steps a g k).length = k := by simp [steps]
theorem steps_succ (a g k : Nat) : steps a g (k + 1) = steps a g k ++ [UInt64.ofNat (a + k * g)] := by
  unfold steps; rw [List.range_succ, List.map_append]; rfl
theorem steps_nth (a g k i : Nat) (hi : i < k) (hb : a + i * g < 18446744073709551616) : nth (steps a g k) i = a + i * g := by
  unfold nth steps
  rw [List.getD, List.getElem?_map, List.getElem?_range hi]
  simp; omega
theorem steps_gap (a g k i : Nat) (hg : 1 ≤ g) (hi : i + 1 < k) (hb : a + k * g < 18446744073709551616) : nth (steps a g k) i < nth (steps a g k) (i + 1) ∧ gap (steps a g k) i = g - 1 := by
  have h1 : i * g ≤ k * g := Nat.mul_le_mul_right _ (by omega)
  have h2 : (i + 1) * g ≤ k * g := Nat.mul_le_mul_right _ (by omega)
  have e : (i + 1) * g = i * g + g := by rw [Nat.add_mul, Nat.one_mul]
  unfold gap
  rw [steps_nth a g k i (by omega) (by omega), steps_nth a g k (i + 1) hi (by omega)]
  omega
theorem steps_width (a g k : Nat) (hg : 1 ≤ g) (hb : a + k * g < 18446744073709551616) : ∀ i, i + 1 ≤ k → width (steps a g k) i = if i = 0 then 0 else Go.Lib.bitLen (g - 1)
  | 0, _ => rfl
  | i + 1, h => by
    rw [width, steps_width a g k hg hb i (by omega), (steps_gap a g k i hg (by omega) hb).2, if_neg (show ¬ i + 1 = 0 by omega)]
    by_cases hi : i = 0
    · rw [if_pos hi, Nat.zero_max]
    · rw [if_neg hi, Nat.max_self]
theorem steps_pack (a g k : Nat) (hg : 1 ≤ g) (h2 : 2 ≤ k) (hk : k ≤ 60) (hb : a + k * g < 18446744073709551616) :
    (pack (steps a g k)).2 = 0 ∧ (pack (steps a g k)).1.length = 2 + (one a).length + ((k - 1) * Go.Lib.bitLen (g - 1) + 7) / 8 := by
  have hl := steps_len a g k
  have hR : Rises (steps a g k) ((steps a g k).length - 1) := fun j hj => (steps_gap a g k j hg (by omega) hb).1
  have hn0 : nth (steps a g k) 0 = a := by rw [steps_nth a g k 0 (by omega) (by rw [Nat.zero_mul]; omega), Nat.zero_mul, Nat.add_zero]
  have hone : (one k).length = 1 := by rw [one_lt (by omega)]; rfl
  unfold pack
  rw [if_neg (by omega), if_neg (fun h => h hR), if_neg (by omega), if_neg (by omega)]
  refine ⟨rfl, ?_⟩
  simp only
  rw [hl, hn0, steps_width a g k hg hb (k - 1) (by omega), if_neg (by omega)]
  simp only [List.length_append, mkB_len, List.length_singleton, hone]
  unfold packSize
  omega
theorem one_pack (a : Nat) (ha : a < 18446744073709551616) : pack [UInt64.ofNat a] = (one 1 ++ one a, 0) := by
  have e : nth [UInt64.ofNat a] 0 = a := by simp [nth]; omega
  unfold pack
  rw [if_neg (by simp), if_neg (fun h => h (fun j hj => by simp at hj)), if_neg (by simp), if_pos (by simp), e]
end Pk

set_option maxHeartbeats 4000000 in
set_option maxRecDepth 100000 in
theorem packTight_any (x n y : Int) (hx : 0 ≤ x ∧ x ≤ 18446744073709551615) (hn : 0 ≤ n ∧ n ≤ 255) (hy : 0 ≤ y ∧ y ≤ 18446744073709551615) (w : World) :
    Calls Try.prog 11 #[.int .u64 x, .int .u8 n, .int .u64 y] w fun e w' => e = .returned (.bool true) ∧ Below w.heap.size w w' := by
  obtain ⟨a, ha, ha2⟩ : ∃ a : Nat, x % 1099511627776 = (a : Int) ∧ a < 1099511627776 := ⟨(x % 1099511627776).toNat, by omega, by omega⟩
  obtain ⟨g, hg, hg1, hg2⟩ : ∃ g : Nat, y % 72057594037927936 + 1 = (g : Int) ∧ 1 ≤ g ∧ g ≤ 72057594037927936 := ⟨(y % 72057594037927936 + 1).toNat, by omega, by omega, by omega⟩
  obtain ⟨K, hK, hK2, hK3⟩ : ∃ K : Nat, n % 50 + 2 = (K : Int) ∧ 2 ≤ K ∧ K ≤ 51 := ⟨(n % 50 + 2).toNat, by omega, by omega, by omega⟩
  have hKg : K * g ≤ 51 * 72057594037927936 := Nat.mul_le_mul hK3 hg2
  obtain ⟨p1, p2⟩ := steps_pack a 1 K (by omega) hK2 (by omega) (by omega)
  obtain ⟨q1, q2⟩ := steps_pack a g K hg1 hK2 (by omega) (by omega)
  have hbl0 : Go.Lib.bitLen (1 - 1) = 0 := rfl
  rw [hbl0, Nat.mul_zero] at p2
  have P2 := Lib.hid p2
  have Q2 := Lib.hid q2
  clear p2 q2
  go_enter Try.func11, Try.ntmps11
  go_wp2_with fail
  refine (awake3_any w).mono ?_
  rintro e w0 ⟨rfl, hb0⟩
  have hs0 := hb0.size
  go_wp2_with fail
  simp only [ha]
  clear ha hg hK
  go_loopw [8, 9, 10] (fun vl vm i wr => ∃ k : Nat, k ≤ K ∧ i = .int .i64 k ∧ wr.ownsRow w0.heap.size 33 1 vl k ((steps a 1 k).map vq) ∧ wr.ownsRow w0.heap.size 33 1 vm k ((steps a g k).map vq) ∧ Apart vl vm ∧ Below w0.heap.size w0 wr) (fun _ _ i _ => K - (intOf i).toNat)
  case atStart => exact ⟨0, Nat.zero_le _, rfl, World.ownsRow_nil _ _ _ _, World.ownsRow_nil _ _ _ _, .inl rfl, Below.refl _ _⟩
  case round =>
    obtain ⟨k, hk, rfl, hownl, hownm, hap, hbr⟩ := hrel
    have hsr := hbr.size
    rcases Nat.lt_or_ge k K with hlt | hge
    · obtain ⟨P, hP⟩ : ∃ P, P = k * g := ⟨_, rfl⟩
      have hPI : (k : Int) * (g : Int) = (P : Int) := by rw [hP, Int.natCast_mul]
      have hPle : P ≤ K * g := by rw [hP]; exact Nat.mul_le_mul_right _ (by omega)
      have wr1 : IntKind.u64.wrap ((a : Int) + (k : Int)) = (a : Int) + (k : Int) := IntWalk.u64_in _ (by omega)
      have wr2 : IntKind.u64.wrap (P : Int) = (P : Int) := IntWalk.u64_in _ (by omega)
      have wr3 : IntKind.u64.wrap ((a : Int) + (P : Int)) = (a : Int) + (P : Int) := IntWalk.u64_in _ (by omega)
      have HP := Lib.hid hP
      clear hP
      obtain ⟨Al, cl, rfl, -⟩ := own_slice hownl
      obtain ⟨Am, cm, rfl, -⟩ := own_slice hownm
      go_wp2_with (at_builtin; go_must (refine app1k rowNum rfl _ _ rfl _ w0.heap.size _ _ _ rfl (by exact hownl) _ rfl rfl rfl (by omega) (by omega) ?_))
      intro v5 w5 hown5 hg5
      have hb5 := hg5.below hbr hownl (by omega)
      have hs5 := hg5.by_.size
      have hm5 := hownm.kept hg5.by_ hap.symm
      have hap5 := (hap.symm.grow hg5 (fun q hq => (hownm.lt q hq).2)).symm
      have hrow5 : (steps a 1 k).map vq ++ [.int .u64 ((a : Int) + (k : Int))] = (steps a 1 (k + 1)).map vq := by
        rw [steps_succ, List.map_append, Nat.mul_one]
        congr 1
        simp only [List.map_cons, List.map_nil]
        rw [vq_of (by omega)]; rfl
      replace hown5 : w5.ownsRow w0.heap.size 33 1 v5 (k + 1) ((steps a 1 (k + 1)).map vq) := by rw [← hrow5]; exact hown5
      clear hownl hownm hap hbr hrow5 hg5
      go_wp2_with (at_builtin; go_must (refine app1k rowNum rfl _ _ rfl _ w0.heap.size _ _ _ rfl (by exact hm5) _ rfl rfl rfl (by omega) (by omega) ?_))
      intro v6 w6 hown6 hg6
      have hb6 := hg6.below hb5 hm5 (by omega)
      have hl6 := hown5.kept hg6.by_ hap5
      have hap6 := hap5.grow hg6 (fun q hq => (hown5.lt q hq).2)
      have hrow6 : (steps a g k).map vq ++ [.int .u64 ((a : Int) + (P : Int))] = (steps a g (k + 1)).map vq := by
        rw [steps_succ, List.map_append, ← HP.out]
        congr 1
        simp only [List.map_cons, List.map_nil]
        rw [vq_of (by omega)]; rfl
      replace hown6 : w6.ownsRow w0.heap.size 33 1 v6 (k + 1) ((steps a g (k + 1)).map vq) := by rw [← hrow6]; exact hown6
      clear hm5 hown5 hap5 hb5 hrow6 hg6
      go_wp2_with fail
      go_roundw
      case rel => exact ⟨k + 1, by omega, by go_num, hl6, hown6, hap6, hb6⟩
      case measure => simp [intOf]; omega
    · obtain rfl : K = k := by omega
      have hl1 := steps_len a 1 K
      have hl2 := steps_len a g K
      obtain ⟨Al, cl, rfl, hcl, -⟩ := own_slice hownl
      obtain ⟨Am, cm, rfl, hcm, -⟩ := own_slice hownm
      have hbw := hb0.trans (hbr.mono hs0)
      have HL1 := Lib.hid hl1
      have hx1 := pack_any (steps a 1 K) Al cl wr wr.heap.size (by have := Reads.of_own hownl; exact this) (Nat.le_refl _) (by omega) (by omega)
      unfold BAns at hx1
      rw [p1, hl1] at hx1
      have HX1 := Lib.hid hx1
      clear hx1 hb0 hbr
      go_wp2_with fail
      refine HX1.out.mono ?_
      rintro e w5 ⟨v5, rfl, hown5, hb5⟩
      have hs5 := hb5.size
      have hl5 := own_past hownl hb5 (Nat.le_refl _)
      have hm5 := own_past hownm hb5 (Nat.le_refl _)
      have hb05 := hbw.trans (hb5.mono (by omega))
      obtain ⟨A5, c5, rfl, -⟩ := own_slice hown5
      have hx2 := pack_any (steps a g K) Am cm w5 w5.heap.size (Reads.of_own hm5) (Nat.le_refl _) (by omega) (by omega)
      unfold BAns at hx2
      rw [q1, hl2] at hx2
      have HX2 := Lib.hid hx2
      clear hx2 hownl hownm hbw hb5 HX1
      simp only [castZ]
      go_wp2_with fail
      refine HX2.out.mono ?_
      rintro e w6 ⟨v6, rfl, hown6, hb6⟩
      have hs6 := hb6.size
      have hl6 := own_past hl5 hb6 (Nat.le_refl _)
      have hb06 := hb05.trans (hb6.mono (by omega))
      obtain ⟨A6, c6, rfl, -⟩ := own_slice hown6
      have htk : (steps a 1 K).take 1 = [UInt64.ofNat a] := by
        obtain ⟨K', rfl⟩ : ∃ K', K = K' + 1 := ⟨K - 1, by omega⟩
        unfold steps
        rw [List.range_succ_eq_map]
        simp
      have hx3 := pack_any [UInt64.ofNat a] Al cl w6 w6.heap.size (by rw [← htk, List.map_take]; exact (Reads.of_own hl6).take 1) (Nat.le_refl _) (by simp; omega) (by simp)
      rw [one_pack a (by omega)] at hx3
      have HX3 := Lib.hid hx3
      clear hx3 hl5 hm5 hb05 hb6 HX2
      simp only [castZ]
      go_wp2_with fail
      refine HX3.out.mono ?_
      rintro e w7 ⟨v7, rfl, hown7, hb7⟩
      have HB := Lib.hid (hb06.trans (hb7.mono (by omega)))
      obtain ⟨A7, c7, rfl, -⟩ := own_slice hown7
      have p2 := P2.out
      have q2 := Q2.out
      clear P2 Q2
      have ho1 : (one 1).length = 1 := by rw [one_lt (by omega)]; rfl
      have hl7 : (one 1 ++ one a).length = 1 + (one a).length := by rw [List.length_append, ho1]
      have hne := need_any (g - 1) w7 (by omega)
      have hgI : (g : Int) - 1 = ((g - 1 : Nat) : Int) := by omega
      have HNE := Lib.hid hne
      have hNl : Go.Lib.bitLen (g - 1) ≤ 64 := Go.Lib.bitLen_le (g - 1) 64 (by omega) (by omega)
      obtain ⟨gm, hgm⟩ : ∃ gm, gm = g - 1 := ⟨_, rfl⟩
      have hgmI : (g : Int) - 1 = (gm : Int) := by omega
      rw [← hgm] at q2 HNE hNl
      obtain ⟨N, hN⟩ : ∃ N, N = Go.Lib.bitLen gm := ⟨_, rfl⟩
      rw [← hN] at q2 HNE hNl
      obtain ⟨k1, hk1⟩ : ∃ k1, k1 = K - 1 := ⟨_, rfl⟩
      have hk1I : (K : Int) - 1 = (k1 : Int) := by omega
      obtain ⟨M, hM⟩ : ∃ M, M = k1 * N := ⟨_, rfl⟩
      have hMI : (k1 : Int) * (N : Int) = (M : Int) := by rw [hM, Int.natCast_mul]
      have hMl : M ≤ 50 * 64 := by rw [hM]; exact Nat.mul_le_mul (by omega) hNl
      rw [← hk1, ← hM] at q2
      have hoa := one_len a (by omega)
      clear hown5 hown6 hown7 hl6 hb06 hb7 hgI hne hgm hN hk1 hM
      generalize (pack (steps a 1 K)).1.length = L1 at *
      generalize (pack (steps a g K)).1.length = L2 at *
      generalize (one 1 ++ one a).length = L3 at *
      have t1 : ((L1 : Int) == (L3 : Int) + 1) = true := by simp only [beq_iff_eq]; omega
      have t2 : ((L2 : Int) == (L1 : Int) + ((M : Int) + 7) / 8) = true := by simp only [beq_iff_eq]; omega
      have hwM : IntKind.i64.wrap (M : Int) = (M : Int) := IntWalk.i64_in _ (by omega)
      have hL3 : L3 ≤ 20 := by omega
      have hL1 : L1 ≤ 20 := by omega
      clear p2 q2 hl7
      simp only [castZ]
      go_wp2_with fail
      refine HNE.out.mono ?_
      rintro e w8 ⟨rfl, rfl⟩
      go_wp2_with fail
      go_ret
      exact ⟨rfl, HB.out⟩
end Go.Proofs.Ytdjmjmbfaokdaaa
