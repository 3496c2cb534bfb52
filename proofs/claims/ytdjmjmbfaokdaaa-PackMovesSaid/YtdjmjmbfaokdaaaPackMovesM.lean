/- PackMoves in plain Lean: a list moved by a number, and one half of a list. -/
import Derived.Test.YtdjmjmbfaokdaaaPackKeepsLaw
namespace Go.Proofs.Ytdjmjmbfaokdaaa
set_option linter.unusedVariables false
open Go.RowKit
open Varm
namespace Pk

theorem one_size (k : Nat) : (one k).length = if k < 128 then 1 else (one (k / 128)).length + 1 := by
  conv => lhs; rw [one]
  split <;> simp
theorem one_mono (n : Nat) : ∀ m, n ≤ m → (one n).length ≤ (one m).length := by
  induction n using Nat.strongRecOn with
  | _ n ih =>
    intro m h
    rw [one_size n, one_size m]
    by_cases hn : n < 128
    · rw [if_pos hn]
      split <;> omega
    · rw [if_neg hn, if_neg (by omega)]
      have := ih (n / 128) (by omega) (m / 128) (by omega)
      omega

theorem pack_of {l : List UInt64} (h1 : l.length ≤ 65536) (h2 : Rises l (l.length - 1)) (h3 : 2 ≤ l.length) :
    (pack l).2 = 0 ∧ (pack l).1.length = (one l.length).length + (one (nth l 0)).length + 1 + packSize (l.length - 1) (width l (l.length - 1)) := by
  unfold pack
  rw [if_neg (by omega), if_neg (fun h => h h2), if_neg (by omega), if_neg (by omega)]
  refine ⟨rfl, ?_⟩
  simp only [List.length_append, mkB_len, List.length_singleton]
theorem pack_one {l : List UInt64} (h : l.length = 1) : pack l = (one 1 ++ one (nth l 0), 0) := by
  unfold pack
  rw [if_neg (by omega), if_neg (fun h2 => h2 (fun j hj => by omega)), if_neg (by omega), if_pos (by omega)]

theorem rises_le {l : List UInt64} {k : Nat} (h : Rises l k) : ∀ i, i ≤ k → nth l i ≤ nth l k := by
  intro i hi
  obtain ⟨d, rfl⟩ : ∃ d, k = i + d := ⟨k - i, by omega⟩
  induction d with
  | zero => exact Nat.le_refl _
  | succ d ih =>
    have h1 := ih (fun j hj => h j (by omega)) (by omega)
    have h2 := h (i + d) (by omega)
    have e : i + (d + 1) = i + d + 1 := by omega
    rw [e]; omega

/-- All numbers moved by one. -/
def moved (l : List UInt64) (b : UInt64) : List UInt64 := l.map fun x => x + b
theorem moved_len (l : List UInt64) (b : UInt64) : (moved l b).length = l.length := by simp [moved]
theorem moved_nth (l : List UInt64) (b : UInt64) (i : Nat) (hi : i < l.length) (h : nth l i + b.toNat < 18446744073709551616) : nth (moved l b) i = nth l i + b.toNat := by
  unfold nth moved at *
  rw [List.getD, List.getElem?_eq_getElem hi] at h
  rw [List.getD, List.getD, List.getElem?_map, List.getElem?_eq_getElem hi]
  simp only [Option.map_some, Option.getD_some, UInt64.toNat_add] at *
  omega
theorem width_same {l m : List UInt64} : ∀ k, (∀ j, j < k → gap m j = gap l j) → width m k = width l k
  | 0, _ => rfl
  | k + 1, h => by rw [width, width, width_same k (fun j hj => h j (by omega)), h k (by omega)]
theorem width_up (l : List UInt64) {k : Nat} : ∀ d, width l k ≤ width l (k + d)
  | 0 => Nat.le_refl _
  | d + 1 => by
    have := width_up l (k := k) d
    have e : k + (d + 1) = k + d + 1 := by omega
    rw [e, width]; omega
theorem packSize_mono {n m w v : Nat} (h1 : n ≤ m) (h2 : w ≤ v) : packSize n w ≤ packSize m v := by
  have := Nat.mul_le_mul h1 h2
  unfold packSize; omega
theorem nth_take (l : List UInt64) (k i : Nat) (h : i < k) : nth (l.take k) i = nth l i := by
  unfold nth
  rw [List.getD, List.getD, List.getElem?_take, if_pos h]

/-- What the law asks of a list that packs. -/
theorem moves_ok {l : List UInt64} {C : List UInt8} (hp : pack l = (C, 0)) (h2 : 2 ≤ l.length) (b : UInt64) (hx : nth l (l.length - 1) ≤ 9223372036854775808) (hb : b.toNat ≤ 9223372036854775807) :
    (pack (moved l b)).2 = 0 ∧ (pack (l.take (l.length / 2))).2 = 0 ∧
    (pack (moved l b)).1.length + (pack (l.take 1)).1.length = C.length + (pack ((moved l b).take 1)).1.length ∧
    (pack ((moved l b).take 1)).1.length ≤ (pack (moved l b)).1.length ∧ (pack (l.take 1)).1.length ≤ C.length ∧
    (pack (l.take (l.length / 2))).1.length ≤ C.length := by
  obtain ⟨hl, hr, -⟩ := pack_ok hp
  have hn : ∀ i, i < l.length → nth (moved l b) i = nth l i + b.toNat := fun i hi => by
    have := rises_le hr i (by omega)
    exact moved_nth l b i hi (by omega)
  have hR : Rises (moved l b) ((moved l b).length - 1) := fun j hj => by
    rw [moved_len] at hj
    have := hr j hj
    rw [hn j (by omega), hn (j + 1) (by omega)]; omega
  have hg : ∀ j, j < l.length - 1 → gap (moved l b) j = gap l j := fun j hj => by
    unfold gap
    rw [hn j (by omega), hn (j + 1) (by omega)]; omega
  obtain ⟨a1, a2⟩ := pack_of hl hr h2
  obtain ⟨b1, b2⟩ := pack_of (l := moved l b) (by rw [moved_len]; exact hl) hR (by rw [moved_len]; exact h2)
  rw [hp] at a2
  simp only at a2
  rw [moved_len, width_same _ hg, hn 0 (by omega)] at b2
  have f1 : pack (l.take 1) = _ := pack_one (l := l.take 1) (by rw [List.length_take]; omega)
  have f2 : pack ((moved l b).take 1) = _ := pack_one (l := (moved l b).take 1) (by rw [List.length_take, moved_len]; omega)
  rw [nth_take _ _ _ (by omega)] at f1 f2
  rw [hn 0 (by omega)] at f2
  have ho1 : (one 1).length = 1 := by rw [one_lt (by omega)]; rfl
  have hol := one_mono 1 l.length (by omega)
  rw [f1, f2]
  simp only [List.length_append]
  refine ⟨b1, ?_, by omega, by omega, by omega, ?_⟩
  all_goals
    have hkl : (l.take (l.length / 2)).length = l.length / 2 := by rw [List.length_take]; omega
    rcases Nat.lt_or_ge (l.length / 2) 2 with hs | hs
    · have hp1 := pack_one (l := l.take (l.length / 2)) (by omega)
      first
      | (rw [hp1]; done)
      | (rw [hp1, nth_take _ _ _ (by omega)]
         simp only [List.length_append]
         omega)
    · have hRt : Rises (l.take (l.length / 2)) ((l.take (l.length / 2)).length - 1) := fun j hj => by
        rw [nth_take _ _ _ (by omega), nth_take _ _ _ (by omega)]
        exact hr j (by omega)
      obtain ⟨c1, c2⟩ := pack_of (l := l.take (l.length / 2)) (by omega) hRt (by omega)
      first
      | exact c1
      | (rw [c2, hkl, nth_take _ _ _ (by omega)]
         have w1 : width (l.take (l.length / 2)) (l.length / 2 - 1) = width l (l.length / 2 - 1) := width_same _ (fun j hj => by
           unfold gap
           rw [nth_take _ _ _ (by omega), nth_take _ _ _ (by omega)])
         have w2 := width_up l (k := l.length / 2 - 1) (l.length - 1 - (l.length / 2 - 1))
         rw [show l.length / 2 - 1 + (l.length - 1 - (l.length / 2 - 1)) = l.length - 1 by omega] at w2
         have w3 := packSize_mono (n := l.length / 2 - 1) (m := l.length - 1) (by omega) w2
         have w4 := one_mono (l.length / 2) l.length (by omega)
         rw [w1]
         omega)
end Pk
end Go.Proofs.Ytdjmjmbfaokdaaa
