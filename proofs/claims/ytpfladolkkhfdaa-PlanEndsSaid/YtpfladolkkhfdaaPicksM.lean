/- PlanPicks: plain facts of which four are merged. -/
import Derived.Test.YtpfladolkkhfdaaMergem
namespace Go.Proofs.Ytpfladolkkhfdaa
set_option linter.unusedVariables false

theorem fitsAt_iff {l : List Sg} {t : Nat} : fitsAt l t = true ↔ (placesTo l t l.length).1.length = 4 ∧ (placesTo l t l.length).2 ≤ 65536 := by simp [fitsAt]
theorem mergeFrom_spec (l : List Sg) : ∀ n t, (mergeFrom l t n = [] ∧ ∀ t', t ≤ t' → t' < t + n → fitsAt l t' = false) ∨
    ∃ t0, t ≤ t0 ∧ t0 < t + n ∧ fitsAt l t0 = true ∧ mergeFrom l t n = (placesTo l t0 l.length).1 ∧ ∀ t', t ≤ t' → t' < t0 → fitsAt l t' = false
  | 0, t => .inl ⟨rfl, fun t' h1 h2 => by omega⟩
  | n + 1, t => by
    rw [mergeFrom]
    cases hf : fitsAt l t with
    | true => exact .inr ⟨t, by omega, by omega, hf, by simp, fun t' h1 h2 => by omega⟩
    | false =>
      rcases mergeFrom_spec l n (t + 1) with ⟨h1, h2⟩ | ⟨t0, h1, h2, h3, h4, h5⟩
      · refine .inl ⟨by simpa using h1, fun t' a b => ?_⟩
        by_cases e : t' = t
        · subst e; exact hf
        · exact h2 t' (by omega) (by omega)
      · refine .inr ⟨t0, by omega, by omega, h3, by simpa using h4, fun t' a b => ?_⟩
        by_cases e : t' = t
        · subst e; exact hf
        · exact h5 t' (by omega) (by omega)
theorem merge_spec (l : List Sg) : (merge l = [] ∧ ∀ t, fitsAt l t = false) ∨
    ∃ t0, t0 < 32 ∧ fitsAt l t0 = true ∧ merge l = (placesTo l t0 l.length).1 ∧ ∀ t, t < t0 → fitsAt l t = false := by
  rcases mergeFrom_spec l 32 0 with ⟨h1, h2⟩ | ⟨t0, h1, h2, h3, h4, h5⟩
  · refine .inl ⟨h1, fun t => ?_⟩
    rcases Nat.lt_or_ge t 32 with h | h
    · exact h2 t (by omega) (by omega)
    · exact fitsAt_none l t h
  · exact .inr ⟨t0, by omega, h3, h4, fun t h => h5 t (by omega) h⟩

theorem placesTo_tier (l : List Sg) (t : Nat) : ∀ k, ∀ i ∈ (placesTo l t k).1, ∃ s, l[i]? = some s ∧ tier s.cnt.toInt = t
  | 0 => by simp [placesTo]
  | k + 1 => by
    intro i hi
    have ih := placesTo_tier l t k
    simp only [placesTo] at hi
    split at hi
    · exact ih i hi
    · rename_i s hs
      split at hi
      · rename_i h4
        rcases List.mem_append.1 hi with h | h
        · exact ih i h
        · have : i = k := by simpa using h
          subst this
          exact ⟨s, hs, h4.2⟩
      · exact ih i hi

theorem tierN_lb : ∀ (t n : Nat), tierN n = t → n < 4 ^ (t + 1)
  | 0, n, h => by
    rcases Nat.lt_or_ge n 4 with h4 | h4
    · simpa using h4
    · rw [tierN_ge h4] at h; omega
  | t + 1, n, h => by
    rcases Nat.lt_or_ge n 4 with h4 | h4
    · rw [tierN_lt h4] at h; omega
    · rw [tierN_ge h4] at h
      have := tierN_lb t (n / 4) (by omega)
      rw [Nat.div_lt_iff_lt_mul (by omega)] at this
      rw [Nat.pow_succ]; exact this
theorem tier_lt16 {n : Int} {t : Nat} (h : tier n = t) (ht : t < 16) : n < 4294967296 := by
  have h1 := tierN_lb t n.toNat h
  have h2 : (4 : Nat) ^ (t + 1) ≤ 4 ^ 16 := Nat.pow_le_pow_right (by omega) (by omega)
  have h3 : (4 : Nat) ^ 16 = 4294967296 := by decide
  omega
theorem tier_ge16 {n : Int} {t : Nat} (h : tier n = t) (ht : 16 ≤ t) : 65536 < n := by
  rcases Int.lt_or_le 65536 n with h1 | h1
  · exact h1
  · have h2 := tierN_pow 15 n.toNat (by have : (4 : Nat) ^ 16 = 4294967296 := by decide
                                        omega)
    unfold tier at h
    omega

/-- What the law's sum says of the places so far. -/
def PickState (p : List Nat × Nat) (t : Nat) (s : Int) : Prop :=
  0 ≤ s ∧ s ≤ 18446744073709551615 ∧ (p.1 ≠ [] → 16 ≤ t → 65536 < p.2) ∧ (t < 16 → s ≤ 4294967296 * (p.1.length : Int) ∧ (s ≤ 65536 → s = p.2) ∧ (p.2 ≤ 65536 → s = p.2))
theorem PickState.start (t : Nat) : PickState ([], 0) t 0 := ⟨by omega, by omega, fun h => absurd rfl h, fun _ => ⟨by simp, fun _ => rfl, fun _ => rfl⟩⟩
theorem PickState.low {p : List Nat × Nat} {t : Nat} {s n : Int} {k : Nat} (h : PickState p t s) (ht : tier n = t) (h0 : n ≤ 0) : PickState (p.1 ++ [k], p.2 + capc n) t s := by
  obtain ⟨h1, h2, h3, h4⟩ := h
  have h16 : t < 16 := by
    rcases Nat.lt_or_ge t 16 with h | h
    · exact h
    · have := tier_ge16 ht h; omega
  obtain ⟨h5, h6, h7⟩ := h4 h16
  refine ⟨h1, h2, fun _ h => by omega, fun _ => ⟨?_, fun hs => ?_, fun hs => ?_⟩⟩
  · simp only [List.length_append, List.length_cons, List.length_nil]; omega
  · have := h6 hs
    simp only [capc]; omega
  · simp only [capc] at hs ⊢
    have := h7 (by omega)
    omega
theorem PickState.add {p : List Nat × Nat} {t : Nat} {s n : Int} {k : Nat} (h : PickState p t s) (ht : tier n = t) (h0 : 0 < n) (h16 : t < 16) (hp : p.1.length ≤ 4) : PickState (p.1 ++ [k], p.2 + capc n) t (s + n) ∧ s + n ≤ 4294967296 * (p.1.length + 1) := by
  obtain ⟨h1, h2, h3, h4⟩ := h
  obtain ⟨h5, h6, h7⟩ := h4 h16
  have hn := tier_lt16 ht h16
  have hb : s + n ≤ 4294967296 * (p.1.length + 1) := by omega
  exact ⟨⟨by omega, by omega, fun _ h => by omega, fun _ => ⟨by simp only [List.length_append, List.length_cons, List.length_nil]; omega, fun hs => by have := h6 (by omega); simp only [capc]; omega, fun hs => by simp only [capc] at hs ⊢; have := h7 (by omega); omega⟩⟩, hb⟩
theorem PickState.wide {p : List Nat × Nat} {t : Nat} {s s' n : Int} {k : Nat} (h : PickState p t s) (ht : tier n = t) (h16 : 16 ≤ t) (hs1 : 0 ≤ s') (hs2 : s' ≤ 18446744073709551615) : PickState (p.1 ++ [k], p.2 + capc n) t s' := by
  have := tier_ge16 ht h16
  refine ⟨hs1, hs2, fun _ _ => ?_, fun h => by omega⟩
  simp only [capc]; omega
theorem PickState.fits {p : List Nat × Nat} {t : Nat} {s : Int} (h : PickState p t s) : (p.1.length = 4 ∧ p.2 ≤ 65536) ↔ (p.1.length = 4 ∧ s ≤ 65536 ∧ t < 16) := by
  obtain ⟨h1, h2, h3, h4⟩ := h
  constructor
  · rintro ⟨h5, h6⟩
    have hne : p.1 ≠ [] := by rintro e; rw [e] at h5; simp at h5
    have h16 : t < 16 := by
      rcases Nat.lt_or_ge t 16 with h | h
      · exact h
      · have := h3 hne h; omega
    have := (h4 h16).2.2 h6
    omega
  · rintro ⟨h5, h6, h7⟩
    have := (h4 h7).2.1 h6
    omega

/-- What the least tier is to the four. -/
def PickOk (l : List Sg) (m : List Nat) (T : Int) : Prop :=
  0 ≤ T ∧ T ≤ 99 ∧ (∀ t : Nat, t < 40 → (t : Int) < T → fitsAt l t = false) ∧ (∀ t : Nat, t < 40 → (t : Int) = T → fitsAt l t = true ∧ (placesTo l t l.length).1 = m)
end Go.Proofs.Ytpfladolkkhfdaa
