/- PlanEnds: plain facts of a turn of merging, and of its end. -/
import Derived.Test.YtpfladolkkhfdaaPicksM
namespace Go.Proofs.Ytpfladolkkhfdaa
set_option linter.unusedVariables false

def cn (s : Sg) : Nat := s.cnt.toInt.toNat
def Good (l : List Sg) : Prop := ∀ s ∈ l, 1 ≤ s.cnt.toInt
def tot (l : List Sg) : Nat := (l.map cn).sum
/-- Of the first k those that are not merged; the sum of those that are. -/
def restTo (l : List Sg) (m : List Nat) : Nat → List Sg
  | 0 => []
  | k + 1 => restTo l m k ++ (match l[k]? with | some s => if k ∈ m then [] else [s] | none => [])
def selTo (l : List Sg) (m : List Nat) : Nat → Nat
  | 0 => 0
  | k + 1 => selTo l m k + (match l[k]? with | some s => if k ∈ m then cn s else 0 | none => 0)

theorem tot_append (a b : List Sg) : tot (a ++ b) = tot a + tot b := by simp [tot]
theorem tot_one (s : Sg) : tot [s] = cn s := by simp [tot]
theorem cn_le_tot {l : List Sg} {s : Sg} (h : s ∈ l) : cn s ≤ tot l := by
  induction l with
  | nil => cases h
  | cons x r ih =>
    have e : tot (x :: r) = cn x + tot r := by simp [tot]
    rcases List.mem_cons.1 h with h | h
    · subst h; omega
    · have := ih h; omega
theorem restTo_in {l : List Sg} {m : List Nat} {k : Nat} (h : k < l.length) (hm : k ∈ m) : restTo l m (k + 1) = restTo l m k ∧ selTo l m (k + 1) = selTo l m k + cn l[k] := by
  simp [restTo, selTo, h, hm]
theorem restTo_out {l : List Sg} {m : List Nat} {k : Nat} (h : k < l.length) (hm : k ∉ m) : restTo l m (k + 1) = restTo l m k ++ [l[k]] ∧ selTo l m (k + 1) = selTo l m k := by
  simp [restTo, selTo, h, hm]
theorem sel_rest (l : List Sg) (m : List Nat) : ∀ k, k ≤ l.length → selTo l m k + tot (restTo l m k) = tot (l.take k)
  | 0, _ => by simp [selTo, restTo, tot]
  | k + 1, h => by
    have ih := sel_rest l m k (by omega)
    have hk : k < l.length := by omega
    rw [List.take_succ_eq_append_getElem hk, tot_append, tot_one, ← ih]
    by_cases hm : k ∈ m
    · rw [(restTo_in hk hm).1, (restTo_in hk hm).2]; omega
    · rw [(restTo_out hk hm).1, (restTo_out hk hm).2, tot_append, tot_one]; omega
theorem restTo_good {l : List Sg} (hg : Good l) (m : List Nat) : ∀ k, Good (restTo l m k)
  | 0 => by intro s hs; simp [restTo] at hs
  | k + 1 => by
    have ih := restTo_good hg m k
    intro s hs
    rw [restTo] at hs
    rcases List.mem_append.1 hs with h | h
    · exact ih s h
    · split at h
      · rename_i x hx
        split at h
        · cases h
        · have : s = x := by simpa using h
          subst this
          exact hg s (List.mem_of_getElem? hx)
      · cases h
theorem restTo_len (l : List Sg) (m : List Nat) : ∀ k, (restTo l m k).length ≤ k
  | 0 => by simp [restTo]
  | k + 1 => by
    have ih := restTo_len l m k
    simp only [restTo, List.length_append]
    split
    · split <;> simp <;> omega
    · simp; omega
theorem selTo_mono (l : List Sg) (m : List Nat) (k : Nat) : selTo l m k ≤ selTo l m (k + 1) := by simp [selTo]
theorem selTo_pos {l : List Sg} (hg : Good l) {m : List Nat} {i : Nat} (hi : i ∈ m) (hl : i < l.length) : ∀ k, i < k → 1 ≤ selTo l m k
  | 0, h => by omega
  | k + 1, h => by
    by_cases e : i = k
    · subst e
      rw [(restTo_in hl hi).2]
      have := hg l[i] (List.getElem_mem hl)
      simp only [cn]; omega
    · have := selTo_pos hg hi hl k (by omega)
      have := selTo_mono l m k
      omega
theorem mem4 {i0 i1 i2 i3 k : Nat} : k ∈ [i0, i1, i2, i3] ↔ k = i0 ∨ k = i1 ∨ k = i2 ∨ k = i3 := by simp
theorem rest_count (l : List Sg) {i0 i1 i2 i3 : Nat} (h1 : i0 < i1) (h2 : i1 < i2) (h3 : i2 < i3) : ∀ k, k ≤ l.length →
    (restTo l [i0, i1, i2, i3] k).length + min 1 (k - i0) + min 1 (k - i1) + min 1 (k - i2) + min 1 (k - i3) = k
  | 0, _ => by simp [restTo]
  | k + 1, h => by
    have ih := rest_count l h1 h2 h3 k (by omega)
    by_cases hm : k ∈ [i0, i1, i2, i3]
    · rw [(restTo_in (by omega) hm).1]
      rw [mem4] at hm
      omega
    · rw [(restTo_out (by omega) hm).1, List.length_append]
      rw [mem4] at hm
      simp only [List.length_cons, List.length_nil]
      omega

/-! the four lie in rising places -/
theorem placesTo_rise (l : List Sg) (t : Nat) : ∀ k, (placesTo l t k).1.Pairwise (· < ·)
  | 0 => by simp [placesTo]
  | k + 1 => by
    have ih := placesTo_rise l t k
    simp only [placesTo]
    split
    · exact ih
    · split
      · refine List.pairwise_append.2 ⟨ih, by simp, fun a ha b hb => ?_⟩
        have := (placesTo_lt l t k a ha).1
        have : b = k := by simpa using hb
        omega
      · exact ih
theorem merge_four {l : List Sg} (h : merge l ≠ []) : ∃ i0 i1 i2 i3, merge l = [i0, i1, i2, i3] ∧ i0 < i1 ∧ i1 < i2 ∧ i2 < i3 ∧ i3 < l.length := by
  rcases merge_spec l with ⟨hm, _⟩ | ⟨t0, _, hf, hm, _⟩
  · exact absurd hm h
  · have h4 := (fitsAt_iff.1 hf).1
    have hr := placesTo_rise l t0 l.length
    have hlt := placesTo_lt l t0 l.length
    rw [← hm] at h4 hr hlt
    generalize merge l = m at h4 hr hlt
    match m, h4 with
    | [i0, i1, i2, i3], _ =>
      simp at hr
      exact ⟨i0, i1, i2, i3, rfl, by omega, by omega, by omega, (hlt i3 (by simp)).2⟩

/-! the end: no tier has four -/
def ofTier (l : List Sg) (t : Nat) : List Sg := l.filter fun s => decide (tier s.cnt.toInt = t)
theorem placesTo_count (l : List Sg) (t : Nat) : ∀ k, k ≤ l.length → (placesTo l t k).1.length = min 4 (ofTier (l.take k) t).length
  | 0, _ => by simp [placesTo, ofTier]
  | k + 1, h => by
    have ih := placesTo_count l t k (by omega)
    have hk : k < l.length := by omega
    rw [placesTo_succ hk, List.take_succ_eq_append_getElem hk, ofTier, List.filter_append, List.length_append]
    unfold ofTier at ih
    by_cases ht : tier l[k].cnt.toInt = t
    · rw [List.filter_cons_of_pos (by simpa using ht)]
      by_cases h4 : (placesTo l t k).1.length < 4
      · rw [if_pos ⟨h4, ht⟩]
        simp only [List.length_append, List.length_cons, List.length_nil, List.filter_nil]
        omega
      · rw [if_neg (fun h => h4 h.1)]
        simp only [List.length_cons, List.filter_nil, List.length_nil]
        omega
    · rw [List.filter_cons_of_neg (by simpa using ht), if_neg (fun h => ht h.2)]
      simp only [List.filter_nil, List.length_nil]
      omega
theorem placesTo_sum (l : List Sg) (t : Nat) : ∀ k, k ≤ l.length → (placesTo l t k).2 ≤ tot (l.take k)
  | 0, _ => by simp [placesTo]
  | k + 1, h => by
    have ih := placesTo_sum l t k (by omega)
    have hk : k < l.length := by omega
    rw [placesTo_succ hk, List.take_succ_eq_append_getElem hk, tot_append, tot_one]
    split
    · simp only [capc, cn]; omega
    · omega
theorem count_le3 {l : List Sg} (ht : tot l ≤ 65536) {t : Nat} (hf : fitsAt l t = false) : (ofTier l t).length ≤ 3 := by
  have h1 := placesTo_count l t l.length (Nat.le_refl _)
  have h2 := placesTo_sum l t l.length (Nat.le_refl _)
  rw [List.take_length] at h1 h2
  have h3 : ¬ ((placesTo l t l.length).1.length = 4 ∧ (placesTo l t l.length).2 ≤ 65536) := fun h => by rw [fitsAt_iff.2 h] at hf; cases hf
  omega
theorem len_split (l : List Sg) (p : Sg → Bool) : l.length = (l.filter p).length + (l.filter fun a => !p a).length := by
  induction l with
  | nil => rfl
  | cons x r ih =>
    cases h : p x with
    | true => rw [List.filter_cons_of_pos h, List.filter_cons_of_neg (by simp [h])]; simp only [List.length_cons]; omega
    | false => rw [List.filter_cons_of_neg (by simp [h]), List.filter_cons_of_pos (by simp [h])]; simp only [List.length_cons]; omega
theorem tiers_le : ∀ (N : Nat) (l : List Sg), (∀ s ∈ l, tier s.cnt.toInt < N) → (∀ t, (ofTier l t).length ≤ 3) → l.length ≤ 3 * N
  | 0, l, h, _ => by
    cases l with
    | nil => simp
    | cons s r => exact absurd (h s (by simp)) (by omega)
  | N + 1, l, h, h3 => by
    have e := len_split l (fun s => decide (tier s.cnt.toInt = N))
    have h4 := h3 N
    unfold ofTier at h4
    have ih := tiers_le N (l.filter fun s => !decide (tier s.cnt.toInt = N)) (fun s hs => by
      have h5 := List.mem_filter.1 hs
      have := h s h5.1
      have : ¬ tier s.cnt.toInt = N := by simpa using h5.2
      omega) (fun t => by
      have h5 := h3 t
      unfold ofTier at h5 ⊢
      rw [List.filter_filter]
      refine Nat.le_trans ?_ h5
      rw [show (fun a : Sg => decide (tier a.cnt.toInt = t) && !decide (tier a.cnt.toInt = N)) = (fun a => (fun a : Sg => !decide (tier a.cnt.toInt = N)) a && (fun a : Sg => decide (tier a.cnt.toInt = t)) a) from funext fun a => Bool.and_comm _ _]
      rw [← List.filter_filter]
      exact List.length_filter_le _ _)
    omega
theorem tierN_mono' : ∀ (n m : Nat), n ≤ m → tierN n ≤ tierN m := by
  intro n
  induction n using Nat.strongRecOn with
  | _ n ih =>
    intro m h
    by_cases h4 : n < 4
    · rw [tierN_lt h4]; exact Nat.zero_le _
    · rw [tierN_ge (n := n) (by omega), tierN_ge (n := m) (by omega)]
      have := ih (n / 4) (by omega) (m / 4) (by omega)
      omega
theorem ends {l : List Sg} (hg : Good l) (ht : tot l ≤ 65536) (hm : merge l = []) : (l.length : Int) ≤ bound (tot l) := by
  have hno : ∀ t, fitsAt l t = false := by
    rcases merge_spec l with ⟨_, h⟩ | ⟨t0, _, hf, hm', _⟩
    · exact h
    · have h4 := (fitsAt_iff.1 hf).1
      rw [← hm', hm] at h4
      simp at h4
  cases l with
  | nil => simp [tot, bound]
  | cons s r =>
    have h1 : 1 ≤ tot (s :: r) := by
      have := cn_le_tot (l := s :: r) (s := s) (by simp)
      have := hg s (by simp)
      simp only [cn] at *
      omega
    have := tiers_le (tierN (tot (s :: r)) + 1) (s :: r) (fun x hx => by
      have := tierN_mono' _ _ (cn_le_tot hx)
      unfold tier
      unfold cn at this
      omega) (fun t => count_le3 ht (hno t))
    unfold bound tier
    rw [if_neg (by omega)]
    rw [Int.toNat_natCast]
    omega
end Go.Proofs.Ytpfladolkkhfdaa
