/- Plain law of merging: which four. -/
import Derived.Test.YtpfladolkkhfdaaSegs
namespace Go.Proofs.Ytpfladolkkhfdaa
set_option linter.unusedVariables false

/-- A count as it is summed: at least 0, at most 65537. -/
def capc (n : Int) : Nat := min n.toNat 65537
/-- The first four of tier t among the first k, and the sum of their counts. -/
def placesTo (l : List Sg) (t : Nat) : Nat → List Nat × Nat
  | 0 => ([], 0)
  | k + 1 => match l[k]? with
    | none => placesTo l t k
    | some s => if (placesTo l t k).1.length < 4 ∧ tier s.cnt.toInt = t then ((placesTo l t k).1 ++ [k], (placesTo l t k).2 + capc s.cnt.toInt) else placesTo l t k
def fitsAt (l : List Sg) (t : Nat) : Bool := decide ((placesTo l t l.length).1.length = 4 ∧ (placesTo l t l.length).2 ≤ 65536)
/-- From tier t on, so many tiers: the first that fits. -/
def mergeFrom (l : List Sg) : Nat → Nat → List Nat
  | _, 0 => []
  | t, n + 1 => if fitsAt l t then (placesTo l t l.length).1 else mergeFrom l (t + 1) n
def merge (l : List Sg) : List Nat := mergeFrom l 0 32

theorem placesTo_succ {l : List Sg} {t k : Nat} (h : k < l.length) :
    placesTo l t (k + 1) = if (placesTo l t k).1.length < 4 ∧ tier l[k].cnt.toInt = t then ((placesTo l t k).1 ++ [k], (placesTo l t k).2 + capc l[k].cnt.toInt) else placesTo l t k := by
  simp [placesTo, h]
theorem placesTo_le (l : List Sg) (t : Nat) : ∀ k, (placesTo l t k).1.length ≤ 4
  | 0 => by simp [placesTo]
  | k + 1 => by
    have := placesTo_le l t k
    simp only [placesTo]
    split
    · exact this
    · split
      · simp only [List.length_append, List.length_cons, List.length_nil]; omega
      · exact this
theorem placesTo_lt (l : List Sg) (t : Nat) : ∀ k, ∀ i ∈ (placesTo l t k).1, i < k ∧ i < l.length
  | 0 => by simp [placesTo]
  | k + 1 => by
    intro i hi
    have ih := placesTo_lt l t k
    simp only [placesTo] at hi
    split at hi
    · have := ih i hi; omega
    · rename_i s hs
      split at hi
      · rcases List.mem_append.1 hi with h | h
        · have := ih i h; omega
        · have hk := (List.getElem?_eq_some_iff.1 hs).1
          have : i = k := by simpa using h
          omega
      · have := ih i hi; omega
theorem placesTo_stop (l : List Sg) (t k : Nat) (h : (placesTo l t k).1.length = 4) : ∀ j, placesTo l t (k + j) = placesTo l t k
  | 0 => rfl
  | j + 1 => by
    have ih := placesTo_stop l t k h j
    rw [← Nat.add_assoc]
    simp only [placesTo]
    split
    · exact ih
    · rw [ih, if_neg (by omega)]
theorem placesTo_none (l : List Sg) (t : Nat) (ht : 32 ≤ t) : ∀ k, (placesTo l t k).1 = []
  | 0 => rfl
  | k + 1 => by
    have ih := placesTo_none l t ht k
    simp only [placesTo]
    split
    · exact ih
    · rename_i s hs
      have := tier_le s.cnt.toInt (i64_range s.cnt).2
      rw [if_neg (by omega)]
      exact ih
theorem fitsAt_none (l : List Sg) (t : Nat) (ht : 32 ≤ t) : fitsAt l t = false := by
  unfold fitsAt
  rw [placesTo_none l t ht]
  simp
theorem mergeFrom_none (l : List Sg) : ∀ (n t : Nat), 32 ≤ t → mergeFrom l t n = []
  | 0, _, _ => rfl
  | n + 1, t, h => by rw [mergeFrom, fitsAt_none l t h]; exact mergeFrom_none l n (t + 1) (by omega)
theorem mergeFrom_more (l : List Sg) : ∀ (n t j : Nat), t + n = 32 → mergeFrom l t (n + j) = mergeFrom l t n
  | 0, t, j, h => by rw [Nat.zero_add, mergeFrom_none l j t (by omega)]; rfl
  | n + 1, t, j, h => by
    rw [show n + 1 + j = (n + j) + 1 by omega, mergeFrom, mergeFrom, mergeFrom_more l n (t + 1) j (by omega)]
theorem merge_40 (l : List Sg) : mergeFrom l 0 40 = merge l := mergeFrom_more l 32 0 8 rfl

/-! the reference's own state: all fit so far, the sum of those above nought -/
/-- what the reference's 'fits' and 'sum' say -/
def RefState (p : List Nat × Nat) (fits : Bool) (sum : Int) : Prop :=
  0 ≤ sum ∧ sum ≤ 65536 * p.1.length ∧ (fits = true → sum = p.2) ∧ (fits = false → 65536 < p.2)
theorem RefState.start : RefState ([], 0) true 0 := ⟨by omega, by simp, fun _ => rfl, (fun h => by cases h)⟩
theorem RefState.yes {p : List Nat × Nat} {sum : Int} {k : Nat} {n : Int} (h : RefState p true sum) (hn : n ≤ 65536) (h0 : 0 < n) : RefState (p.1 ++ [k], p.2 + capc n) true (sum + n) := by
  obtain ⟨h1, h2, h3, h4⟩ := h
  have h5 := h3 rfl
  refine ⟨by omega, ?_, fun _ => ?_, (fun h => by cases h)⟩
  · simp only [List.length_append, List.length_cons, List.length_nil]; omega
  · simp only [capc]; omega
theorem RefState.low {p : List Nat × Nat} {sum : Int} {k : Nat} {n : Int} (h : RefState p true sum) (h0 : n ≤ 0) : RefState (p.1 ++ [k], p.2 + capc n) true sum := by
  obtain ⟨h1, h2, h3, h4⟩ := h
  have h5 := h3 rfl
  refine ⟨by omega, ?_, fun _ => ?_, (fun h => by cases h)⟩
  · simp only [List.length_append, List.length_cons, List.length_nil]; omega
  · simp only [capc]; omega
theorem RefState.high {p : List Nat × Nat} {sum : Int} {k : Nat} {n : Int} (h : RefState p true sum) (h0 : 65536 < n) : RefState (p.1 ++ [k], p.2 + capc n) false sum := by
  obtain ⟨h1, h2, h3, h4⟩ := h
  refine ⟨by omega, ?_, (fun h => by cases h), fun _ => ?_⟩
  · simp only [List.length_append, List.length_cons, List.length_nil]; omega
  · simp only [capc]; omega
theorem RefState.no {p : List Nat × Nat} {sum : Int} {k : Nat} {n : Int} (h : RefState p false sum) : RefState (p.1 ++ [k], p.2 + capc n) false sum := by
  obtain ⟨h1, h2, h3, h4⟩ := h
  have h5 := h4 rfl
  refine ⟨by omega, ?_, (fun h => by cases h), fun _ => ?_⟩
  · simp only [List.length_append, List.length_cons, List.length_nil]; omega
  · simp only [capc]; omega
theorem RefState.test {p : List Nat × Nat} {fits : Bool} {sum : Int} (h : RefState p fits sum) : (fits = true ∧ sum ≤ 65536) ↔ p.2 ≤ 65536 := by
  obtain ⟨h1, h2, h3, h4⟩ := h
  constructor
  · rintro ⟨hf, hs⟩
    have := h3 hf; omega
  · intro hp
    cases fits with
    | true => have := h3 rfl; exact ⟨rfl, by omega⟩
    | false => have := h4 rfl; omega

/-- The program's own sum: never above 65537. -/
theorem cap_step (a : Nat) (n : Int) : min (min (a : Int) 65537 + min (max n 0) 65537) 65537 = min (((a + capc n : Nat)) : Int) 65537 := by
  unfold capc
  omega
end Go.Proofs.Ytpfladolkkhfdaa
