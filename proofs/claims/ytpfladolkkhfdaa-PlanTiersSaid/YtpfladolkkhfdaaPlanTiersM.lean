/- PlanTiers: plain facts of tiers, of what is gone. -/
import Derived.Test.YtpfladolkkhfdaaAwake16
namespace Go.Proofs.Ytpfladolkkhfdaa
set_option linter.unusedVariables false
open Go.RowKit

theorem tierN_mono : ∀ (n m : Nat), n ≤ m → tierN n ≤ tierN m := by
  intro n
  induction n using Nat.strongRecOn with
  | _ n ih =>
    intro m h
    by_cases h4 : n < 4
    · rw [tierN_lt h4]; exact Nat.zero_le _
    · rw [tierN_ge (n := n) (by omega), tierN_ge (n := m) (by omega)]
      have := ih (n / 4) (by omega) (m / 4) (by omega)
      omega
theorem tier_mono {n m : Int} (h : n ≤ m) : tier n ≤ tier m := tierN_mono _ _ (by omega)
theorem tier_times {n : Int} (h : 0 < n) : tier (4 * n) = tier n + 1 := by
  rw [tier_ge (by omega)]
  have : 4 * n / 4 = n := by omega
  rw [this]; omega

/-- Is the segment at this place older than the mark? -/
def oldAt (l : List Sg) (mark : Int) (z : Int) : Bool := match l[z.toNat]? with | some s => decide (s.mx.toInt < mark) | none => false
theorem goneTo_filter (l : List Sg) {lo hi : Int} (h : lo ≤ hi) : ∀ k, goneTo l lo k = (goneTo l hi k).filter (oldAt l lo)
  | 0 => rfl
  | k + 1 => by
    rw [goneTo, goneTo, List.filter_append, ← goneTo_filter l h k]
    congr 1
    cases hk : l[k]? with
    | none => rfl
    | some s =>
      by_cases h1 : s.mx.toInt < lo
      · have h2 : s.mx.toInt < hi := by omega
        have h3 : oldAt l lo (k : Int) = true := by simp [oldAt, hk, h1]
        simp [h1, h2, h3]
      · have h3 : oldAt l lo (k : Int) = false := by simp [oldAt, hk, h1]
        by_cases h2 : s.mx.toInt < hi
        · simp [h1, h2, h3]
        · simp [h1, h2]
theorem gone_filter (l : List Sg) {lo hi : Int} (h : lo ≤ hi) : gone l lo = (gone l hi).filter (oldAt l lo) := goneTo_filter l h _
theorem goneTo_least (l : List Sg) : ∀ k, goneTo l (-9223372036854775808) k = []
  | 0 => rfl
  | k + 1 => by
    rw [goneTo, goneTo_least l k]
    cases l[k]? with
    | none => rfl
    | some s =>
      have := (i64_range s.mx).1
      simp; omega
theorem gone_len (l : List Sg) (mark : Int) : (gone l mark).length ≤ l.length := goneTo_len l mark _

/-- How the walk goes along: so many of the first j pass. -/
theorem filter_step_yes {y : List Int} {P : Int → Bool} {j : Nat} (hj : j < y.length) (hp : P y[j] = true) :
    ((y.take (j + 1)).filter P).length = ((y.take j).filter P).length + 1 ∧ ∃ h : ((y.take j).filter P).length < (y.filter P).length, (y.filter P)[((y.take j).filter P).length] = y[j] := by
  refine ⟨by rw [List.take_succ_eq_append_getElem hj, List.filter_append, List.length_append, List.filter_cons_of_pos hp]; rfl, ?_⟩
  have e : y.filter P = (y.take j).filter P ++ y[j] :: (y.drop (j + 1)).filter P := by
    conv => lhs; rw [← List.take_append_drop j y, List.filter_append, List.drop_eq_getElem_cons hj, List.filter_cons_of_pos hp]
  have hl : ((y.take j).filter P).length < (y.filter P).length := by rw [e]; simp
  refine ⟨hl, ?_⟩
  have : (y.filter P)[((y.take j).filter P).length]? = some y[j] := by
    conv => lhs; lhs; rw [e]
    simp
  rw [List.getElem?_eq_getElem hl] at this
  exact Option.some.inj this
theorem filter_step_no {y : List Int} {P : Int → Bool} {j : Nat} (hj : j < y.length) (hp : P y[j] = false) :
    ((y.take (j + 1)).filter P).length = ((y.take j).filter P).length ∧ ∀ k (h : k < (y.filter P).length), (y.filter P)[k] ≠ y[j] := by
  refine ⟨by rw [List.take_succ_eq_append_getElem hj, List.filter_append, List.length_append, List.filter_cons_of_neg (by simp [hp])]; rfl, fun k h e => ?_⟩
  have h1 := (List.mem_filter.1 (List.getElem_mem h)).2
  rw [e, hp] at h1
  cases h1
theorem filter_take_le (y : List Int) (P : Int → Bool) (j : Nat) : ((y.take j).filter P).length ≤ (y.filter P).length := by
  conv => rhs; rw [← List.take_append_drop j y, List.filter_append]
  simp

/-- What the tiers of two numbers are to one another. -/
theorem tier_facts (n m : Int) (a b : Int) (ha : a = tier n) (hb : b = tier m) :
    (n ≤ m → a ≤ b) ∧ (m ≤ n → b ≤ a) ∧ (n < 1 → a = 0) ∧ 0 ≤ a ∧ 0 ≤ b := by
  subst ha hb
  refine ⟨fun h => by have := tier_mono h; omega, fun h => by have := tier_mono h; omega, fun h => by rw [tier_lt (by omega)]; rfl, by omega, by omega⟩

theorem cell_alloc_at {w : World} {cs : Array Value} {t : TypeId} {b j : Nat} (hb : b = w.heap.size) : (w.alloc (.cells cs t)).cell? ⟨b, j, none⟩ = cs[j]? := by
  subst hb
  exact World.cell?_alloc_new ..

end Go.Proofs.Ytpfladolkkhfdaa
