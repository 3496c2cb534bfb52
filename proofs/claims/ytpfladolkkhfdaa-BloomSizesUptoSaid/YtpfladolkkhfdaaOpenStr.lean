/- A slice of strings that came in. -/
import Derived.Test.YtpfladolkkhfdaaOpen
import Derived.Test.YtpfladolkkhfdaaBloomMk
import Derived.SliceStrings
namespace Go.Proofs.Ytpfladolkkhfdaa
set_option linter.unusedVariables false
open Go.ChangeShapes Go.WideShapes Go.ChangeAt Go.RowKit

section
variable {H : Type} {enc : TypeId × Value → H} {W : World} {base : Nat} {v : Value} {d : DataW H} {p : List MemPlace}

theorem open_strs (hv : Value.okWide Try.prog W .any base 22 v) (h : DataW.Trod enc Try.prog W 0 (fun _ => true) true 22 v d p) :
    ∃ (A : Option Addr) (ws : List ByteArray) (c : Nat), v = .slice A ws.length c ∧ Reads W W.heap.size A (ws.map vs) ∧ ws.length ≤ c ∧ c ≤ 9223372036854775807 ∧ Counts d ws.length ∧ ∀ s ∈ ws, s.size ≤ 9223372036854775807 := by
  obtain ⟨a, len, cap, rfl⟩ := okWide_slice Try.underlying22 hv
  obtain ⟨fuel, hf⟩ := h
  rcases open_strings Try.underlying22 Try.underlying9 (by kernel_rfl) hf with ⟨hcs, _⟩ | ⟨x, l, c, ss, hcs, _, hl, hm, hz, hx, hcell, hsz⟩
  · simp [Value.cells] at hcs
    obtain ⟨rfl, rfl, rfl⟩ := hcs
    exact ⟨none, [], 0, rfl, Reads.nil_, Nat.le_refl _, by omega, .inl rfl, by simp⟩
  · simp [Value.cells] at hcs
    obtain ⟨rfl, rfl, rfl⟩ := hcs
    simp only [Prod.mk.injEq] at hx
    obtain ⟨rfl, -⟩ := hx
    have hz' : ss.length = cap := by simpa using hz
    have hlen : (ss.take len).length = len := by simp; omega
    refine ⟨_, ss.take len, cap, by rw [hlen], ?_, by omega, by unfold maxLen at hm; omega, .inr ⟨_, _, rfl, ?_⟩, fun s hs => ?_⟩
    · intro hn
      have hpos : 0 < ss.length := by
        rcases Nat.eq_zero_or_pos ss.length with h0 | h0
        · have : ss = [] := List.eq_nil_of_length_eq_zero h0
          subst this
          simp at hn
        · exact h0
      have h0 := hcell 0 hpos
      obtain ⟨b, off, spot⟩ := x
      have hspot : spot = none := by simpa [Addr.add] using World.cell?_spot h0
      subst hspot
      refine ⟨b, off, rfl, ?_, fun j u hu => ?_⟩
      · rw [Addr.add_lit] at h0
        exact World.block_lt_of_cell? W _ h0
      · have hj : j < len := by
          have h1 := (List.getElem?_eq_some_iff.1 hu).1
          rw [List.length_map, hlen] at h1
          exact h1
        have h1 := hcell j (by omega)
        rw [Addr.add_lit] at h1
        rw [h1, ← hu]
        simp [hj, List.getD, List.getElem?_eq_getElem (show j < ss.length by omega)]
    · rw [hlen]; simp [strs]; omega
    · have := hsz s (List.mem_of_mem_take hs)
      unfold maxLen at this; omega
end
end Go.Proofs.Ytpfladolkkhfdaa
