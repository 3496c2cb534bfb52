/- From what came in as data to this claim's own words. -/
import Derived.Test.YtjbachplnkonkaaWords
import Derived.ProofKit
import Derived.OpenShut
import Derived.ShutString
import Derived.ChangeOld
import Derived.JoinedCond
import Derived.SizedLaws
import Derived.Deep.CondSized
namespace Go.Proofs.Ytjbachplnkonkaa
set_option linter.unusedVariables false
open Go.ChangeShapes Go.WideShapes Go.ChangeAt Go.RowKit

namespace Bulk
theorem one_le {H : Type} (d : DataW H) : 1 ≤ Rows.uptoBulk d := by
  cases d with
  | lit l => cases l <;> simp [Rows.uptoBulk]
  | nil => simp [Rows.uptoBulk]
  | ptr d => simp [Rows.uptoBulk]
  | slice elems spare => simp [Rows.uptoBulk]
  | agg parts => simp [Rows.uptoBulk]
  | iface t d => simp [Rows.uptoBulk]
  | map entries => simp [Rows.uptoBulk]
  | held h => simp [Rows.uptoBulk]
theorem length_le {H : Type} (l : List (DataW H)) : l.length ≤ Rows.uptoBulkAll l := by
  induction l with
  | nil => simp [Rows.uptoBulkAll]
  | cons x r ih => have := one_le x; simp only [Rows.uptoBulkAll, List.length_cons]; omega
theorem part_le {H : Type} {d : DataW H} {l : List (DataW H)} (h : d ∈ l) : Rows.uptoBulk d ≤ Rows.uptoBulkAll l := by
  induction l with
  | nil => cases h
  | cons x r ih =>
    simp only [Rows.uptoBulkAll]
    cases List.mem_cons.1 h with
    | inl e => subst e; omega
    | inr e => have := ih e; omega
theorem slice_le {H : Type} (elems spare : List (DataW H)) : elems.length + 1 ≤ Rows.uptoBulk (.slice elems spare) := by
  have h1 := length_le elems
  simp only [Rows.uptoBulk]
  omega
theorem bound {H : Type} {l : List (DataW H)} (hk : Rows.uptoSmall H l = true) : Rows.uptoBulkAll l ≤ 1048576 := of_decide_eq_true hk
end Bulk

/-- What the datum of a slice of so many elements is. -/
def Counts {H : Type} (d : DataW H) (n : Nat) : Prop := n = 0 ∨ ∃ elems spare, d = .slice elems spare ∧ elems.length = n

theorem Counts.upto {H : Type} {d : DataW H} {n : Nat} (h : Counts d n) : n ≤ Rows.uptoBulk d := by
  rcases h with rfl | ⟨e, s, rfl, rfl⟩
  · exact Nat.zero_le _
  · have := Bulk.slice_le e s; omega
theorem Counts.upto_all {H : Type} {d : DataW H} {n : Nat} {l : List (DataW H)} (h : Counts d n) (hd : d ∈ l) (hk : Rows.uptoSmall H l = true) : n ≤ 1048576 := by
  have h1 := h.upto
  have h2 := Bulk.part_le hd
  have h3 := Bulk.bound hk
  omega
theorem Counts.reach {H : Type} {P : Program} {ts : List TypeId} {ds : List (DataW H)} {j : Nat} {d : DataW H} {n : Nat} {t e : TypeId} {bytes : Nat} (h : Counts d n) (hz : (DataW.weightsEach P ts ds).all (· ≤ reachBytes) = true)
    (ht : ts[j]? = some t) (hd : ds[j]? = some d) (hu : P.underlying t = some (.slice e)) (hb : P.bytesOf e = bytes) : n * bytes ≤ 140737488351232 := by
  rcases h with rfl | ⟨el, sp, rfl, rfl⟩
  · omega
  · have h1 := sized_slice hz ht hd hu
    rw [hb] at h1
    have h2 : reachBytes = 140737488351232 := rfl
    have h3 : el.length * bytes ≤ (el.length + sp.length) * bytes := Nat.mul_le_mul_right _ (by omega)
    omega

section
variable {H : Type} {enc : TypeId × Value → H} {W : World} {base : Nat} {v : Value} {d : DataW H} {p : List MemPlace}

theorem open_b (hv : Value.okWide Try.prog W .any base 24 v) (h : DataW.Trod enc Try.prog W 0 (fun _ => true) true 24 v d p) :
    ∃ (A : Option Addr) (l : List UInt8) (c : Nat), v = .slice A l.length c ∧ Reads W W.heap.size A (l.map vb) ∧ l.length ≤ c ∧ c ≤ 9223372036854775807 ∧ Counts d l.length := by
  obtain ⟨a, len, cap, rfl⟩ := okWide_slice Try.underlying24 hv
  obtain ⟨fuel, hf⟩ := h
  rcases open_ints Try.underlying24 Try.underlying5 (by kernel_rfl) hf with ⟨hcs, _⟩ | ⟨x, l, c, zs, hcs, _, hl, hm, hz, hx, hcell, hwz⟩
  · simp [Value.cells] at hcs
    obtain ⟨rfl, rfl, rfl⟩ := hcs
    exact ⟨none, [], 0, rfl, Reads.nil_, Nat.le_refl _, by omega, .inl rfl⟩
  · simp [Value.cells] at hcs
    obtain ⟨rfl, rfl, rfl⟩ := hcs
    simp only [Prod.mk.injEq] at hx
    obtain ⟨rfl, -⟩ := hx
    have hz' : zs.length = cap := by simpa using hz
    have hlen : ((zs.take len).map fun n => UInt8.ofNat n.toNat).length = len := by simp; omega
    refine ⟨_, (zs.take len).map fun n => UInt8.ofNat n.toNat, cap, by rw [hlen], ?_, by omega, by unfold maxLen at hm; omega, .inr ⟨_, _, rfl, ?_⟩⟩
    · intro hn
      have hpos : 0 < zs.length := by
        rcases Nat.eq_zero_or_pos zs.length with h0 | h0
        · have : zs = [] := List.eq_nil_of_length_eq_zero h0
          subst this
          simp at hn
        · exact h0
      obtain ⟨b, off, rfl, hc⟩ := ints_at hcell hpos
      refine ⟨b, off, rfl, ?_, fun j u hu => ?_⟩
      · have := World.block_lt_of_cell? W _ (hc 0 hpos)
        exact this
      · have hj : j < len := by
          have h1 := (List.getElem?_eq_some_iff.1 hu).1
          rw [List.length_map, hlen] at h1
          exact h1
        rw [hc j (by omega)]
        have hwj := hwz (zs[j]'(by omega)) (List.getElem_mem _)
        have hr : 0 ≤ zs[j]'(by omega) ∧ zs[j]'(by omega) ≤ 255 := by simpa [Lit.wf, IntKind.min, IntKind.max, IntKind.signed, IntKind.bits] using hwj
        simp only [List.map_map, List.getElem?_map, List.getElem?_take, hj, if_true, List.getElem?_eq_getElem (show j < zs.length by omega), Option.map_some, Option.some.injEq, Function.comp] at hu
        rw [← hu]
        simp only [List.getD, List.getElem?_eq_getElem (show j < zs.length by omega), Option.getD_some, vb, Option.some.injEq, Value.int.injEq, true_and]
        simp
        omega
    · rw [hlen]; simp [lits]; omega

theorem open_q (hv : Value.okWide Try.prog W .any base 22 v) (h : DataW.Trod enc Try.prog W 0 (fun _ => true) true 22 v d p) :
    ∃ (A : Option Addr) (l : List UInt64) (c : Nat), v = .slice A l.length c ∧ Reads W W.heap.size A (l.map vq) ∧ l.length ≤ c ∧ c ≤ 9223372036854775807 ∧ Counts d l.length := by
  obtain ⟨a, len, cap, rfl⟩ := okWide_slice Try.underlying22 hv
  obtain ⟨fuel, hf⟩ := h
  rcases open_ints Try.underlying22 Try.underlying29 (by kernel_rfl) hf with ⟨hcs, _⟩ | ⟨x, l, c, zs, hcs, _, hl, hm, hz, hx, hcell, hwz⟩
  · simp [Value.cells] at hcs
    obtain ⟨rfl, rfl, rfl⟩ := hcs
    exact ⟨none, [], 0, rfl, Reads.nil_, Nat.le_refl _, by omega, .inl rfl⟩
  · simp [Value.cells] at hcs
    obtain ⟨rfl, rfl, rfl⟩ := hcs
    simp only [Prod.mk.injEq] at hx
    obtain ⟨rfl, -⟩ := hx
    have hz' : zs.length = cap := by simpa using hz
    have hlen : ((zs.take len).map fun n => UInt64.ofNat n.toNat).length = len := by simp; omega
    refine ⟨_, (zs.take len).map fun n => UInt64.ofNat n.toNat, cap, by rw [hlen], ?_, by omega, by unfold maxLen at hm; omega, .inr ⟨_, _, rfl, ?_⟩⟩
    · intro hn
      have hpos : 0 < zs.length := by
        rcases Nat.eq_zero_or_pos zs.length with h0 | h0
        · have : zs = [] := List.eq_nil_of_length_eq_zero h0
          subst this
          simp at hn
        · exact h0
      obtain ⟨b, off, rfl, hc⟩ := ints_at hcell hpos
      refine ⟨b, off, rfl, ?_, fun j u hu => ?_⟩
      · have := World.block_lt_of_cell? W _ (hc 0 hpos)
        exact this
      · have hj : j < len := by
          have h1 := (List.getElem?_eq_some_iff.1 hu).1
          rw [List.length_map, hlen] at h1
          exact h1
        rw [hc j (by omega)]
        have hwj := hwz (zs[j]'(by omega)) (List.getElem_mem _)
        have hr : 0 ≤ zs[j]'(by omega) ∧ zs[j]'(by omega) ≤ 18446744073709551615 := by simpa [Lit.wf, IntKind.min, IntKind.max, IntKind.signed, IntKind.bits] using hwj
        simp only [List.map_map, List.getElem?_map, List.getElem?_take, hj, if_true, List.getElem?_eq_getElem (show j < zs.length by omega), Option.map_some, Option.some.injEq, Function.comp] at hu
        rw [← hu]
        simp only [List.getD, List.getElem?_eq_getElem (show j < zs.length by omega), Option.getD_some, vq, Option.some.injEq, Value.int.injEq, true_and]
        simp
        omega
    · rw [hlen]; simp [lits]; omega
end

theorem laidOut : laidOutB Try.prog = true := by kernel_rfl
theorem ownKnob_none : ownKnob Try.prog.godebug = none := by kernel_rfl

end Go.Proofs.Ytjbachplnkonkaa
