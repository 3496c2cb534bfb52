/- A slice of slices of bytes that came in. -/
import Derived.Test.YtjbachplnkonkaaOpen
import Derived.Test.YtjbachplnkonkaaFSumsLaw
import Derived.Deep.Matrix
namespace Go.Proofs.Ytjbachplnkonkaa
set_option linter.unusedVariables false
open Go.ChangeShapes Go.WideShapes Go.ChangeAt Go.RowKit Go.Deep

theorem bulk_range {H : Type} (n : Nat) (D : Nat → DataW H) (L : Nat → Nat) (h : ∀ r, r < n → L r ≤ Rows.uptoBulk (D r)) (P : Nat → Part) (hP : ∀ r, r < n → (P r).l.length = L r) :
    (allOf ((List.range n).map P)).length ≤ Rows.uptoBulkAll ((List.range n).map D) := by
  have gen : ∀ l : List Nat, (∀ r ∈ l, r < n) → (allOf (l.map P)).length ≤ Rows.uptoBulkAll (l.map D) := by
    intro l
    induction l with
    | nil => intro _; simp [allOf, Rows.uptoBulkAll]
    | cons x r ih =>
      intro hl
      have h1 := ih (fun y hy => hl y (by simp [hy]))
      have hx := hl x (by simp)
      have h2 := h x hx
      have h3 := hP x hx
      have e : allOf ((x :: r).map P) = (P x).l ++ allOf (r.map P) := by simp [allOf]
      rw [e, List.length_append, List.map_cons, Rows.uptoBulkAll]
      omega
  exact gen _ (fun r hr => by simpa using hr)

theorem ints_reads {w : World} {A : Option Addr} {Z : List Int} {L : Nat} (hL : L ≤ Z.length) (hz : ∀ n ∈ Z, (Lit.int .u8 n).wf = true)
    (hA : A = none → Z.length = 0) (hc : ∀ a', A = some a' → ∀ c, c < Z.length → w.cell? (a'.add c) = some (.int .u8 (Z.getD c 0))) :
    Reads w w.heap.size A (((Z.take L).map fun n => UInt8.ofNat n.toNat).map vb) := by
  intro hn
  have hpos : 0 < Z.length := by
    rcases Nat.eq_zero_or_pos Z.length with h0 | h0
    · have : Z = [] := List.eq_nil_of_length_eq_zero h0
      subst this
      simp at hn
    · exact h0
  rcases A with _ | a'
  · have := hA rfl; omega
  · obtain ⟨b, off, rfl, hc'⟩ := ints_at (hc a' rfl) hpos
    refine ⟨b, off, rfl, World.block_lt_of_cell? w _ (hc' 0 hpos), fun j u hu => ?_⟩
    have hj : j < L := by
      have h1 := (List.getElem?_eq_some_iff.1 hu).1
      rw [List.length_map, List.length_map, List.length_take] at h1
      omega
    rw [hc' j (by omega)]
    have hwj := hz (Z[j]'(by omega)) (List.getElem_mem _)
    have hr : 0 ≤ Z[j]'(by omega) ∧ Z[j]'(by omega) ≤ 255 := by simpa [Lit.wf, IntKind.min, IntKind.max, IntKind.signed, IntKind.bits] using hwj
    simp only [List.map_map, List.getElem?_map, List.getElem?_take, hj, if_true, List.getElem?_eq_getElem (show j < Z.length by omega), Option.map_some, Option.some.injEq, Function.comp] at hu
    rw [← hu]
    simp only [List.getD, List.getElem?_eq_getElem (show j < Z.length by omega), Option.getD_some, vb, Option.some.injEq, Value.int.injEq, true_and]
    simp
    omega

section
variable {H : Type} {enc : TypeId × Value → H} {W : World} {base : Nat} {v : Value} {d : DataW H} {p : List MemPlace}

theorem open_bb (hv : Value.okWide Try.prog W .any base 39 v) (h : DataW.Trod enc Try.prog W 0 (fun _ => true) true 39 v d p) :
    ∃ (A : Option Addr) (ps : List Part) (c : Nat), v = .slice A ps.length c ∧ Reads W W.heap.size A (ps.map Part.val) ∧ Parts W W.heap.size ps ∧ ps.length ≤ c ∧ ps.length ≤ Rows.uptoBulk d ∧ (allOf ps).length ≤ Rows.uptoBulk d := by
  obtain ⟨a, len, cap, rfl⟩ := okWide_slice Try.underlying39 hv
  obtain ⟨fuel, hf⟩ := h
  rcases open_int_rows Try.underlying39 Try.underlying24 Try.underlying5 (by kernel_rfl) (by kernel_rfl) hf with ⟨hcs, _⟩ | ⟨x, l, c, AA, L, C, Z, hcs, _, hl, hm, hx, hcell⟩
  · simp [Value.cells] at hcs
    obtain ⟨rfl, rfl, rfl⟩ := hcs
    exact ⟨none, [], 0, rfl, Reads.nil_, fun p hp => by simp at hp, Nat.le_refl _, by simp, by simp [allOf]⟩
  · simp [Value.cells] at hcs
    obtain ⟨rfl, rfl, rfl⟩ := hcs
    simp only [Prod.mk.injEq] at hx
    obtain ⟨rfl, -⟩ := hx
    obtain ⟨P, hP⟩ : ∃ P : Nat → Part, P = fun r => ⟨AA r, ((Z r).take (L r)).map (fun n => UInt8.ofNat n.toNat), C r⟩ := ⟨_, rfl⟩
    have hlenP : ∀ r, r < len → (P r).l.length = L r := by
      intro r hr
      obtain ⟨_, h2, _, h4, _⟩ := hcell r (by omega)
      simp [hP]; omega
    have hlen : ((List.range len).map P).length = len := by simp
    have hbig := bulk_range len (fun r => intRow IntKind.u8 (AA r) (L r) (Z r)) L (fun r hr => by
      obtain ⟨_, h2, _, h4, _, h6, _⟩ := hcell r (by omega)
      unfold intRow
      rcases hA : AA r with _ | a'
      · have := h6 hA; simp only; omega
      · simp only
        have := Bulk.slice_le (H := H) (lits .u8 ((Z r).take (L r))) (lits .u8 ((Z r).drop (L r)))
        have hl' : (lits (H := H) .u8 ((Z r).take (L r))).length = L r := by simp [lits]; omega
        omega) P hlenP
    have hcnt := Bulk.slice_le (H := H) ((List.range len).map fun r => intRow IntKind.u8 (AA r) (L r) (Z r)) ((List.range (cap - len)).map fun j => intRow IntKind.u8 (AA (len + j)) (L (len + j)) (Z (len + j)))
    rw [List.length_map, List.length_range] at hcnt
    refine ⟨_, (List.range len).map P, cap, by rw [hlen], ?_, ?_, by rw [hlen]; exact hl, by rw [hlen]; omega, ?_⟩
    · intro hn
      have hpos : 0 < len := by
        rcases Nat.eq_zero_or_pos len with h0 | h0
        · subst h0; simp at hn
        · exact h0
      have h0 := (hcell 0 (by omega)).1
      obtain ⟨b, off, spot⟩ := x
      have hspot : spot = none := by simpa [Addr.add] using World.cell?_spot h0
      subst hspot
      refine ⟨b, off, rfl, ?_, fun j u hu => ?_⟩
      · have := World.block_lt_of_cell? W _ h0
        rw [Addr.add_lit] at this
        exact this
      · have hj : j < len := by
          have h1 := (List.getElem?_eq_some_iff.1 hu).1
          simpa using h1
        have h1 := (hcell j (by omega)).1
        rw [Addr.add_lit] at h1
        rw [h1, ← hu]
        have h3 := hlenP j hj
        simp [hj, Part.val, h3]
        simp [hP]
    · intro q hq
      obtain ⟨r, hr, rfl⟩ := List.mem_map.1 hq
      have hr' : r < len := by simpa using hr
      obtain ⟨_, h2, h3, h4, h5, h6, h7⟩ := hcell r (by omega)
      refine ⟨?_, ?_⟩
      · rw [hP]
        exact ints_reads (by omega) h5 (fun h => by have := h6 h; omega) (fun a' ha c hc => (h7 a' ha).2 c (by omega))
      · rw [hlenP r hr']
        unfold maxLen at h3; omega
    · refine Nat.le_trans hbig ?_
      simp only [Rows.uptoBulk]
      omega
end
end Go.Proofs.Ytjbachplnkonkaa
