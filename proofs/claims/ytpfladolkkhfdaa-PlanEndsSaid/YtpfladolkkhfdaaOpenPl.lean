/- Two ints as a struct, two int64 as an array, a slice of uint16 that came in. -/
import Derived.Test.YtpfladolkkhfdaaOpen
import Derived.Test.YtpfladolkkhfdaaSegs
import Derived.ChangeSame
namespace Go.Proofs.Ytpfladolkkhfdaa
set_option linter.unusedVariables false
open Go.ChangeShapes Go.WideShapes Go.ChangeAt Go.RowKit

section
variable {H : Type} {enc : TypeId × Value → H} {W : World} {base : Nat} {v : Value} {d : DataW H} {p : List MemPlace}

theorem vi_of' {n : Int} (h : (Lit.int .i64 n).wf = true) : ∃ x : Int64, Value.int .i64 n = vi x := by
  have hr : -9223372036854775808 ≤ n ∧ n ≤ 9223372036854775807 := by simpa [Lit.wf, IntKind.min, IntKind.max, IntKind.signed, IntKind.bits] using h
  exact ⟨Int64.ofInt n, by rw [vi, Int64.toInt_ofInt_of_le (by omega) (by omega)]⟩

theorem open_nums (hv : Value.okWide Try.prog W .any base 47 v) (h : DataW.Trod enc Try.prog W 0 (fun _ => true) true 47 v d p) :
    ∃ (x y : Int64), v = .agg #[vi x, vi y] := by
  obtain ⟨cs, rfl, hcs⟩ := okWide_struct Try.underlying47 hv
  have hc : Try.prog.cellsOf 47 = 2 := by kernel_rfl
  have ci : Try.prog.cellsOf 3 = 1 := by kernel_rfl
  obtain ⟨fuel, hf⟩ := h
  obtain ⟨y0, y1, n, -, hl, g0, g1⟩ := trod_struct2 Try.underlying47 hf
  obtain ⟨cs⟩ := cs
  rw [hc] at hcs
  match cs, hcs with
  | [v0, v1], _ =>
    simp [Value.cells, ci] at g0 g1
    obtain ⟨n0, e0, _, w0⟩ := DataW.trod_int Try.underlying3 g0
    obtain ⟨n1, e1, _, w1⟩ := DataW.trod_int Try.underlying3 g1
    simp only [List.cons.injEq, and_true] at e0 e1
    subst e0 e1
    obtain ⟨x, hx⟩ := vi_of' w0
    obtain ⟨y, hy⟩ := vi_of' w1
    exact ⟨x, y, by rw [hx, hy]⟩

theorem okWide_arr {P : Program} {w : World} {r : Reach} {t e : TypeId} {n : Nat} {v : Value} (ht : P.underlying t = some (.array n e)) {base : Nat} (h : Value.okWide P w r base t v) : ∃ cs, v = .agg cs ∧ cs.size = P.cellsOf t := by
  simp only [Value.okWide, ht] at h
  obtain ⟨cs, h1, h2, _⟩ := h
  exact ⟨cs, h1, h2⟩

theorem open_marks (hv : Value.okWide Try.prog W .any base 48 v) (h : DataW.Trod enc Try.prog W 0 (fun _ => true) true 48 v d p) :
    ∃ (x y : Int64), v = .agg #[vi x, vi y] := by
  obtain ⟨cs, rfl, hcs⟩ := okWide_arr Try.underlying48 hv
  have hc : Try.prog.cellsOf 48 = 2 := by kernel_rfl
  have ci : Try.prog.cellsOf 2 = 1 := by kernel_rfl
  obtain ⟨fuel, hf⟩ := h
  obtain ⟨xs, n, _, -, hl, hxl, g⟩ := DataW.trod_array Try.underlying48 hf
  obtain ⟨cs⟩ := cs
  rw [hc] at hcs
  match xs, hxl, cs, hcs with
  | [y0, y1], _, [v0, v1], _ =>
    have g0 := g 0 (by omega)
    have g1 := g 1 (by omega)
    simp [Value.cells, ci] at g0 g1
    obtain ⟨n0, e0, _, w0⟩ := DataW.trod_int Try.underlying2 g0
    obtain ⟨n1, e1, _, w1⟩ := DataW.trod_int Try.underlying2 g1
    simp only [List.cons.injEq, and_true] at e0 e1
    subst e0 e1
    obtain ⟨x, hx⟩ := vi_of' w0
    obtain ⟨y, hy⟩ := vi_of' w1
    exact ⟨x, y, by rw [hx, hy]⟩

/-- A number of 16 bits. -/
abbrev v16 (x : UInt16) : Value := .int .u16 (x.toNat : Int)
theorem open_u16 (hv : Value.okWide Try.prog W .any base 41 v) (h : DataW.Trod enc Try.prog W 0 (fun _ => true) true 41 v d p) :
    ∃ (A : Option Addr) (l : List UInt16) (c : Nat), v = .slice A l.length c ∧ Reads W W.heap.size A (l.map v16) ∧ l.length ≤ c ∧ c ≤ 9223372036854775807 ∧ Counts d l.length := by
  obtain ⟨a, len, cap, rfl⟩ := okWide_slice Try.underlying41 hv
  obtain ⟨fuel, hf⟩ := h
  rcases open_ints Try.underlying41 Try.underlying42 (by kernel_rfl) hf with ⟨hcs, _⟩ | ⟨x, l, c, zs, hcs, _, hl, hm, hz, hx, hcell, hwz⟩
  · simp [Value.cells] at hcs
    obtain ⟨rfl, rfl, rfl⟩ := hcs
    exact ⟨none, [], 0, rfl, Reads.nil_, Nat.le_refl _, by omega, .inl rfl⟩
  · simp [Value.cells] at hcs
    obtain ⟨rfl, rfl, rfl⟩ := hcs
    simp only [Prod.mk.injEq] at hx
    obtain ⟨rfl, -⟩ := hx
    have hz' : zs.length = cap := by simpa using hz
    have hlen : ((zs.take len).map fun n => UInt16.ofNat n.toNat).length = len := by simp; omega
    refine ⟨_, (zs.take len).map fun n => UInt16.ofNat n.toNat, cap, by rw [hlen], ?_, by omega, by unfold maxLen at hm; omega, .inr ⟨_, _, rfl, ?_⟩⟩
    · intro hn
      have hpos : 0 < zs.length := by
        rcases Nat.eq_zero_or_pos zs.length with h0 | h0
        · have : zs = [] := List.eq_nil_of_length_eq_zero h0
          subst this
          simp at hn
        · exact h0
      obtain ⟨b, off, rfl, hc⟩ := ints_at hcell hpos
      refine ⟨b, off, rfl, ?_, fun j u hu => ?_⟩
      · have := World.block_lt_of_cell? W _ (hc 0 hpos)
        exact this
      · have hj : j < len := by
          have h1 := (List.getElem?_eq_some_iff.1 hu).1
          rw [List.length_map, hlen] at h1
          exact h1
        rw [hc j (by omega)]
        have hwj := hwz (zs[j]'(by omega)) (List.getElem_mem _)
        have hr : 0 ≤ zs[j]'(by omega) ∧ zs[j]'(by omega) ≤ 65535 := by simpa [Lit.wf, IntKind.min, IntKind.max, IntKind.signed, IntKind.bits] using hwj
        simp only [List.map_map, List.getElem?_map, List.getElem?_take, hj, if_true, List.getElem?_eq_getElem (show j < zs.length by omega), Option.map_some, Option.some.injEq, Function.comp] at hu
        rw [← hu]
        simp only [List.getD, List.getElem?_eq_getElem (show j < zs.length by omega), Option.getD_some, v16, Option.some.injEq, Value.int.injEq, true_and]
        simp
        omega
    · rw [hlen]; simp [lits]; omega
end
end Go.Proofs.Ytpfladolkkhfdaa
