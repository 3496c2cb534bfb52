/- A slice of segments that came in. -/
import Derived.Test.YtpfladolkkhfdaaOpen
import Derived.Test.YtpfladolkkhfdaaSegs
import Derived.Deep.Slices
import Derived.ChangeSame
namespace Go.Proofs.Ytpfladolkkhfdaa
set_option linter.unusedVariables false
open Go.ChangeShapes Go.WideShapes Go.ChangeAt Go.RowKit Go.Deep

instance : Inhabited Sg := ⟨⟨0, 0, 0, 0⟩⟩
section
variable {H : Type} {enc : TypeId × Value → H} {W : World} {base : Nat} {v : Value} {d : DataW H} {p : List MemPlace}

theorem vi_of {n : Int} (h : (Lit.int .i64 n).wf = true) : Value.int .i64 n = vi (Int64.ofInt n) := by
  have hr : -9223372036854775808 ≤ n ∧ n ≤ 9223372036854775807 := by simpa [Lit.wf, IntKind.min, IntKind.max, IntKind.signed, IntKind.bits] using h
  rw [vi, Int64.toInt_ofInt_of_le (by omega) (by omega)]

theorem seg_cells {spare : Nat → Bool} {held : Bool} {n : Nat} {cs : List Value} {x : DataW H × List MemPlace} (h : DataW.trod enc Try.prog W base spare held n 44 cs = some x) : ∃ s : Sg, cs = s.cells := by
  have hu := Try.underlying44
  obtain ⟨xs, k, _, _, hl, hxl, hf⟩ := DataW.trod_struct hu h
  have hc : Try.prog.cellsOf 44 = 4 := by kernel_rfl
  have ci : Try.prog.cellsOf 3 = 1 := by kernel_rfl
  have ci64 : Try.prog.cellsOf 2 = 1 := by kernel_rfl
  rw [hc] at hl
  match xs, hxl, cs, hl with
  | [y0, y1, y2, y3], _, [v0, v1, v2, v3], _ =>
    have g0 := hf 0 _ rfl
    have g1 := hf 1 _ rfl
    have g2 := hf 2 _ rfl
    have g3 := hf 3 _ rfl
    simp [ci, ci64] at g0 g1 g2 g3
    obtain ⟨n0, e0, _, w0⟩ := DataW.trod_int Try.underlying3 g0
    obtain ⟨n1, e1, _, w1⟩ := DataW.trod_int Try.underlying3 g1
    obtain ⟨n2, e2, _, w2⟩ := DataW.trod_int Try.underlying2 g2
    obtain ⟨n3, e3, _, w3⟩ := DataW.trod_int Try.underlying2 g3
    simp only [List.cons.injEq, and_true] at e0 e1 e2 e3
    subst e0 e1 e2 e3
    exact ⟨⟨_, _, _, _⟩, by rw [vi_of w0, vi_of w1, vi_of w2, vi_of w3]; rfl⟩

theorem open_seg (hv : Value.okWide Try.prog W .any base 34 v) (h : DataW.Trod enc Try.prog W 0 (fun _ => true) true 34 v d p) :
    ∃ (A : Option Addr) (l : List Sg) (c : Nat), v = .slice A l.length c ∧ Reads W W.heap.size A (segCells l) ∧ l.length ≤ c ∧ c ≤ 9223372036854775807 ∧ Counts d l.length := by
  obtain ⟨a, len, cap, rfl⟩ := okWide_slice Try.underlying34 hv
  obtain ⟨fuel, hf⟩ := h
  have hc : Try.prog.cellsOf 44 = 4 := by kernel_rfl
  rcases open_slice Try.underlying34 hf with ⟨hcs, _⟩ | ⟨a', len', cap', m, n, D, Pl, hcs, _, hl, hm, hmm, hx, hel⟩
  · simp [Value.cells] at hcs
    obtain ⟨rfl, rfl, rfl⟩ := hcs
    exact ⟨none, [], 0, rfl, Reads.nil_, Nat.le_refl _, by omega, .inl rfl⟩
  · simp [Value.cells] at hcs
    obtain ⟨rfl, rfl, rfl⟩ := hcs
    simp only [Prod.mk.injEq] at hx
    obtain ⟨rfl, -⟩ := hx
    simp only [if_true] at hmm
    subst hmm
    rw [hc] at hel
    obtain ⟨S, hS⟩ := choose_lt (α := Sg) (p := fun i s => ∀ f u, s.cells[f]? = some u → W.cell? (a'.add (i * 4 + f)) = some u) (fun i hi => by
      obtain ⟨cs', h1, h2⟩ := hel i hi
      obtain ⟨s, rfl⟩ := seg_cells h2
      obtain ⟨_, _, hcell⟩ := World.cells?_some h1
      refine ⟨s, fun f u hu => ?_⟩
      have hf4 : f < 4 := by have := (List.getElem?_eq_some_iff.1 hu).1; simpa [Sg.cells] using this
      have := hcell f hf4
      rw [add_add] at this
      rw [this]
      exact hu)
    refine ⟨some a', (List.range len).map S, m, by simp, ?_, by simpa using hl, by unfold maxLen at hm; omega, .inr ⟨_, _, rfl, by simp⟩⟩
    have hget : ∀ j u, (segCells ((List.range len).map S))[j]? = some u → W.cell? (a'.add j) = some u := by
      intro j u hu
      have hj : j < 4 * len := by
        have := (List.getElem?_eq_some_iff.1 hu).1
        rw [segCells_length] at this
        simpa using this
      have hk : j / 4 < ((List.range len).map S).length := by simp; omega
      have h3 := segCells_get _ (j / 4) hk (j % 4) (by omega)
      rw [show j / 4 * 4 + j % 4 = j by omega] at h3
      rw [h3] at hu
      have h4 := hS (j / 4) (by omega) (j % 4) u (by simpa using hu)
      rwa [show j / 4 * 4 + j % 4 = j by omega] at h4
    intro hn
    have hpos : 0 < (segCells ((List.range len).map S)).length := List.length_pos_iff.2 hn
    have h0 := hget 0 _ (List.getElem?_eq_getElem hpos)
    obtain ⟨b, off, spot⟩ := a'
    cases spot with
    | some q =>
      have e1 : (⟨b, off, some q⟩ : Addr).add 0 = ⟨b, off, some q⟩ := by simp [Addr.add]
      have e2 : W.cell? (⟨b, off, some q⟩ : Addr) = none := by unfold World.cell?; split <;> simp
      rw [e1, e2] at h0
      cases h0
    | none =>
      refine ⟨b, off, rfl, ?_, fun j u hu => ?_⟩
      · rw [Addr.add_lit] at h0
        exact World.block_lt_of_cell? W _ h0
      · have := hget j u hu
        rwa [Addr.add_lit] at this
end
end Go.Proofs.Ytpfladolkkhfdaa
