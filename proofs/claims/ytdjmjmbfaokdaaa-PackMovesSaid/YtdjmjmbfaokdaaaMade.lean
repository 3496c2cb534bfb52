/- A row of bytes that is made. -/
import Derived.Test.YtdjmjmbfaokdaaaLaws
namespace Go.Proofs.Ytdjmjmbfaokdaaa
set_option linter.unusedVariables false
open Go.RowKit

theorem madeBytes (n : Nat) : (madeCells #[Value.int .u8 0] n).toList = (List.replicate n (0 : UInt8)).map vb := by
  refine List.ext_getElem? fun j => ?_
  simp only [madeCells, List.getElem?_map, List.getElem?_replicate, Array.getElem?_toList, Array.getElem?_map, Array.getElem?_range]
  split <;> simp [Nat.mod_one]
/-- 'make([]byte, n)'. -/
theorem makeBytes {w : World} {ops : Array Oper} {rest : List Oper} {o : Oper} {a : Act} {Q : Exit → Act → World → Prop} (hg : o.guard = none) (l c : Operand) (hop : o.op = Op.makeSlice 22 l c) (B : Nat) (kl kc : IntKind) (L C : Int) (n : Nat)
    (hl : a.eval l = .int kl L) (hc : a.eval c = .int kc C) (hL : L = (n : Int)) (hC : C = (n : Int)) (hn : n ≤ 140737488355328) (hB : B ≤ w.heap.size)
    (hK : ∀ w', w'.ownsRow B 5 1 (.slice (some ⟨w.heap.size, 0, none⟩) n n) n ((List.replicate n (0 : UInt8)).map vb) → w.grownBy w' none → wpList Try.prog ops Q rest (a.put o.dst (.slice (some ⟨w.heap.size, 0, none⟩) n n)) w') :
    wpList Try.prog ops Q (o :: rest) a w := by
  obtain ⟨i, hi, h1, h2, h3⟩ := info_parts infoByte
  refine wpList_make_full w hg l c 22 hop B 5 i _ 1 Try.underlying22 hi h1 h2 kl kc L C n hl hc hL hC (by rw [h3]; omega) (by unfold maxLen; omega) hB fun w' h4 h5 => hK w' ?_ h5
  rw [← madeBytes]
  rw [Nat.mul_one] at h4
  exact h4
end Go.Proofs.Ytdjmjmbfaokdaaa
