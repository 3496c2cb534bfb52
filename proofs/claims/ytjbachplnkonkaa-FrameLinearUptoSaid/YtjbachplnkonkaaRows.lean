/-
  No cell of these rows narrows 'for every input' (looked for: loops, veiled, ifaces, maps, wideKeys, modest, calm, conditions, laid).
  DERIVED. THE GIVEN ROWS OF THIS SEAT. 11 by the template 'for every input the law returns true; each argument reads behind the call as it read before'; 0 by the template 'total and deterministic' (their statements: YtjbachplnkonkaaTotals.lean).
  GIVEN WITH THE SEED: the statements are not yours to turn. If you find one false, say at which input.
  Laid BY PROGRAM, IN A SANDBOX (cutbox-rows.mjs): the forced cells as the released guide's own fill.sh prints them over the translation 80d8cddecd6eb8d2… (all of the seat's roots in one cut). By AI agents, Wed Nov 11 2026. No macro, syntax, notation, axiom, sorry.
-/
import Derived.Test.YtjbachplnkonkaaChecked
import GoSem.Claim
import GoSem.ClaimJoined
import GoSem.ClaimMapViews
import Derived.JoinedTies
import Derived.KernelRfl
namespace Go.Proofs.Ytjbachplnkonkaa
/- THE CELL 'sum', in the pinned program and in every row, IS THE sha256 OF THE DUMP (.gsa) THAT YtjbachplnkonkaaProg.lean LOADS. Nothing in Lean hashes anything: it is a label: what it is worth is what the hold of that sum in a sandbox is worth. -/
noncomputable def Try.pinned : Pinned := { name := "ytjbachplnkonkaa", sum := "80d8cddecd6eb8d2908ef2063a19875a01efb7f33f96a35228f1a60f1b0208bc", checked := Try.checked }
namespace Rows
def none {H : Type} : Left H := { results := [], args := [] }

/-- 'garnerlaw01.VarintPuts': WHATEVER THE INPUT: true; the input reads as it did. -/
def varintPutsSpec : ChangeSpec := { name := "varintPuts", fn := fun _ => fun
  | [d] => { results := [.lit (.bool true)], args := [d] }
  | _ => none }
def varintPutsRow : OpenClaim := { program := "ytjbachplnkonkaa", sum := "80d8cddecd6eb8d2908ef2063a19875a01efb7f33f96a35228f1a60f1b0208bc", func := "garner/garnerlaw01.VarintPuts", spec := "varintPuts", recurses := true, apart := false }
def VarintPutsSaid : Prop := varintPutsRow.holds Try.pinned (OpenSpec.ofChange varintPutsSpec)

/-- ITS FALSE NEIGHBOUR: 'it returns false'. Refute it at one input. -/
def varintPutsWrong : ChangeSpec := { name := "varintPuts", fn := fun _ => fun
  | [d] => { results := [.lit (.bool false)], args := [d] }
  | _ => none }
def VarintPutsWrongFalsely : Prop := varintPutsRow.holds Try.pinned (OpenSpec.ofChange varintPutsWrong)

/-- 'garnerlaw01.VarintGets': WHATEVER THE INPUT: true; the input reads as it did. -/
def varintGetsSpec : ChangeSpec := { name := "varintGets", fn := fun _ => fun
  | [d1, d2] => { results := [.lit (.bool true)], args := [d1, d2] }
  | _ => none }
def varintGetsRow : OpenClaim := { program := "ytjbachplnkonkaa", sum := "80d8cddecd6eb8d2908ef2063a19875a01efb7f33f96a35228f1a60f1b0208bc", func := "garner/garnerlaw01.VarintGets", spec := "varintGets", apart := false }
def VarintGetsSaid : Prop := varintGetsRow.holds Try.pinned (OpenSpec.ofChange varintGetsSpec)

/-- ITS FALSE NEIGHBOUR: 'it returns false'. Refute it at one input. -/
def varintGetsWrong : ChangeSpec := { name := "varintGets", fn := fun _ => fun
  | [d1, d2] => { results := [.lit (.bool false)], args := [d1, d2] }
  | _ => none }
def VarintGetsWrongFalsely : Prop := varintGetsRow.holds Try.pinned (OpenSpec.ofChange varintGetsWrong)

/-- 'garnerlaw01.VarintBack': WHATEVER THE INPUT: true; the input reads as it did. -/
def varintBackSpec : ChangeSpec := { name := "varintBack", fn := fun _ => fun
  | [d1, d2] => { results := [.lit (.bool true)], args := [d1, d2] }
  | _ => none }
def varintBackRow : OpenClaim := { program := "ytjbachplnkonkaa", sum := "80d8cddecd6eb8d2908ef2063a19875a01efb7f33f96a35228f1a60f1b0208bc", func := "garner/garnerlaw01.VarintBack", spec := "varintBack", apart := false }
def VarintBackSaid : Prop := varintBackRow.holds Try.pinned (OpenSpec.ofChange varintBackSpec)

/-- ITS FALSE NEIGHBOUR: 'it returns false'. Refute it at one input. -/
def varintBackWrong : ChangeSpec := { name := "varintBack", fn := fun _ => fun
  | [d1, d2] => { results := [.lit (.bool false)], args := [d1, d2] }
  | _ => none }
def VarintBackWrongFalsely : Prop := varintBackRow.holds Try.pinned (OpenSpec.ofChange varintBackWrong)

/-- 'garnerlaw01.VarintZigs': WHATEVER THE INPUT: true; the input reads as it did. -/
def varintZigsSpec : ChangeSpec := { name := "varintZigs", fn := fun _ => fun
  | [d1, d2] => { results := [.lit (.bool true)], args := [d1, d2] }
  | _ => none }
def varintZigsRow : OpenClaim := { program := "ytjbachplnkonkaa", sum := "80d8cddecd6eb8d2908ef2063a19875a01efb7f33f96a35228f1a60f1b0208bc", func := "garner/garnerlaw01.VarintZigs", spec := "varintZigs", apart := false }
def VarintZigsSaid : Prop := varintZigsRow.holds Try.pinned (OpenSpec.ofChange varintZigsSpec)

/-- ITS FALSE NEIGHBOUR: 'it returns false'. Refute it at one input. -/
def varintZigsWrong : ChangeSpec := { name := "varintZigs", fn := fun _ => fun
  | [d1, d2] => { results := [.lit (.bool false)], args := [d1, d2] }
  | _ => none }
def VarintZigsWrongFalsely : Prop := varintZigsRow.holds Try.pinned (OpenSpec.ofChange varintZigsWrong)

/-- 'garnerlaw01.VarintSizes': WHATEVER THE INPUT: true; the input reads as it did. -/
def varintSizesSpec : ChangeSpec := { name := "varintSizes", fn := fun _ => fun
  | [d] => { results := [.lit (.bool true)], args := [d] }
  | _ => none }
def varintSizesRow : OpenClaim := { program := "ytjbachplnkonkaa", sum := "80d8cddecd6eb8d2908ef2063a19875a01efb7f33f96a35228f1a60f1b0208bc", func := "garner/garnerlaw01.VarintSizes", spec := "varintSizes", apart := false }
def VarintSizesSaid : Prop := varintSizesRow.holds Try.pinned (OpenSpec.ofChange varintSizesSpec)

/-- ITS FALSE NEIGHBOUR: 'it returns false'. Refute it at one input. -/
def varintSizesWrong : ChangeSpec := { name := "varintSizes", fn := fun _ => fun
  | [d] => { results := [.lit (.bool false)], args := [d] }
  | _ => none }
def VarintSizesWrongFalsely : Prop := varintSizesRow.holds Try.pinned (OpenSpec.ofChange varintSizesWrong)

/-- 'garnerlaw01.VarintKeeps': WHATEVER THE INPUT: true; the input reads as it did. -/
def varintKeepsSpec : ChangeSpec := { name := "varintKeeps", fn := fun _ => fun
  | [d1, d2] => { results := [.lit (.bool true)], args := [d1, d2] }
  | _ => none }
def varintKeepsRow : OpenClaim := { program := "ytjbachplnkonkaa", sum := "80d8cddecd6eb8d2908ef2063a19875a01efb7f33f96a35228f1a60f1b0208bc", func := "garner/garnerlaw01.VarintKeeps", spec := "varintKeeps", apart := false }
def VarintKeepsSaid : Prop := varintKeepsRow.holds Try.pinned (OpenSpec.ofChange varintKeepsSpec)

/-- ITS FALSE NEIGHBOUR: 'it returns false'. Refute it at one input. -/
def varintKeepsWrong : ChangeSpec := { name := "varintKeeps", fn := fun _ => fun
  | [d1, d2] => { results := [.lit (.bool false)], args := [d1, d2] }
  | _ => none }
def VarintKeepsWrongFalsely : Prop := varintKeepsRow.holds Try.pinned (OpenSpec.ofChange varintKeepsWrong)

/-- 'garnerlaw02.FrameSums': WHATEVER THE INPUT: true; the input reads as it did. -/
def frameSumsSpec : ChangeSpec := { name := "frameSums", fn := fun _ => fun
  | [d] => { results := [.lit (.bool true)], args := [d] }
  | _ => none }
def frameSumsRow : OpenClaim := { program := "ytjbachplnkonkaa", sum := "80d8cddecd6eb8d2908ef2063a19875a01efb7f33f96a35228f1a60f1b0208bc", func := "garner/garnerlaw02.FrameSums", spec := "frameSums", apart := false }
def FrameSumsSaid : Prop := frameSumsRow.holds Try.pinned (OpenSpec.ofChange frameSumsSpec)

/-- ITS FALSE NEIGHBOUR: 'it returns false'. Refute it at one input. -/
def frameSumsWrong : ChangeSpec := { name := "frameSums", fn := fun _ => fun
  | [d] => { results := [.lit (.bool false)], args := [d] }
  | _ => none }
def FrameSumsWrongFalsely : Prop := frameSumsRow.holds Try.pinned (OpenSpec.ofChange frameSumsWrong)

/-- 'garnerlaw02.FrameReads': WHATEVER THE INPUT: true; the input reads as it did. -/
def frameReadsSpec : ChangeSpec := { name := "frameReads", fn := fun _ => fun
  | [d1, d2] => { results := [.lit (.bool true)], args := [d1, d2] }
  | _ => none }
def frameReadsRow : OpenClaim := { program := "ytjbachplnkonkaa", sum := "80d8cddecd6eb8d2908ef2063a19875a01efb7f33f96a35228f1a60f1b0208bc", func := "garner/garnerlaw02.FrameReads", spec := "frameReads", recurses := true, apart := false }
def FrameReadsSaid : Prop := frameReadsRow.holds Try.pinned (OpenSpec.ofChange frameReadsSpec)

/-- ITS FALSE NEIGHBOUR: 'it returns false'. Refute it at one input. -/
def frameReadsWrong : ChangeSpec := { name := "frameReads", fn := fun _ => fun
  | [d1, d2] => { results := [.lit (.bool false)], args := [d1, d2] }
  | _ => none }
def FrameReadsWrongFalsely : Prop := frameReadsRow.holds Try.pinned (OpenSpec.ofChange frameReadsWrong)

/-- 'garnerlaw02.FrameWhole': WHATEVER THE INPUT: true; the input reads as it did. -/
def frameWholeSpec : ChangeSpec := { name := "frameWhole", fn := fun _ => fun
  | [d1, d2, d3] => { results := [.lit (.bool true)], args := [d1, d2, d3] }
  | _ => none }
def frameWholeRow : OpenClaim := { program := "ytjbachplnkonkaa", sum := "80d8cddecd6eb8d2908ef2063a19875a01efb7f33f96a35228f1a60f1b0208bc", func := "garner/garnerlaw02.FrameWhole", spec := "frameWhole", apart := false }
def FrameWholeSaid : Prop := frameWholeRow.holds Try.pinned (OpenSpec.ofChange frameWholeSpec)

/-- ITS FALSE NEIGHBOUR: 'it returns false'. Refute it at one input. -/
def frameWholeWrong : ChangeSpec := { name := "frameWhole", fn := fun _ => fun
  | [d1, d2, d3] => { results := [.lit (.bool false)], args := [d1, d2, d3] }
  | _ => none }
def FrameWholeWrongFalsely : Prop := frameWholeRow.holds Try.pinned (OpenSpec.ofChange frameWholeWrong)

/-- 'garnerlaw02.FrameKeeps': WHATEVER THE INPUT: true; the input reads as it did. -/
def frameKeepsSpec : ChangeSpec := { name := "frameKeeps", fn := fun _ => fun
  | [d] => { results := [.lit (.bool true)], args := [d] }
  | _ => none }
def frameKeepsRow : OpenClaim := { program := "ytjbachplnkonkaa", sum := "80d8cddecd6eb8d2908ef2063a19875a01efb7f33f96a35228f1a60f1b0208bc", func := "garner/garnerlaw02.FrameKeeps", spec := "frameKeeps", apart := false }
def FrameKeepsSaid : Prop := frameKeepsRow.holds Try.pinned (OpenSpec.ofChange frameKeepsSpec)

/-- ITS FALSE NEIGHBOUR: 'it returns false'. Refute it at one input. -/
def frameKeepsWrong : ChangeSpec := { name := "frameKeeps", fn := fun _ => fun
  | [d] => { results := [.lit (.bool false)], args := [d] }
  | _ => none }
def FrameKeepsWrongFalsely : Prop := frameKeepsRow.holds Try.pinned (OpenSpec.ofChange frameKeepsWrong)

/-- 'garnerlaw02.FrameLinear': WHATEVER THE INPUT: true; the input reads as it did. -/
def frameLinearSpec : ChangeSpec := { name := "frameLinear", fn := fun _ => fun
  | [d1, d2, d3] => { results := [.lit (.bool true)], args := [d1, d2, d3] }
  | _ => none }
def frameLinearRow : OpenClaim := { program := "ytjbachplnkonkaa", sum := "80d8cddecd6eb8d2908ef2063a19875a01efb7f33f96a35228f1a60f1b0208bc", func := "garner/garnerlaw02.FrameLinear", spec := "frameLinear", apart := false }
def FrameLinearSaid : Prop := frameLinearRow.holds Try.pinned (OpenSpec.ofChange frameLinearSpec)

/-- ITS FALSE NEIGHBOUR: 'it returns false'. Refute it at one input. -/
def frameLinearWrong : ChangeSpec := { name := "frameLinear", fn := fun _ => fun
  | [d1, d2, d3] => { results := [.lit (.bool false)], args := [d1, d2, d3] }
  | _ => none }
def FrameLinearWrongFalsely : Prop := frameLinearRow.holds Try.pinned (OpenSpec.ofChange frameLinearWrong)

/- THE SECOND FORM. 'bulk': how many values and letters a reading holds, each counted each time it is reached (what is shared counts as often as it is met; a slice's spare places count too). A statement '..UptoSaid' is the law's where the arguments, and the package variables that the reading takes, are together of bulk at most 1048576: NARROWER than '..Said'. Prove '..Said' where nothing that the law and all that it calls make is longer than what came in: it says more and counts as full. Else prove '..UptoSaid'. A law counts once. -/
mutual
def uptoBulk {H : Type} : DataW H → Nat
  | .lit (.string bytes) => bytes.length + 1
  | .lit _ => 1
  | .nil => 1
  | .ptr d => uptoBulk d + 1
  | .slice elems spare => uptoBulkAll elems + uptoBulkAll spare + 1
  | .agg parts => uptoBulkAll parts + 1
  | .iface _ d => uptoBulk d + 1
  | .map entries => uptoBulkEntries entries + 1
  | .held _ => 1
def uptoBulkAll {H : Type} : List (DataW H) → Nat
  | [] => 0
  | d :: r => uptoBulk d + uptoBulkAll r
def uptoBulkEntries {H : Type} : List (Lit × DataW H) → Nat
  | [] => 0
  | x :: r => uptoBulkEntry x + uptoBulkEntries r
def uptoBulkEntry {H : Type} : Lit × DataW H → Nat
  | (.string bytes, d) => bytes.length + uptoBulk d + 1
  | (_, d) => uptoBulk d + 1
 end
def uptoSmall : (H : Type) → List (DataW H) → Bool := fun _ ds => decide (uptoBulkAll ds ≤ 1048576)
def OpenSpec.upto (s : _root_.Go.ChangeSpec) : _root_.Go.OpenSpec := { _root_.Go.OpenSpec.ofChange s with cond := some uptoSmall }

/-- 'garnerlaw01.VarintPuts', WHERE WHAT IT READS IS OF BULK AT MOST 1048576: true; the input reads as it did. -/
def varintPutsUptoRow : OpenClaim := { program := "ytjbachplnkonkaa", sum := "80d8cddecd6eb8d2908ef2063a19875a01efb7f33f96a35228f1a60f1b0208bc", func := "garner/garnerlaw01.VarintPuts", spec := "varintPuts", recurses := true, apart := false, narrowed := true }
def VarintPutsUptoSaid : Prop := varintPutsUptoRow.holds Try.pinned (OpenSpec.upto varintPutsSpec)

/-- 'garnerlaw01.VarintGets', WHERE WHAT IT READS IS OF BULK AT MOST 1048576: true; the input reads as it did. -/
def varintGetsUptoRow : OpenClaim := { program := "ytjbachplnkonkaa", sum := "80d8cddecd6eb8d2908ef2063a19875a01efb7f33f96a35228f1a60f1b0208bc", func := "garner/garnerlaw01.VarintGets", spec := "varintGets", apart := false, narrowed := true }
def VarintGetsUptoSaid : Prop := varintGetsUptoRow.holds Try.pinned (OpenSpec.upto varintGetsSpec)

/-- 'garnerlaw01.VarintBack', WHERE WHAT IT READS IS OF BULK AT MOST 1048576: true; the input reads as it did. -/
def varintBackUptoRow : OpenClaim := { program := "ytjbachplnkonkaa", sum := "80d8cddecd6eb8d2908ef2063a19875a01efb7f33f96a35228f1a60f1b0208bc", func := "garner/garnerlaw01.VarintBack", spec := "varintBack", apart := false, narrowed := true }
def VarintBackUptoSaid : Prop := varintBackUptoRow.holds Try.pinned (OpenSpec.upto varintBackSpec)

/-- 'garnerlaw01.VarintZigs', WHERE WHAT IT READS IS OF BULK AT MOST 1048576: true; the input reads as it did. -/
def varintZigsUptoRow : OpenClaim := { program := "ytjbachplnkonkaa", sum := "80d8cddecd6eb8d2908ef2063a19875a01efb7f33f96a35228f1a60f1b0208bc", func := "garner/garnerlaw01.VarintZigs", spec := "varintZigs", apart := false, narrowed := true }
def VarintZigsUptoSaid : Prop := varintZigsUptoRow.holds Try.pinned (OpenSpec.upto varintZigsSpec)

/-- 'garnerlaw01.VarintSizes', WHERE WHAT IT READS IS OF BULK AT MOST 1048576: true; the input reads as it did. -/
def varintSizesUptoRow : OpenClaim := { program := "ytjbachplnkonkaa", sum := "80d8cddecd6eb8d2908ef2063a19875a01efb7f33f96a35228f1a60f1b0208bc", func := "garner/garnerlaw01.VarintSizes", spec := "varintSizes", apart := false, narrowed := true }
def VarintSizesUptoSaid : Prop := varintSizesUptoRow.holds Try.pinned (OpenSpec.upto varintSizesSpec)

/-- 'garnerlaw01.VarintKeeps', WHERE WHAT IT READS IS OF BULK AT MOST 1048576: true; the input reads as it did. -/
def varintKeepsUptoRow : OpenClaim := { program := "ytjbachplnkonkaa", sum := "80d8cddecd6eb8d2908ef2063a19875a01efb7f33f96a35228f1a60f1b0208bc", func := "garner/garnerlaw01.VarintKeeps", spec := "varintKeeps", apart := false, narrowed := true }
def VarintKeepsUptoSaid : Prop := varintKeepsUptoRow.holds Try.pinned (OpenSpec.upto varintKeepsSpec)

/-- 'garnerlaw02.FrameSums', WHERE WHAT IT READS IS OF BULK AT MOST 1048576: true; the input reads as it did. -/
def frameSumsUptoRow : OpenClaim := { program := "ytjbachplnkonkaa", sum := "80d8cddecd6eb8d2908ef2063a19875a01efb7f33f96a35228f1a60f1b0208bc", func := "garner/garnerlaw02.FrameSums", spec := "frameSums", apart := false, narrowed := true }
def FrameSumsUptoSaid : Prop := frameSumsUptoRow.holds Try.pinned (OpenSpec.upto frameSumsSpec)

/-- 'garnerlaw02.FrameReads', WHERE WHAT IT READS IS OF BULK AT MOST 1048576: true; the input reads as it did. -/
def frameReadsUptoRow : OpenClaim := { program := "ytjbachplnkonkaa", sum := "80d8cddecd6eb8d2908ef2063a19875a01efb7f33f96a35228f1a60f1b0208bc", func := "garner/garnerlaw02.FrameReads", spec := "frameReads", recurses := true, apart := false, narrowed := true }
def FrameReadsUptoSaid : Prop := frameReadsUptoRow.holds Try.pinned (OpenSpec.upto frameReadsSpec)

/-- 'garnerlaw02.FrameWhole', WHERE WHAT IT READS IS OF BULK AT MOST 1048576: true; the input reads as it did. -/
def frameWholeUptoRow : OpenClaim := { program := "ytjbachplnkonkaa", sum := "80d8cddecd6eb8d2908ef2063a19875a01efb7f33f96a35228f1a60f1b0208bc", func := "garner/garnerlaw02.FrameWhole", spec := "frameWhole", apart := false, narrowed := true }
def FrameWholeUptoSaid : Prop := frameWholeUptoRow.holds Try.pinned (OpenSpec.upto frameWholeSpec)

/-- 'garnerlaw02.FrameKeeps', WHERE WHAT IT READS IS OF BULK AT MOST 1048576: true; the input reads as it did. -/
def frameKeepsUptoRow : OpenClaim := { program := "ytjbachplnkonkaa", sum := "80d8cddecd6eb8d2908ef2063a19875a01efb7f33f96a35228f1a60f1b0208bc", func := "garner/garnerlaw02.FrameKeeps", spec := "frameKeeps", apart := false, narrowed := true }
def FrameKeepsUptoSaid : Prop := frameKeepsUptoRow.holds Try.pinned (OpenSpec.upto frameKeepsSpec)

/-- 'garnerlaw02.FrameLinear', WHERE WHAT IT READS IS OF BULK AT MOST 1048576: true; the input reads as it did. -/
def frameLinearUptoRow : OpenClaim := { program := "ytjbachplnkonkaa", sum := "80d8cddecd6eb8d2908ef2063a19875a01efb7f33f96a35228f1a60f1b0208bc", func := "garner/garnerlaw02.FrameLinear", spec := "frameLinear", apart := false, narrowed := true }
def FrameLinearUptoSaid : Prop := frameLinearUptoRow.holds Try.pinned (OpenSpec.upto frameLinearSpec)

end Rows
end Go.Proofs.Ytjbachplnkonkaa
