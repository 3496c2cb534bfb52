/-
  No cell of these rows narrows 'for every input' (looked for: loops, veiled, ifaces, maps, wideKeys, modest, calm, conditions, laid).
  DERIVED. THE GIVEN ROWS OF THIS SEAT. 11 by the template 'for every input the law returns true; each argument reads behind the call as it read before'; 0 by the template 'total and deterministic' (their statements: YtdjmjmbfaokdaaaTotals.lean).
  GIVEN WITH THE SEED: the statements are not yours to turn. If you find one false, say at which input.
  Laid BY PROGRAM, IN A SANDBOX (cutbox-rows.mjs): the forced cells as the released guide's own fill.sh prints them over the translation 843927817babd19e… (all of the seat's roots in one cut). By AI agents, Wed Nov 11 2026. No macro, syntax, notation, axiom, sorry.
-/
import Derived.Test.YtdjmjmbfaokdaaaChecked
import GoSem.Claim
import GoSem.ClaimJoined
import GoSem.ClaimMapViews
import Derived.JoinedTies
import Derived.KernelRfl
namespace Go.Proofs.Ytdjmjmbfaokdaaa
/- THE CELL 'sum', in the pinned program and in every row, IS THE sha256 OF THE DUMP (.gsa) THAT YtdjmjmbfaokdaaaProg.lean LOADS. Nothing in Lean hashes anything: it is a label: what it is worth is what the hold of that sum in a sandbox is worth. -/
noncomputable def Try.pinned : Pinned := { name := "ytdjmjmbfaokdaaa", sum := "843927817babd19ef921edcff1e94d4815183ad52e013647bd1e3ba0a8be687b", checked := Try.checked }
namespace Rows
def none {H : Type} : Left H := { results := [], args := [] }

/-- 'garnerlaw04.LzExpands': WHATEVER THE INPUT: true; the input reads as it did. -/
def lzExpandsSpec : ChangeSpec := { name := "lzExpands", fn := fun _ => fun
  | [d1, d2] => { results := [.lit (.bool true)], args := [d1, d2] }
  | _ => none }
def lzExpandsRow : OpenClaim := { program := "ytdjmjmbfaokdaaa", sum := "843927817babd19ef921edcff1e94d4815183ad52e013647bd1e3ba0a8be687b", func := "garner/garnerlaw04.LzExpands", spec := "lzExpands", plainKeys := false, apart := false }
def LzExpandsSaid : Prop := lzExpandsRow.holds Try.pinned (OpenSpec.ofChange lzExpandsSpec)

/-- ITS FALSE NEIGHBOUR: 'it returns false'. Refute it at one input. -/
def lzExpandsWrong : ChangeSpec := { name := "lzExpands", fn := fun _ => fun
  | [d1, d2] => { results := [.lit (.bool false)], args := [d1, d2] }
  | _ => none }
def LzExpandsWrongFalsely : Prop := lzExpandsRow.holds Try.pinned (OpenSpec.ofChange lzExpandsWrong)

/-- 'garnerlaw04.LzBack': WHATEVER THE INPUT: true; the input reads as it did. -/
def lzBackSpec : ChangeSpec := { name := "lzBack", fn := fun _ => fun
  | [d] => { results := [.lit (.bool true)], args := [d] }
  | _ => none }
def lzBackRow : OpenClaim := { program := "ytdjmjmbfaokdaaa", sum := "843927817babd19ef921edcff1e94d4815183ad52e013647bd1e3ba0a8be687b", func := "garner/garnerlaw04.LzBack", spec := "lzBack", plainKeys := false, apart := false }
def LzBackSaid : Prop := lzBackRow.holds Try.pinned (OpenSpec.ofChange lzBackSpec)

/-- ITS FALSE NEIGHBOUR: 'it returns false'. Refute it at one input. -/
def lzBackWrong : ChangeSpec := { name := "lzBack", fn := fun _ => fun
  | [d] => { results := [.lit (.bool false)], args := [d] }
  | _ => none }
def LzBackWrongFalsely : Prop := lzBackRow.holds Try.pinned (OpenSpec.ofChange lzBackWrong)

/-- 'garnerlaw04.LzRuns': WHATEVER THE INPUT: true; the input reads as it did. -/
def lzRunsSpec : ChangeSpec := { name := "lzRuns", fn := fun _ => fun
  | [d1, d2] => { results := [.lit (.bool true)], args := [d1, d2] }
  | _ => none }
def lzRunsRow : OpenClaim := { program := "ytdjmjmbfaokdaaa", sum := "843927817babd19ef921edcff1e94d4815183ad52e013647bd1e3ba0a8be687b", func := "garner/garnerlaw04.LzRuns", spec := "lzRuns", plainKeys := false, apart := false }
def LzRunsSaid : Prop := lzRunsRow.holds Try.pinned (OpenSpec.ofChange lzRunsSpec)

/-- ITS FALSE NEIGHBOUR: 'it returns false'. Refute it at one input. -/
def lzRunsWrong : ChangeSpec := { name := "lzRuns", fn := fun _ => fun
  | [d1, d2] => { results := [.lit (.bool false)], args := [d1, d2] }
  | _ => none }
def LzRunsWrongFalsely : Prop := lzRunsRow.holds Try.pinned (OpenSpec.ofChange lzRunsWrong)

/-- 'garnerlaw04.LzKeeps': WHATEVER THE INPUT: true; the input reads as it did. -/
def lzKeepsSpec : ChangeSpec := { name := "lzKeeps", fn := fun _ => fun
  | [d] => { results := [.lit (.bool true)], args := [d] }
  | _ => none }
def lzKeepsRow : OpenClaim := { program := "ytdjmjmbfaokdaaa", sum := "843927817babd19ef921edcff1e94d4815183ad52e013647bd1e3ba0a8be687b", func := "garner/garnerlaw04.LzKeeps", spec := "lzKeeps", plainKeys := false, apart := false }
def LzKeepsSaid : Prop := lzKeepsRow.holds Try.pinned (OpenSpec.ofChange lzKeepsSpec)

/-- ITS FALSE NEIGHBOUR: 'it returns false'. Refute it at one input. -/
def lzKeepsWrong : ChangeSpec := { name := "lzKeeps", fn := fun _ => fun
  | [d] => { results := [.lit (.bool false)], args := [d] }
  | _ => none }
def LzKeepsWrongFalsely : Prop := lzKeepsRow.holds Try.pinned (OpenSpec.ofChange lzKeepsWrong)

/-- 'garnerlaw04.LzLays': WHATEVER THE INPUT: true; the input reads as it did. -/
def lzLaysSpec : ChangeSpec := { name := "lzLays", fn := fun _ => fun
  | [d1, d2, d3] => { results := [.lit (.bool true)], args := [d1, d2, d3] }
  | _ => none }
def lzLaysRow : OpenClaim := { program := "ytdjmjmbfaokdaaa", sum := "843927817babd19ef921edcff1e94d4815183ad52e013647bd1e3ba0a8be687b", func := "garner/garnerlaw04.LzLays", spec := "lzLays", plainKeys := false, apart := false }
def LzLaysSaid : Prop := lzLaysRow.holds Try.pinned (OpenSpec.ofChange lzLaysSpec)

/-- ITS FALSE NEIGHBOUR: 'it returns false'. Refute it at one input. -/
def lzLaysWrong : ChangeSpec := { name := "lzLays", fn := fun _ => fun
  | [d1, d2, d3] => { results := [.lit (.bool false)], args := [d1, d2, d3] }
  | _ => none }
def LzLaysWrongFalsely : Prop := lzLaysRow.holds Try.pinned (OpenSpec.ofChange lzLaysWrong)

/-- 'garnerlaw03.PackAll': WHATEVER THE INPUT: true; the input reads as it did. -/
def packAllSpec : ChangeSpec := { name := "packAll", fn := fun _ => fun
  | [d] => { results := [.lit (.bool true)], args := [d] }
  | _ => none }
def packAllRow : OpenClaim := { program := "ytdjmjmbfaokdaaa", sum := "843927817babd19ef921edcff1e94d4815183ad52e013647bd1e3ba0a8be687b", func := "garner/garnerlaw03.PackAll", spec := "packAll", recurses := true, plainKeys := false, apart := false }
def PackAllSaid : Prop := packAllRow.holds Try.pinned (OpenSpec.ofChange packAllSpec)

/-- ITS FALSE NEIGHBOUR: 'it returns false'. Refute it at one input. -/
def packAllWrong : ChangeSpec := { name := "packAll", fn := fun _ => fun
  | [d] => { results := [.lit (.bool false)], args := [d] }
  | _ => none }
def PackAllWrongFalsely : Prop := packAllRow.holds Try.pinned (OpenSpec.ofChange packAllWrong)

/-- 'garnerlaw03.PackReads': WHATEVER THE INPUT: true; the input reads as it did. -/
def packReadsSpec : ChangeSpec := { name := "packReads", fn := fun _ => fun
  | [d1, d2] => { results := [.lit (.bool true)], args := [d1, d2] }
  | _ => none }
def packReadsRow : OpenClaim := { program := "ytdjmjmbfaokdaaa", sum := "843927817babd19ef921edcff1e94d4815183ad52e013647bd1e3ba0a8be687b", func := "garner/garnerlaw03.PackReads", spec := "packReads", plainKeys := false, apart := false }
def PackReadsSaid : Prop := packReadsRow.holds Try.pinned (OpenSpec.ofChange packReadsSpec)

/-- ITS FALSE NEIGHBOUR: 'it returns false'. Refute it at one input. -/
def packReadsWrong : ChangeSpec := { name := "packReads", fn := fun _ => fun
  | [d1, d2] => { results := [.lit (.bool false)], args := [d1, d2] }
  | _ => none }
def PackReadsWrongFalsely : Prop := packReadsRow.holds Try.pinned (OpenSpec.ofChange packReadsWrong)

/-- 'garnerlaw03.PackBack': WHATEVER THE INPUT: true; the input reads as it did. -/
def packBackSpec : ChangeSpec := { name := "packBack", fn := fun _ => fun
  | [d1, d2] => { results := [.lit (.bool true)], args := [d1, d2] }
  | _ => none }
def packBackRow : OpenClaim := { program := "ytdjmjmbfaokdaaa", sum := "843927817babd19ef921edcff1e94d4815183ad52e013647bd1e3ba0a8be687b", func := "garner/garnerlaw03.PackBack", spec := "packBack", plainKeys := false, apart := false }
def PackBackSaid : Prop := packBackRow.holds Try.pinned (OpenSpec.ofChange packBackSpec)

/-- ITS FALSE NEIGHBOUR: 'it returns false'. Refute it at one input. -/
def packBackWrong : ChangeSpec := { name := "packBack", fn := fun _ => fun
  | [d1, d2] => { results := [.lit (.bool false)], args := [d1, d2] }
  | _ => none }
def PackBackWrongFalsely : Prop := packBackRow.holds Try.pinned (OpenSpec.ofChange packBackWrong)

/-- 'garnerlaw03.PackTight': WHATEVER THE INPUT: true; the input reads as it did. -/
def packTightSpec : ChangeSpec := { name := "packTight", fn := fun _ => fun
  | [d1, d2, d3] => { results := [.lit (.bool true)], args := [d1, d2, d3] }
  | _ => none }
def packTightRow : OpenClaim := { program := "ytdjmjmbfaokdaaa", sum := "843927817babd19ef921edcff1e94d4815183ad52e013647bd1e3ba0a8be687b", func := "garner/garnerlaw03.PackTight", spec := "packTight", plainKeys := false, apart := false }
def PackTightSaid : Prop := packTightRow.holds Try.pinned (OpenSpec.ofChange packTightSpec)

/-- ITS FALSE NEIGHBOUR: 'it returns false'. Refute it at one input. -/
def packTightWrong : ChangeSpec := { name := "packTight", fn := fun _ => fun
  | [d1, d2, d3] => { results := [.lit (.bool false)], args := [d1, d2, d3] }
  | _ => none }
def PackTightWrongFalsely : Prop := packTightRow.holds Try.pinned (OpenSpec.ofChange packTightWrong)

/-- 'garnerlaw03.PackKeeps': WHATEVER THE INPUT: true; the input reads as it did. -/
def packKeepsSpec : ChangeSpec := { name := "packKeeps", fn := fun _ => fun
  | [d] => { results := [.lit (.bool true)], args := [d] }
  | _ => none }
def packKeepsRow : OpenClaim := { program := "ytdjmjmbfaokdaaa", sum := "843927817babd19ef921edcff1e94d4815183ad52e013647bd1e3ba0a8be687b", func := "garner/garnerlaw03.PackKeeps", spec := "packKeeps", plainKeys := false, apart := false }
def PackKeepsSaid : Prop := packKeepsRow.holds Try.pinned (OpenSpec.ofChange packKeepsSpec)

/-- ITS FALSE NEIGHBOUR: 'it returns false'. Refute it at one input. -/
def packKeepsWrong : ChangeSpec := { name := "packKeeps", fn := fun _ => fun
  | [d] => { results := [.lit (.bool false)], args := [d] }
  | _ => none }
def PackKeepsWrongFalsely : Prop := packKeepsRow.holds Try.pinned (OpenSpec.ofChange packKeepsWrong)

/-- 'garnerlaw03.PackMoves': WHATEVER THE INPUT: true; the input reads as it did. -/
def packMovesSpec : ChangeSpec := { name := "packMoves", fn := fun _ => fun
  | [d1, d2] => { results := [.lit (.bool true)], args := [d1, d2] }
  | _ => none }
def packMovesRow : OpenClaim := { program := "ytdjmjmbfaokdaaa", sum := "843927817babd19ef921edcff1e94d4815183ad52e013647bd1e3ba0a8be687b", func := "garner/garnerlaw03.PackMoves", spec := "packMoves", plainKeys := false, apart := false }
def PackMovesSaid : Prop := packMovesRow.holds Try.pinned (OpenSpec.ofChange packMovesSpec)

/-- ITS FALSE NEIGHBOUR: 'it returns false'. Refute it at one input. -/
def packMovesWrong : ChangeSpec := { name := "packMoves", fn := fun _ => fun
  | [d1, d2] => { results := [.lit (.bool false)], args := [d1, d2] }
  | _ => none }
def PackMovesWrongFalsely : Prop := packMovesRow.holds Try.pinned (OpenSpec.ofChange packMovesWrong)

/- THE SECOND FORM. 'bulk': how many values and letters a reading holds, each counted each time it is reached (what is shared counts as often as it is met; a slice's spare places count too). A statement '..UptoSaid' is the law's where the arguments, and the package variables that the reading takes, are together of bulk at most 1048576: NARROWER than '..Said'. Prove '..Said' where nothing that the law and all that it calls make is longer than what came in: it says more and counts as full. Else prove '..UptoSaid'. A law counts once. -/
mutual
def uptoBulk {H : Type} : DataW H → Nat
  | .lit (.string bytes) => bytes.length + 1
  | .lit _ => 1
  | .nil => 1
  | .ptr d => uptoBulk d + 1
  | .slice elems spare => uptoBulkAll elems + uptoBulkAll spare + 1
  | .agg parts => uptoBulkAll parts + 1
  | .iface _ d => uptoBulk d + 1
  | .map entries => uptoBulkEntries entries + 1
  | .held _ => 1
def uptoBulkAll {H : Type} : List (DataW H) → Nat
  | [] => 0
  | d :: r => uptoBulk d + uptoBulkAll r
def uptoBulkEntries {H : Type} : List (Lit × DataW H) → Nat
  | [] => 0
  | x :: r => uptoBulkEntry x + uptoBulkEntries r
def uptoBulkEntry {H : Type} : Lit × DataW H → Nat
  | (.string bytes, d) => bytes.length + uptoBulk d + 1
  | (_, d) => uptoBulk d + 1
 end
def uptoSmall : (H : Type) → List (DataW H) → Bool := fun _ ds => decide (uptoBulkAll ds ≤ 1048576)
def OpenSpec.upto (s : _root_.Go.ChangeSpec) : _root_.Go.OpenSpec := { _root_.Go.OpenSpec.ofChange s with cond := some uptoSmall }

/-- 'garnerlaw04.LzExpands', WHERE WHAT IT READS IS OF BULK AT MOST 1048576: true; the input reads as it did. -/
def lzExpandsUptoRow : OpenClaim := { program := "ytdjmjmbfaokdaaa", sum := "843927817babd19ef921edcff1e94d4815183ad52e013647bd1e3ba0a8be687b", func := "garner/garnerlaw04.LzExpands", spec := "lzExpands", plainKeys := false, apart := false, narrowed := true }
def LzExpandsUptoSaid : Prop := lzExpandsUptoRow.holds Try.pinned (OpenSpec.upto lzExpandsSpec)

/-- 'garnerlaw04.LzBack', WHERE WHAT IT READS IS OF BULK AT MOST 1048576: true; the input reads as it did. -/
def lzBackUptoRow : OpenClaim := { program := "ytdjmjmbfaokdaaa", sum := "843927817babd19ef921edcff1e94d4815183ad52e013647bd1e3ba0a8be687b", func := "garner/garnerlaw04.LzBack", spec := "lzBack", plainKeys := false, apart := false, narrowed := true }
def LzBackUptoSaid : Prop := lzBackUptoRow.holds Try.pinned (OpenSpec.upto lzBackSpec)

/-- 'garnerlaw04.LzRuns', WHERE WHAT IT READS IS OF BULK AT MOST 1048576: true; the input reads as it did. -/
def lzRunsUptoRow : OpenClaim := { program := "ytdjmjmbfaokdaaa", sum := "843927817babd19ef921edcff1e94d4815183ad52e013647bd1e3ba0a8be687b", func := "garner/garnerlaw04.LzRuns", spec := "lzRuns", plainKeys := false, apart := false, narrowed := true }
def LzRunsUptoSaid : Prop := lzRunsUptoRow.holds Try.pinned (OpenSpec.upto lzRunsSpec)

/-- 'garnerlaw04.LzKeeps', WHERE WHAT IT READS IS OF BULK AT MOST 1048576: true; the input reads as it did. -/
def lzKeepsUptoRow : OpenClaim := { program := "ytdjmjmbfaokdaaa", sum := "843927817babd19ef921edcff1e94d4815183ad52e013647bd1e3ba0a8be687b", func := "garner/garnerlaw04.LzKeeps", spec := "lzKeeps", plainKeys := false, apart := false, narrowed := true }
def LzKeepsUptoSaid : Prop := lzKeepsUptoRow.holds Try.pinned (OpenSpec.upto lzKeepsSpec)

/-- 'garnerlaw04.LzLays', WHERE WHAT IT READS IS OF BULK AT MOST 1048576: true; the input reads as it did. -/
def lzLaysUptoRow : OpenClaim := { program := "ytdjmjmbfaokdaaa", sum := "843927817babd19ef921edcff1e94d4815183ad52e013647bd1e3ba0a8be687b", func := "garner/garnerlaw04.LzLays", spec := "lzLays", plainKeys := false, apart := false, narrowed := true }
def LzLaysUptoSaid : Prop := lzLaysUptoRow.holds Try.pinned (OpenSpec.upto lzLaysSpec)

/-- 'garnerlaw03.PackAll', WHERE WHAT IT READS IS OF BULK AT MOST 1048576: true; the input reads as it did. -/
def packAllUptoRow : OpenClaim := { program := "ytdjmjmbfaokdaaa", sum := "843927817babd19ef921edcff1e94d4815183ad52e013647bd1e3ba0a8be687b", func := "garner/garnerlaw03.PackAll", spec := "packAll", recurses := true, plainKeys := false, apart := false, narrowed := true }
def PackAllUptoSaid : Prop := packAllUptoRow.holds Try.pinned (OpenSpec.upto packAllSpec)

/-- 'garnerlaw03.PackReads', WHERE WHAT IT READS IS OF BULK AT MOST 1048576: true; the input reads as it did. -/
def packReadsUptoRow : OpenClaim := { program := "ytdjmjmbfaokdaaa", sum := "843927817babd19ef921edcff1e94d4815183ad52e013647bd1e3ba0a8be687b", func := "garner/garnerlaw03.PackReads", spec := "packReads", plainKeys := false, apart := false, narrowed := true }
def PackReadsUptoSaid : Prop := packReadsUptoRow.holds Try.pinned (OpenSpec.upto packReadsSpec)

/-- 'garnerlaw03.PackBack', WHERE WHAT IT READS IS OF BULK AT MOST 1048576: true; the input reads as it did. -/
def packBackUptoRow : OpenClaim := { program := "ytdjmjmbfaokdaaa", sum := "843927817babd19ef921edcff1e94d4815183ad52e013647bd1e3ba0a8be687b", func := "garner/garnerlaw03.PackBack", spec := "packBack", plainKeys := false, apart := false, narrowed := true }
def PackBackUptoSaid : Prop := packBackUptoRow.holds Try.pinned (OpenSpec.upto packBackSpec)

/-- 'garnerlaw03.PackTight', WHERE WHAT IT READS IS OF BULK AT MOST 1048576: true; the input reads as it did. -/
def packTightUptoRow : OpenClaim := { program := "ytdjmjmbfaokdaaa", sum := "843927817babd19ef921edcff1e94d4815183ad52e013647bd1e3ba0a8be687b", func := "garner/garnerlaw03.PackTight", spec := "packTight", plainKeys := false, apart := false, narrowed := true }
def PackTightUptoSaid : Prop := packTightUptoRow.holds Try.pinned (OpenSpec.upto packTightSpec)

/-- 'garnerlaw03.PackKeeps', WHERE WHAT IT READS IS OF BULK AT MOST 1048576: true; the input reads as it did. -/
def packKeepsUptoRow : OpenClaim := { program := "ytdjmjmbfaokdaaa", sum := "843927817babd19ef921edcff1e94d4815183ad52e013647bd1e3ba0a8be687b", func := "garner/garnerlaw03.PackKeeps", spec := "packKeeps", plainKeys := false, apart := false, narrowed := true }
def PackKeepsUptoSaid : Prop := packKeepsUptoRow.holds Try.pinned (OpenSpec.upto packKeepsSpec)

/-- 'garnerlaw03.PackMoves', WHERE WHAT IT READS IS OF BULK AT MOST 1048576: true; the input reads as it did. -/
def packMovesUptoRow : OpenClaim := { program := "ytdjmjmbfaokdaaa", sum := "843927817babd19ef921edcff1e94d4815183ad52e013647bd1e3ba0a8be687b", func := "garner/garnerlaw03.PackMoves", spec := "packMoves", plainKeys := false, apart := false, narrowed := true }
def PackMovesUptoSaid : Prop := packMovesUptoRow.holds Try.pinned (OpenSpec.upto packMovesSpec)

end Rows
end Go.Proofs.Ytdjmjmbfaokdaaa
