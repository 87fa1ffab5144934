/-
  No cell of these rows narrows 'for every input' (looked for: loops, veiled, ifaces, maps, wideKeys, modest, calm, conditions, laid).
  DERIVED. THE GIVEN ROWS OF THIS SEAT. 7 by the template 'for every input the law returns true; each argument reads behind the call as it read before'; 0 by the template 'total and deterministic' (their statements: YtijehblohblnbaaTotals.lean).
  GIVEN WITH THE SEED: the statements are not yours to turn. If you find one false, say at which input.
  Laid BY PROGRAM, IN A SANDBOX (cutbox-rows.mjs): the forced cells as the released guide's own fill.sh prints them over the translation 7d03d3cba7db4191… (all of the seat's roots in one cut). By AI agents, Wed Nov 11 2026. No macro, syntax, notation, axiom, sorry.
-/
import Derived.Test.YtijehblohblnbaaChecked
import GoSem.Claim
import GoSem.ClaimJoined
import GoSem.ClaimMapViews
import Derived.JoinedTies
import Derived.KernelRfl
namespace Go.Proofs.Ytijehblohblnbaa
/- THE CELL 'sum', in the pinned program and in every row, IS THE sha256 OF THE DUMP (.gsa) THAT YtijehblohblnbaaProg.lean LOADS. Nothing in Lean hashes anything: it is a label: what it is worth is what the hold of that sum in a sandbox is worth. -/
noncomputable def Try.pinned : Pinned := { name := "ytijehblohblnbaa", sum := "7d03d3cba7db4191b7d037b1cd55b8c444808be5db53aa00881c3aa5ad0be317", checked := Try.checked }
namespace Rows
def none {H : Type} : Left H := { results := [], args := [] }

/-- 'lurcherlaw01.UtfValid': WHATEVER THE INPUT: true; the input reads as it did. -/
def utfValidSpec : ChangeSpec := { name := "utfValid", fn := fun _ => fun
  | [d] => { results := [.lit (.bool true)], args := [d] }
  | _ => none }
def utfValidRow : OpenClaim := { program := "ytijehblohblnbaa", sum := "7d03d3cba7db4191b7d037b1cd55b8c444808be5db53aa00881c3aa5ad0be317", func := "lurcher/lurcherlaw01.UtfValid", spec := "utfValid", apart := false }
def UtfValidSaid : Prop := utfValidRow.holds Try.pinned (OpenSpec.ofChange utfValidSpec)

/-- ITS FALSE NEIGHBOUR: 'it returns false'. Refute it at one input. -/
def utfValidWrong : ChangeSpec := { name := "utfValid", fn := fun _ => fun
  | [d] => { results := [.lit (.bool false)], args := [d] }
  | _ => none }
def UtfValidWrongFalsely : Prop := utfValidRow.holds Try.pinned (OpenSpec.ofChange utfValidWrong)

/-- 'lurcherlaw01.UtfSteps': WHATEVER THE INPUT: true; the input reads as it did. -/
def utfStepsSpec : ChangeSpec := { name := "utfSteps", fn := fun _ => fun
  | [d1, d2, d3] => { results := [.lit (.bool true)], args := [d1, d2, d3] }
  | _ => none }
def utfStepsRow : OpenClaim := { program := "ytijehblohblnbaa", sum := "7d03d3cba7db4191b7d037b1cd55b8c444808be5db53aa00881c3aa5ad0be317", func := "lurcher/lurcherlaw01.UtfSteps", spec := "utfSteps", apart := false }
def UtfStepsSaid : Prop := utfStepsRow.holds Try.pinned (OpenSpec.ofChange utfStepsSpec)

/-- ITS FALSE NEIGHBOUR: 'it returns false'. Refute it at one input. -/
def utfStepsWrong : ChangeSpec := { name := "utfSteps", fn := fun _ => fun
  | [d1, d2, d3] => { results := [.lit (.bool false)], args := [d1, d2, d3] }
  | _ => none }
def UtfStepsWrongFalsely : Prop := utfStepsRow.holds Try.pinned (OpenSpec.ofChange utfStepsWrong)

/-- 'lurcherlaw01.UtfEdges': WHATEVER THE INPUT: true; the input reads as it did. -/
def utfEdgesSpec : ChangeSpec := { name := "utfEdges", fn := fun _ => fun
  | [d1, d2] => { results := [.lit (.bool true)], args := [d1, d2] }
  | _ => none }
def utfEdgesRow : OpenClaim := { program := "ytijehblohblnbaa", sum := "7d03d3cba7db4191b7d037b1cd55b8c444808be5db53aa00881c3aa5ad0be317", func := "lurcher/lurcherlaw01.UtfEdges", spec := "utfEdges", apart := false }
def UtfEdgesSaid : Prop := utfEdgesRow.holds Try.pinned (OpenSpec.ofChange utfEdgesSpec)

/-- ITS FALSE NEIGHBOUR: 'it returns false'. Refute it at one input. -/
def utfEdgesWrong : ChangeSpec := { name := "utfEdges", fn := fun _ => fun
  | [d1, d2] => { results := [.lit (.bool false)], args := [d1, d2] }
  | _ => none }
def UtfEdgesWrongFalsely : Prop := utfEdgesRow.holds Try.pinned (OpenSpec.ofChange utfEdgesWrong)

/-- 'lurcherlaw01.UtfAdds': WHATEVER THE INPUT: true; the input reads as it did. -/
def utfAddsSpec : ChangeSpec := { name := "utfAdds", fn := fun _ => fun
  | [d1, d2] => { results := [.lit (.bool true)], args := [d1, d2] }
  | _ => none }
def utfAddsRow : OpenClaim := { program := "ytijehblohblnbaa", sum := "7d03d3cba7db4191b7d037b1cd55b8c444808be5db53aa00881c3aa5ad0be317", func := "lurcher/lurcherlaw01.UtfAdds", spec := "utfAdds", apart := false }
def UtfAddsSaid : Prop := utfAddsRow.holds Try.pinned (OpenSpec.ofChange utfAddsSpec)

/-- ITS FALSE NEIGHBOUR: 'it returns false'. Refute it at one input. -/
def utfAddsWrong : ChangeSpec := { name := "utfAdds", fn := fun _ => fun
  | [d1, d2] => { results := [.lit (.bool false)], args := [d1, d2] }
  | _ => none }
def UtfAddsWrongFalsely : Prop := utfAddsRow.holds Try.pinned (OpenSpec.ofChange utfAddsWrong)

/-- 'lurcherlaw01.UtfEncodes': WHATEVER THE INPUT: true; the input reads as it did. -/
def utfEncodesSpec : ChangeSpec := { name := "utfEncodes", fn := fun _ => fun
  | [d1, d2] => { results := [.lit (.bool true)], args := [d1, d2] }
  | _ => none }
def utfEncodesRow : OpenClaim := { program := "ytijehblohblnbaa", sum := "7d03d3cba7db4191b7d037b1cd55b8c444808be5db53aa00881c3aa5ad0be317", func := "lurcher/lurcherlaw01.UtfEncodes", spec := "utfEncodes", apart := false }
def UtfEncodesSaid : Prop := utfEncodesRow.holds Try.pinned (OpenSpec.ofChange utfEncodesSpec)

/-- ITS FALSE NEIGHBOUR: 'it returns false'. Refute it at one input. -/
def utfEncodesWrong : ChangeSpec := { name := "utfEncodes", fn := fun _ => fun
  | [d1, d2] => { results := [.lit (.bool false)], args := [d1, d2] }
  | _ => none }
def UtfEncodesWrongFalsely : Prop := utfEncodesRow.holds Try.pinned (OpenSpec.ofChange utfEncodesWrong)

/-- 'lurcherlaw01.UtfBack': WHATEVER THE INPUT: true; the input reads as it did. -/
def utfBackSpec : ChangeSpec := { name := "utfBack", fn := fun _ => fun
  | [d] => { results := [.lit (.bool true)], args := [d] }
  | _ => none }
def utfBackRow : OpenClaim := { program := "ytijehblohblnbaa", sum := "7d03d3cba7db4191b7d037b1cd55b8c444808be5db53aa00881c3aa5ad0be317", func := "lurcher/lurcherlaw01.UtfBack", spec := "utfBack", apart := false }
def UtfBackSaid : Prop := utfBackRow.holds Try.pinned (OpenSpec.ofChange utfBackSpec)

/-- ITS FALSE NEIGHBOUR: 'it returns false'. Refute it at one input. -/
def utfBackWrong : ChangeSpec := { name := "utfBack", fn := fun _ => fun
  | [d] => { results := [.lit (.bool false)], args := [d] }
  | _ => none }
def UtfBackWrongFalsely : Prop := utfBackRow.holds Try.pinned (OpenSpec.ofChange utfBackWrong)

/-- 'lurcherlaw01.UtfPoints': WHATEVER THE INPUT: true; the input reads as it did. -/
def utfPointsSpec : ChangeSpec := { name := "utfPoints", fn := fun _ => fun
  | [d1, d2, d3] => { results := [.lit (.bool true)], args := [d1, d2, d3] }
  | _ => none }
def utfPointsRow : OpenClaim := { program := "ytijehblohblnbaa", sum := "7d03d3cba7db4191b7d037b1cd55b8c444808be5db53aa00881c3aa5ad0be317", func := "lurcher/lurcherlaw01.UtfPoints", spec := "utfPoints", apart := false }
def UtfPointsSaid : Prop := utfPointsRow.holds Try.pinned (OpenSpec.ofChange utfPointsSpec)

/-- ITS FALSE NEIGHBOUR: 'it returns false'. Refute it at one input. -/
def utfPointsWrong : ChangeSpec := { name := "utfPoints", fn := fun _ => fun
  | [d1, d2, d3] => { results := [.lit (.bool false)], args := [d1, d2, d3] }
  | _ => none }
def UtfPointsWrongFalsely : Prop := utfPointsRow.holds Try.pinned (OpenSpec.ofChange utfPointsWrong)

/- THE SECOND FORM. 'bulk': how many values and letters a reading holds, each counted each time it is reached (what is shared counts as often as it is met; a slice's spare places count too). A statement '..UptoSaid' is the law's where the arguments, and the package variables that the reading takes, are together of bulk at most 1048576: NARROWER than '..Said'. Prove '..Said' where nothing that the law and all that it calls make is longer than what came in: it says more and counts as full. Else prove '..UptoSaid'. A law counts once. -/
mutual
def uptoBulk {H : Type} : DataW H → Nat
  | .lit (.string bytes) => bytes.length + 1
  | .lit _ => 1
  | .nil => 1
  | .ptr d => uptoBulk d + 1
  | .slice elems spare => uptoBulkAll elems + uptoBulkAll spare + 1
  | .agg parts => uptoBulkAll parts + 1
  | .iface _ d => uptoBulk d + 1
  | .map entries => uptoBulkEntries entries + 1
  | .held _ => 1
def uptoBulkAll {H : Type} : List (DataW H) → Nat
  | [] => 0
  | d :: r => uptoBulk d + uptoBulkAll r
def uptoBulkEntries {H : Type} : List (Lit × DataW H) → Nat
  | [] => 0
  | x :: r => uptoBulkEntry x + uptoBulkEntries r
def uptoBulkEntry {H : Type} : Lit × DataW H → Nat
  | (.string bytes, d) => bytes.length + uptoBulk d + 1
  | (_, d) => uptoBulk d + 1
 end
def uptoSmall : (H : Type) → List (DataW H) → Bool := fun _ ds => decide (uptoBulkAll ds ≤ 1048576)
def OpenSpec.upto (s : _root_.Go.ChangeSpec) : _root_.Go.OpenSpec := { _root_.Go.OpenSpec.ofChange s with cond := some uptoSmall }

/-- 'lurcherlaw01.UtfValid', WHERE WHAT IT READS IS OF BULK AT MOST 1048576: true; the input reads as it did. -/
def utfValidUptoRow : OpenClaim := { program := "ytijehblohblnbaa", sum := "7d03d3cba7db4191b7d037b1cd55b8c444808be5db53aa00881c3aa5ad0be317", func := "lurcher/lurcherlaw01.UtfValid", spec := "utfValid", apart := false, narrowed := true }
def UtfValidUptoSaid : Prop := utfValidUptoRow.holds Try.pinned (OpenSpec.upto utfValidSpec)

/-- 'lurcherlaw01.UtfSteps', WHERE WHAT IT READS IS OF BULK AT MOST 1048576: true; the input reads as it did. -/
def utfStepsUptoRow : OpenClaim := { program := "ytijehblohblnbaa", sum := "7d03d3cba7db4191b7d037b1cd55b8c444808be5db53aa00881c3aa5ad0be317", func := "lurcher/lurcherlaw01.UtfSteps", spec := "utfSteps", apart := false, narrowed := true }
def UtfStepsUptoSaid : Prop := utfStepsUptoRow.holds Try.pinned (OpenSpec.upto utfStepsSpec)

/-- 'lurcherlaw01.UtfEdges', WHERE WHAT IT READS IS OF BULK AT MOST 1048576: true; the input reads as it did. -/
def utfEdgesUptoRow : OpenClaim := { program := "ytijehblohblnbaa", sum := "7d03d3cba7db4191b7d037b1cd55b8c444808be5db53aa00881c3aa5ad0be317", func := "lurcher/lurcherlaw01.UtfEdges", spec := "utfEdges", apart := false, narrowed := true }
def UtfEdgesUptoSaid : Prop := utfEdgesUptoRow.holds Try.pinned (OpenSpec.upto utfEdgesSpec)

/-- 'lurcherlaw01.UtfAdds', WHERE WHAT IT READS IS OF BULK AT MOST 1048576: true; the input reads as it did. -/
def utfAddsUptoRow : OpenClaim := { program := "ytijehblohblnbaa", sum := "7d03d3cba7db4191b7d037b1cd55b8c444808be5db53aa00881c3aa5ad0be317", func := "lurcher/lurcherlaw01.UtfAdds", spec := "utfAdds", apart := false, narrowed := true }
def UtfAddsUptoSaid : Prop := utfAddsUptoRow.holds Try.pinned (OpenSpec.upto utfAddsSpec)

/-- 'lurcherlaw01.UtfEncodes', WHERE WHAT IT READS IS OF BULK AT MOST 1048576: true; the input reads as it did. -/
def utfEncodesUptoRow : OpenClaim := { program := "ytijehblohblnbaa", sum := "7d03d3cba7db4191b7d037b1cd55b8c444808be5db53aa00881c3aa5ad0be317", func := "lurcher/lurcherlaw01.UtfEncodes", spec := "utfEncodes", apart := false, narrowed := true }
def UtfEncodesUptoSaid : Prop := utfEncodesUptoRow.holds Try.pinned (OpenSpec.upto utfEncodesSpec)

/-- 'lurcherlaw01.UtfBack', WHERE WHAT IT READS IS OF BULK AT MOST 1048576: true; the input reads as it did. -/
def utfBackUptoRow : OpenClaim := { program := "ytijehblohblnbaa", sum := "7d03d3cba7db4191b7d037b1cd55b8c444808be5db53aa00881c3aa5ad0be317", func := "lurcher/lurcherlaw01.UtfBack", spec := "utfBack", apart := false, narrowed := true }
def UtfBackUptoSaid : Prop := utfBackUptoRow.holds Try.pinned (OpenSpec.upto utfBackSpec)

/-- 'lurcherlaw01.UtfPoints', WHERE WHAT IT READS IS OF BULK AT MOST 1048576: true; the input reads as it did. -/
def utfPointsUptoRow : OpenClaim := { program := "ytijehblohblnbaa", sum := "7d03d3cba7db4191b7d037b1cd55b8c444808be5db53aa00881c3aa5ad0be317", func := "lurcher/lurcherlaw01.UtfPoints", spec := "utfPoints", apart := false, narrowed := true }
def UtfPointsUptoSaid : Prop := utfPointsUptoRow.holds Try.pinned (OpenSpec.upto utfPointsSpec)

end Rows
end Go.Proofs.Ytijehblohblnbaa
