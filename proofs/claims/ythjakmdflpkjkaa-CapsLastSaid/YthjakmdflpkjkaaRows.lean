/-
  No cell of these rows narrows 'for every input' (looked for: loops, veiled, ifaces, maps, wideKeys, modest, calm, conditions, laid).
  DERIVED. THE GIVEN ROWS OF THIS SEAT. 5 by the template 'for every input the law returns true; each argument reads behind the call as it read before'; 0 by the template 'total and deterministic' (their statements: YthjakmdflpkjkaaTotals.lean).
  GIVEN WITH THE SEED: the statements are not yours to turn. If you find one false, say at which input.
  Laid BY PROGRAM, IN A SANDBOX (cutbox-rows.mjs): the forced cells as the released guide's own fill.sh prints them over the translation ab5c8fb05fc1b228… (all of the seat's roots in one cut). By AI agents, Wed Nov 11 2026. No macro, syntax, notation, axiom, sorry.
-/
import Derived.Test.YthjakmdflpkjkaaChecked
import GoSem.Claim
import GoSem.ClaimJoined
import GoSem.ClaimMapViews
import Derived.JoinedTies
import Derived.KernelRfl
namespace Go.Proofs.Ythjakmdflpkjkaa
/- THE CELL 'sum', in the pinned program and in every row, IS THE sha256 OF THE DUMP (.gsa) THAT YthjakmdflpkjkaaProg.lean LOADS. Nothing in Lean hashes anything: it is a label: what it is worth is what the hold of that sum in a sandbox is worth. -/
noncomputable def Try.pinned : Pinned := { name := "ythjakmdflpkjkaa", sum := "ab5c8fb05fc1b2280aded26c0c62af489d3bf9f1878b4492aaceb31084f8329b", checked := Try.checked }
namespace Rows
def none {H : Type} : Left H := { results := [], args := [] }

/-- 'lurcherlaw16.CapsBounds': WHATEVER THE INPUT: true; the input reads as it did. -/
def capsBoundsSpec : ChangeSpec := { name := "capsBounds", fn := fun _ => fun
  | [d1, d2, d3] => { results := [.lit (.bool true)], args := [d1, d2, d3] }
  | _ => none }
def capsBoundsRow : OpenClaim := { program := "ythjakmdflpkjkaa", sum := "ab5c8fb05fc1b2280aded26c0c62af489d3bf9f1878b4492aaceb31084f8329b", func := "lurcher/lurcherlaw16.CapsBounds", spec := "capsBounds", apart := false }
def CapsBoundsSaid : Prop := capsBoundsRow.holds Try.pinned (OpenSpec.ofChange capsBoundsSpec)

/-- ITS FALSE NEIGHBOUR: 'it returns false'. Refute it at one input. -/
def capsBoundsWrong : ChangeSpec := { name := "capsBounds", fn := fun _ => fun
  | [d1, d2, d3] => { results := [.lit (.bool false)], args := [d1, d2, d3] }
  | _ => none }
def CapsBoundsWrongFalsely : Prop := capsBoundsRow.holds Try.pinned (OpenSpec.ofChange capsBoundsWrong)

/-- 'lurcherlaw16.CapsPlays': WHATEVER THE INPUT: true; the input reads as it did. -/
def capsPlaysSpec : ChangeSpec := { name := "capsPlays", fn := fun _ => fun
  | [d1, d2, d3] => { results := [.lit (.bool true)], args := [d1, d2, d3] }
  | _ => none }
def capsPlaysRow : OpenClaim := { program := "ythjakmdflpkjkaa", sum := "ab5c8fb05fc1b2280aded26c0c62af489d3bf9f1878b4492aaceb31084f8329b", func := "lurcher/lurcherlaw16.CapsPlays", spec := "capsPlays", apart := false }
def CapsPlaysSaid : Prop := capsPlaysRow.holds Try.pinned (OpenSpec.ofChange capsPlaysSpec)

/-- ITS FALSE NEIGHBOUR: 'it returns false'. Refute it at one input. -/
def capsPlaysWrong : ChangeSpec := { name := "capsPlays", fn := fun _ => fun
  | [d1, d2, d3] => { results := [.lit (.bool false)], args := [d1, d2, d3] }
  | _ => none }
def CapsPlaysWrongFalsely : Prop := capsPlaysRow.holds Try.pinned (OpenSpec.ofChange capsPlaysWrong)

/-- 'lurcherlaw16.CapsSpans': WHATEVER THE INPUT: true; the input reads as it did. -/
def capsSpansSpec : ChangeSpec := { name := "capsSpans", fn := fun _ => fun
  | [d1, d2] => { results := [.lit (.bool true)], args := [d1, d2] }
  | _ => none }
def capsSpansRow : OpenClaim := { program := "ythjakmdflpkjkaa", sum := "ab5c8fb05fc1b2280aded26c0c62af489d3bf9f1878b4492aaceb31084f8329b", func := "lurcher/lurcherlaw16.CapsSpans", spec := "capsSpans", apart := false }
def CapsSpansSaid : Prop := capsSpansRow.holds Try.pinned (OpenSpec.ofChange capsSpansSpec)

/-- ITS FALSE NEIGHBOUR: 'it returns false'. Refute it at one input. -/
def capsSpansWrong : ChangeSpec := { name := "capsSpans", fn := fun _ => fun
  | [d1, d2] => { results := [.lit (.bool false)], args := [d1, d2] }
  | _ => none }
def CapsSpansWrongFalsely : Prop := capsSpansRow.holds Try.pinned (OpenSpec.ofChange capsSpansWrong)

/-- 'lurcherlaw16.CapsSame': WHATEVER THE INPUT: true; the input reads as it did. -/
def capsSameSpec : ChangeSpec := { name := "capsSame", fn := fun _ => fun
  | [d1, d2, d3, d4] => { results := [.lit (.bool true)], args := [d1, d2, d3, d4] }
  | _ => none }
def capsSameRow : OpenClaim := { program := "ythjakmdflpkjkaa", sum := "ab5c8fb05fc1b2280aded26c0c62af489d3bf9f1878b4492aaceb31084f8329b", func := "lurcher/lurcherlaw16.CapsSame", spec := "capsSame", apart := false }
def CapsSameSaid : Prop := capsSameRow.holds Try.pinned (OpenSpec.ofChange capsSameSpec)

/-- ITS FALSE NEIGHBOUR: 'it returns false'. Refute it at one input. -/
def capsSameWrong : ChangeSpec := { name := "capsSame", fn := fun _ => fun
  | [d1, d2, d3, d4] => { results := [.lit (.bool false)], args := [d1, d2, d3, d4] }
  | _ => none }
def CapsSameWrongFalsely : Prop := capsSameRow.holds Try.pinned (OpenSpec.ofChange capsSameWrong)

/-- 'lurcherlaw16.CapsLast': WHATEVER THE INPUT: true; the input reads as it did. -/
def capsLastSpec : ChangeSpec := { name := "capsLast", fn := fun _ => fun
  | [d1, d2, d3, d4, d5, d6] => { results := [.lit (.bool true)], args := [d1, d2, d3, d4, d5, d6] }
  | _ => none }
def capsLastRow : OpenClaim := { program := "ythjakmdflpkjkaa", sum := "ab5c8fb05fc1b2280aded26c0c62af489d3bf9f1878b4492aaceb31084f8329b", func := "lurcher/lurcherlaw16.CapsLast", spec := "capsLast", apart := false }
def CapsLastSaid : Prop := capsLastRow.holds Try.pinned (OpenSpec.ofChange capsLastSpec)

/-- ITS FALSE NEIGHBOUR: 'it returns false'. Refute it at one input. -/
def capsLastWrong : ChangeSpec := { name := "capsLast", fn := fun _ => fun
  | [d1, d2, d3, d4, d5, d6] => { results := [.lit (.bool false)], args := [d1, d2, d3, d4, d5, d6] }
  | _ => none }
def CapsLastWrongFalsely : Prop := capsLastRow.holds Try.pinned (OpenSpec.ofChange capsLastWrong)

/- THE SECOND FORM. 'bulk': how many values and letters a reading holds, each counted each time it is reached (what is shared counts as often as it is met; a slice's spare places count too). A statement '..UptoSaid' is the law's where the arguments, and the package variables that the reading takes, are together of bulk at most 1048576: NARROWER than '..Said'. Prove '..Said' where nothing that the law and all that it calls make is longer than what came in: it says more and counts as full. Else prove '..UptoSaid'. A law counts once. -/
mutual
def uptoBulk {H : Type} : DataW H → Nat
  | .lit (.string bytes) => bytes.length + 1
  | .lit _ => 1
  | .nil => 1
  | .ptr d => uptoBulk d + 1
  | .slice elems spare => uptoBulkAll elems + uptoBulkAll spare + 1
  | .agg parts => uptoBulkAll parts + 1
  | .iface _ d => uptoBulk d + 1
  | .map entries => uptoBulkEntries entries + 1
  | .held _ => 1
def uptoBulkAll {H : Type} : List (DataW H) → Nat
  | [] => 0
  | d :: r => uptoBulk d + uptoBulkAll r
def uptoBulkEntries {H : Type} : List (Lit × DataW H) → Nat
  | [] => 0
  | x :: r => uptoBulkEntry x + uptoBulkEntries r
def uptoBulkEntry {H : Type} : Lit × DataW H → Nat
  | (.string bytes, d) => bytes.length + uptoBulk d + 1
  | (_, d) => uptoBulk d + 1
 end
def uptoSmall : (H : Type) → List (DataW H) → Bool := fun _ ds => decide (uptoBulkAll ds ≤ 1048576)
def OpenSpec.upto (s : _root_.Go.ChangeSpec) : _root_.Go.OpenSpec := { _root_.Go.OpenSpec.ofChange s with cond := some uptoSmall }

/-- 'lurcherlaw16.CapsBounds', WHERE WHAT IT READS IS OF BULK AT MOST 1048576: true; the input reads as it did. -/
def capsBoundsUptoRow : OpenClaim := { program := "ythjakmdflpkjkaa", sum := "ab5c8fb05fc1b2280aded26c0c62af489d3bf9f1878b4492aaceb31084f8329b", func := "lurcher/lurcherlaw16.CapsBounds", spec := "capsBounds", apart := false, narrowed := true }
def CapsBoundsUptoSaid : Prop := capsBoundsUptoRow.holds Try.pinned (OpenSpec.upto capsBoundsSpec)

/-- 'lurcherlaw16.CapsPlays', WHERE WHAT IT READS IS OF BULK AT MOST 1048576: true; the input reads as it did. -/
def capsPlaysUptoRow : OpenClaim := { program := "ythjakmdflpkjkaa", sum := "ab5c8fb05fc1b2280aded26c0c62af489d3bf9f1878b4492aaceb31084f8329b", func := "lurcher/lurcherlaw16.CapsPlays", spec := "capsPlays", apart := false, narrowed := true }
def CapsPlaysUptoSaid : Prop := capsPlaysUptoRow.holds Try.pinned (OpenSpec.upto capsPlaysSpec)

/-- 'lurcherlaw16.CapsSpans', WHERE WHAT IT READS IS OF BULK AT MOST 1048576: true; the input reads as it did. -/
def capsSpansUptoRow : OpenClaim := { program := "ythjakmdflpkjkaa", sum := "ab5c8fb05fc1b2280aded26c0c62af489d3bf9f1878b4492aaceb31084f8329b", func := "lurcher/lurcherlaw16.CapsSpans", spec := "capsSpans", apart := false, narrowed := true }
def CapsSpansUptoSaid : Prop := capsSpansUptoRow.holds Try.pinned (OpenSpec.upto capsSpansSpec)

/-- 'lurcherlaw16.CapsSame', WHERE WHAT IT READS IS OF BULK AT MOST 1048576: true; the input reads as it did. -/
def capsSameUptoRow : OpenClaim := { program := "ythjakmdflpkjkaa", sum := "ab5c8fb05fc1b2280aded26c0c62af489d3bf9f1878b4492aaceb31084f8329b", func := "lurcher/lurcherlaw16.CapsSame", spec := "capsSame", apart := false, narrowed := true }
def CapsSameUptoSaid : Prop := capsSameUptoRow.holds Try.pinned (OpenSpec.upto capsSameSpec)

/-- 'lurcherlaw16.CapsLast', WHERE WHAT IT READS IS OF BULK AT MOST 1048576: true; the input reads as it did. -/
def capsLastUptoRow : OpenClaim := { program := "ythjakmdflpkjkaa", sum := "ab5c8fb05fc1b2280aded26c0c62af489d3bf9f1878b4492aaceb31084f8329b", func := "lurcher/lurcherlaw16.CapsLast", spec := "capsLast", apart := false, narrowed := true }
def CapsLastUptoSaid : Prop := capsLastUptoRow.holds Try.pinned (OpenSpec.upto capsLastSpec)

end Rows
end Go.Proofs.Ythjakmdflpkjkaa
