/-
  No cell of these rows narrows 'for every input' (looked for: loops, veiled, ifaces, maps, wideKeys, modest, calm, conditions, laid).
  DERIVED. THE GIVEN ROWS OF THIS SEAT. 16 by the template 'for every input the law returns true; each argument reads behind the call as it read before'; 0 by the template 'total and deterministic' (their statements: YtnoohgiecnmajaaTotals.lean).
  GIVEN WITH THE SEED: the statements are not yours to turn. If you find one false, say at which input.
  Laid BY PROGRAM, IN A SANDBOX (cutbox-rows.mjs): the forced cells as the released guide's own fill.sh prints them over the translation 4006b28c01772848… (all of the seat's roots in one cut). By AI agents, Wed Nov 11 2026. No macro, syntax, notation, axiom, sorry.
-/
import Derived.Test.YtnoohgiecnmajaaChecked
import GoSem.Claim
import GoSem.ClaimJoined
import GoSem.ClaimMapViews
import Derived.JoinedTies
import Derived.KernelRfl
namespace Go.Proofs.Ytnoohgiecnmajaa
/- THE CELL 'sum', in the pinned program and in every row, IS THE sha256 OF THE DUMP (.gsa) THAT YtnoohgiecnmajaaProg.lean LOADS. Nothing in Lean hashes anything: it is a label: what it is worth is what the hold of that sum in a sandbox is worth. -/
noncomputable def Try.pinned : Pinned := { name := "ytnoohgiecnmajaa", sum := "4006b28c01772848069afafc2264a13b2a98e6eefa4e0c786df3cc3adb2ce67f", checked := Try.checked }
namespace Rows
def none {H : Type} : Left H := { results := [], args := [] }

/-- 'lurcherlaw09.GroupsSays': WHATEVER THE INPUT: true; the input reads as it did. -/
def groupsSaysSpec : ChangeSpec := { name := "groupsSays", fn := fun _ => fun
  | [d1, d2] => { results := [.lit (.bool true)], args := [d1, d2] }
  | _ => none }
def groupsSaysRow : OpenClaim := { program := "ytnoohgiecnmajaa", sum := "4006b28c01772848069afafc2264a13b2a98e6eefa4e0c786df3cc3adb2ce67f", func := "lurcher/lurcherlaw09.GroupsSays", spec := "groupsSays", recurses := true, apart := false }
def GroupsSaysSaid : Prop := groupsSaysRow.holds Try.pinned (OpenSpec.ofChange groupsSaysSpec)

/-- ITS FALSE NEIGHBOUR: 'it returns false'. Refute it at one input. -/
def groupsSaysWrong : ChangeSpec := { name := "groupsSays", fn := fun _ => fun
  | [d1, d2] => { results := [.lit (.bool false)], args := [d1, d2] }
  | _ => none }
def GroupsSaysWrongFalsely : Prop := groupsSaysRow.holds Try.pinned (OpenSpec.ofChange groupsSaysWrong)

/-- 'lurcherlaw09.GroupsRise': WHATEVER THE INPUT: true; the input reads as it did. -/
def groupsRiseSpec : ChangeSpec := { name := "groupsRise", fn := fun _ => fun
  | [d1, d2] => { results := [.lit (.bool true)], args := [d1, d2] }
  | _ => none }
def groupsRiseRow : OpenClaim := { program := "ytnoohgiecnmajaa", sum := "4006b28c01772848069afafc2264a13b2a98e6eefa4e0c786df3cc3adb2ce67f", func := "lurcher/lurcherlaw09.GroupsRise", spec := "groupsRise", recurses := true, apart := false }
def GroupsRiseSaid : Prop := groupsRiseRow.holds Try.pinned (OpenSpec.ofChange groupsRiseSpec)

/-- ITS FALSE NEIGHBOUR: 'it returns false'. Refute it at one input. -/
def groupsRiseWrong : ChangeSpec := { name := "groupsRise", fn := fun _ => fun
  | [d1, d2] => { results := [.lit (.bool false)], args := [d1, d2] }
  | _ => none }
def GroupsRiseWrongFalsely : Prop := groupsRiseRow.holds Try.pinned (OpenSpec.ofChange groupsRiseWrong)

/-- 'lurcherlaw09.GroupsFull': WHATEVER THE INPUT: true; the input reads as it did. -/
def groupsFullSpec : ChangeSpec := { name := "groupsFull", fn := fun _ => fun
  | [d] => { results := [.lit (.bool true)], args := [d] }
  | _ => none }
def groupsFullRow : OpenClaim := { program := "ytnoohgiecnmajaa", sum := "4006b28c01772848069afafc2264a13b2a98e6eefa4e0c786df3cc3adb2ce67f", func := "lurcher/lurcherlaw09.GroupsFull", spec := "groupsFull", recurses := true, apart := false }
def GroupsFullSaid : Prop := groupsFullRow.holds Try.pinned (OpenSpec.ofChange groupsFullSpec)

/-- ITS FALSE NEIGHBOUR: 'it returns false'. Refute it at one input. -/
def groupsFullWrong : ChangeSpec := { name := "groupsFull", fn := fun _ => fun
  | [d] => { results := [.lit (.bool false)], args := [d] }
  | _ => none }
def GroupsFullWrongFalsely : Prop := groupsFullRow.holds Try.pinned (OpenSpec.ofChange groupsFullWrong)

/-- 'lurcherlaw09.GroupsNames': WHATEVER THE INPUT: true; the input reads as it did. -/
def groupsNamesSpec : ChangeSpec := { name := "groupsNames", fn := fun _ => fun
  | [d1, d2] => { results := [.lit (.bool true)], args := [d1, d2] }
  | _ => none }
def groupsNamesRow : OpenClaim := { program := "ytnoohgiecnmajaa", sum := "4006b28c01772848069afafc2264a13b2a98e6eefa4e0c786df3cc3adb2ce67f", func := "lurcher/lurcherlaw09.GroupsNames", spec := "groupsNames", recurses := true, apart := false }
def GroupsNamesSaid : Prop := groupsNamesRow.holds Try.pinned (OpenSpec.ofChange groupsNamesSpec)

/-- ITS FALSE NEIGHBOUR: 'it returns false'. Refute it at one input. -/
def groupsNamesWrong : ChangeSpec := { name := "groupsNames", fn := fun _ => fun
  | [d1, d2] => { results := [.lit (.bool false)], args := [d1, d2] }
  | _ => none }
def GroupsNamesWrongFalsely : Prop := groupsNamesRow.holds Try.pinned (OpenSpec.ofChange groupsNamesWrong)

/-- 'lurcherlaw09.GroupsShift': WHATEVER THE INPUT: true; the input reads as it did. -/
def groupsShiftSpec : ChangeSpec := { name := "groupsShift", fn := fun _ => fun
  | [d1, d2, d3] => { results := [.lit (.bool true)], args := [d1, d2, d3] }
  | _ => none }
def groupsShiftRow : OpenClaim := { program := "ytnoohgiecnmajaa", sum := "4006b28c01772848069afafc2264a13b2a98e6eefa4e0c786df3cc3adb2ce67f", func := "lurcher/lurcherlaw09.GroupsShift", spec := "groupsShift", recurses := true, apart := false }
def GroupsShiftSaid : Prop := groupsShiftRow.holds Try.pinned (OpenSpec.ofChange groupsShiftSpec)

/-- ITS FALSE NEIGHBOUR: 'it returns false'. Refute it at one input. -/
def groupsShiftWrong : ChangeSpec := { name := "groupsShift", fn := fun _ => fun
  | [d1, d2, d3] => { results := [.lit (.bool false)], args := [d1, d2, d3] }
  | _ => none }
def GroupsShiftWrongFalsely : Prop := groupsShiftRow.holds Try.pinned (OpenSpec.ofChange groupsShiftWrong)

/-- 'lurcherlaw10.RefsSays': WHATEVER THE INPUT: true; the input reads as it did. -/
def refsSaysSpec : ChangeSpec := { name := "refsSays", fn := fun _ => fun
  | [d1, d2] => { results := [.lit (.bool true)], args := [d1, d2] }
  | _ => none }
def refsSaysRow : OpenClaim := { program := "ytnoohgiecnmajaa", sum := "4006b28c01772848069afafc2264a13b2a98e6eefa4e0c786df3cc3adb2ce67f", func := "lurcher/lurcherlaw10.RefsSays", spec := "refsSays", recurses := true, apart := false }
def RefsSaysSaid : Prop := refsSaysRow.holds Try.pinned (OpenSpec.ofChange refsSaysSpec)

/-- ITS FALSE NEIGHBOUR: 'it returns false'. Refute it at one input. -/
def refsSaysWrong : ChangeSpec := { name := "refsSays", fn := fun _ => fun
  | [d1, d2] => { results := [.lit (.bool false)], args := [d1, d2] }
  | _ => none }
def RefsSaysWrongFalsely : Prop := refsSaysRow.holds Try.pinned (OpenSpec.ofChange refsSaysWrong)

/-- 'lurcherlaw10.RefsWithin': WHATEVER THE INPUT: true; the input reads as it did. -/
def refsWithinSpec : ChangeSpec := { name := "refsWithin", fn := fun _ => fun
  | [d1, d2] => { results := [.lit (.bool true)], args := [d1, d2] }
  | _ => none }
def refsWithinRow : OpenClaim := { program := "ytnoohgiecnmajaa", sum := "4006b28c01772848069afafc2264a13b2a98e6eefa4e0c786df3cc3adb2ce67f", func := "lurcher/lurcherlaw10.RefsWithin", spec := "refsWithin", recurses := true, apart := false }
def RefsWithinSaid : Prop := refsWithinRow.holds Try.pinned (OpenSpec.ofChange refsWithinSpec)

/-- ITS FALSE NEIGHBOUR: 'it returns false'. Refute it at one input. -/
def refsWithinWrong : ChangeSpec := { name := "refsWithin", fn := fun _ => fun
  | [d1, d2] => { results := [.lit (.bool false)], args := [d1, d2] }
  | _ => none }
def RefsWithinWrongFalsely : Prop := refsWithinRow.holds Try.pinned (OpenSpec.ofChange refsWithinWrong)

/-- 'lurcherlaw10.RefsBack': WHATEVER THE INPUT: true; the input reads as it did. -/
def refsBackSpec : ChangeSpec := { name := "refsBack", fn := fun _ => fun
  | [d1, d2] => { results := [.lit (.bool true)], args := [d1, d2] }
  | _ => none }
def refsBackRow : OpenClaim := { program := "ytnoohgiecnmajaa", sum := "4006b28c01772848069afafc2264a13b2a98e6eefa4e0c786df3cc3adb2ce67f", func := "lurcher/lurcherlaw10.RefsBack", spec := "refsBack", recurses := true, apart := false }
def RefsBackSaid : Prop := refsBackRow.holds Try.pinned (OpenSpec.ofChange refsBackSpec)

/-- ITS FALSE NEIGHBOUR: 'it returns false'. Refute it at one input. -/
def refsBackWrong : ChangeSpec := { name := "refsBack", fn := fun _ => fun
  | [d1, d2] => { results := [.lit (.bool false)], args := [d1, d2] }
  | _ => none }
def RefsBackWrongFalsely : Prop := refsBackRow.holds Try.pinned (OpenSpec.ofChange refsBackWrong)

/-- 'lurcherlaw10.RefsNames': WHATEVER THE INPUT: true; the input reads as it did. -/
def refsNamesSpec : ChangeSpec := { name := "refsNames", fn := fun _ => fun
  | [d1, d2] => { results := [.lit (.bool true)], args := [d1, d2] }
  | _ => none }
def refsNamesRow : OpenClaim := { program := "ytnoohgiecnmajaa", sum := "4006b28c01772848069afafc2264a13b2a98e6eefa4e0c786df3cc3adb2ce67f", func := "lurcher/lurcherlaw10.RefsNames", spec := "refsNames", recurses := true, apart := false }
def RefsNamesSaid : Prop := refsNamesRow.holds Try.pinned (OpenSpec.ofChange refsNamesSpec)

/-- ITS FALSE NEIGHBOUR: 'it returns false'. Refute it at one input. -/
def refsNamesWrong : ChangeSpec := { name := "refsNames", fn := fun _ => fun
  | [d1, d2] => { results := [.lit (.bool false)], args := [d1, d2] }
  | _ => none }
def RefsNamesWrongFalsely : Prop := refsNamesRow.holds Try.pinned (OpenSpec.ofChange refsNamesWrong)

/-- 'lurcherlaw10.RefsKeeps': WHATEVER THE INPUT: true; the input reads as it did. -/
def refsKeepsSpec : ChangeSpec := { name := "refsKeeps", fn := fun _ => fun
  | [d1, d2] => { results := [.lit (.bool true)], args := [d1, d2] }
  | _ => none }
def refsKeepsRow : OpenClaim := { program := "ytnoohgiecnmajaa", sum := "4006b28c01772848069afafc2264a13b2a98e6eefa4e0c786df3cc3adb2ce67f", func := "lurcher/lurcherlaw10.RefsKeeps", spec := "refsKeeps", recurses := true, apart := false }
def RefsKeepsSaid : Prop := refsKeepsRow.holds Try.pinned (OpenSpec.ofChange refsKeepsSpec)

/-- ITS FALSE NEIGHBOUR: 'it returns false'. Refute it at one input. -/
def refsKeepsWrong : ChangeSpec := { name := "refsKeeps", fn := fun _ => fun
  | [d1, d2] => { results := [.lit (.bool false)], args := [d1, d2] }
  | _ => none }
def RefsKeepsWrongFalsely : Prop := refsKeepsRow.holds Try.pinned (OpenSpec.ofChange refsKeepsWrong)

/-- 'lurcherlaw07.ParseSays': WHATEVER THE INPUT: true; the input reads as it did. -/
def parseSaysSpec : ChangeSpec := { name := "parseSays", fn := fun _ => fun
  | [d1, d2] => { results := [.lit (.bool true)], args := [d1, d2] }
  | _ => none }
def parseSaysRow : OpenClaim := { program := "ytnoohgiecnmajaa", sum := "4006b28c01772848069afafc2264a13b2a98e6eefa4e0c786df3cc3adb2ce67f", func := "lurcher/lurcherlaw07.ParseSays", spec := "parseSays", unfollowed := true, recurses := true, apart := false }
def ParseSaysSaid : Prop := parseSaysRow.holds Try.pinned (OpenSpec.ofChange parseSaysSpec)

/-- ITS FALSE NEIGHBOUR: 'it returns false'. Refute it at one input. -/
def parseSaysWrong : ChangeSpec := { name := "parseSays", fn := fun _ => fun
  | [d1, d2] => { results := [.lit (.bool false)], args := [d1, d2] }
  | _ => none }
def ParseSaysWrongFalsely : Prop := parseSaysRow.holds Try.pinned (OpenSpec.ofChange parseSaysWrong)

/-- 'lurcherlaw07.ParseMay': WHATEVER THE INPUT: true; the input reads as it did. -/
def parseMaySpec : ChangeSpec := { name := "parseMay", fn := fun _ => fun
  | [d1, d2] => { results := [.lit (.bool true)], args := [d1, d2] }
  | _ => none }
def parseMayRow : OpenClaim := { program := "ytnoohgiecnmajaa", sum := "4006b28c01772848069afafc2264a13b2a98e6eefa4e0c786df3cc3adb2ce67f", func := "lurcher/lurcherlaw07.ParseMay", spec := "parseMay", unfollowed := true, recurses := true, apart := false }
def ParseMaySaid : Prop := parseMayRow.holds Try.pinned (OpenSpec.ofChange parseMaySpec)

/-- ITS FALSE NEIGHBOUR: 'it returns false'. Refute it at one input. -/
def parseMayWrong : ChangeSpec := { name := "parseMay", fn := fun _ => fun
  | [d1, d2] => { results := [.lit (.bool false)], args := [d1, d2] }
  | _ => none }
def ParseMayWrongFalsely : Prop := parseMayRow.holds Try.pinned (OpenSpec.ofChange parseMayWrong)

/-- 'lurcherlaw07.ParseWithin': WHATEVER THE INPUT: true; the input reads as it did. -/
def parseWithinSpec : ChangeSpec := { name := "parseWithin", fn := fun _ => fun
  | [d] => { results := [.lit (.bool true)], args := [d] }
  | _ => none }
def parseWithinRow : OpenClaim := { program := "ytnoohgiecnmajaa", sum := "4006b28c01772848069afafc2264a13b2a98e6eefa4e0c786df3cc3adb2ce67f", func := "lurcher/lurcherlaw07.ParseWithin", spec := "parseWithin", unfollowed := true, recurses := true, apart := false }
def ParseWithinSaid : Prop := parseWithinRow.holds Try.pinned (OpenSpec.ofChange parseWithinSpec)

/-- ITS FALSE NEIGHBOUR: 'it returns false'. Refute it at one input. -/
def parseWithinWrong : ChangeSpec := { name := "parseWithin", fn := fun _ => fun
  | [d] => { results := [.lit (.bool false)], args := [d] }
  | _ => none }
def ParseWithinWrongFalsely : Prop := parseWithinRow.holds Try.pinned (OpenSpec.ofChange parseWithinWrong)

/-- 'lurcherlaw07.ParseDeep': WHATEVER THE INPUT: true; the input reads as it did. -/
def parseDeepSpec : ChangeSpec := { name := "parseDeep", fn := fun _ => fun
  | [d1, d2] => { results := [.lit (.bool true)], args := [d1, d2] }
  | _ => none }
def parseDeepRow : OpenClaim := { program := "ytnoohgiecnmajaa", sum := "4006b28c01772848069afafc2264a13b2a98e6eefa4e0c786df3cc3adb2ce67f", func := "lurcher/lurcherlaw07.ParseDeep", spec := "parseDeep", unfollowed := true, recurses := true, apart := false }
def ParseDeepSaid : Prop := parseDeepRow.holds Try.pinned (OpenSpec.ofChange parseDeepSpec)

/-- ITS FALSE NEIGHBOUR: 'it returns false'. Refute it at one input. -/
def parseDeepWrong : ChangeSpec := { name := "parseDeep", fn := fun _ => fun
  | [d1, d2] => { results := [.lit (.bool false)], args := [d1, d2] }
  | _ => none }
def ParseDeepWrongFalsely : Prop := parseDeepRow.holds Try.pinned (OpenSpec.ofChange parseDeepWrong)

/-- 'lurcherlaw07.ParseJoins': WHATEVER THE INPUT: true; the input reads as it did. -/
def parseJoinsSpec : ChangeSpec := { name := "parseJoins", fn := fun _ => fun
  | [d1, d2] => { results := [.lit (.bool true)], args := [d1, d2] }
  | _ => none }
def parseJoinsRow : OpenClaim := { program := "ytnoohgiecnmajaa", sum := "4006b28c01772848069afafc2264a13b2a98e6eefa4e0c786df3cc3adb2ce67f", func := "lurcher/lurcherlaw07.ParseJoins", spec := "parseJoins", unfollowed := true, recurses := true, apart := false }
def ParseJoinsSaid : Prop := parseJoinsRow.holds Try.pinned (OpenSpec.ofChange parseJoinsSpec)

/-- ITS FALSE NEIGHBOUR: 'it returns false'. Refute it at one input. -/
def parseJoinsWrong : ChangeSpec := { name := "parseJoins", fn := fun _ => fun
  | [d1, d2] => { results := [.lit (.bool false)], args := [d1, d2] }
  | _ => none }
def ParseJoinsWrongFalsely : Prop := parseJoinsRow.holds Try.pinned (OpenSpec.ofChange parseJoinsWrong)

/-- 'lurcherlaw07.ParseChains': WHATEVER THE INPUT: true; the input reads as it did. -/
def parseChainsSpec : ChangeSpec := { name := "parseChains", fn := fun _ => fun
  | [d] => { results := [.lit (.bool true)], args := [d] }
  | _ => none }
def parseChainsRow : OpenClaim := { program := "ytnoohgiecnmajaa", sum := "4006b28c01772848069afafc2264a13b2a98e6eefa4e0c786df3cc3adb2ce67f", func := "lurcher/lurcherlaw07.ParseChains", spec := "parseChains", unfollowed := true, recurses := true, apart := false }
def ParseChainsSaid : Prop := parseChainsRow.holds Try.pinned (OpenSpec.ofChange parseChainsSpec)

/-- ITS FALSE NEIGHBOUR: 'it returns false'. Refute it at one input. -/
def parseChainsWrong : ChangeSpec := { name := "parseChains", fn := fun _ => fun
  | [d] => { results := [.lit (.bool false)], args := [d] }
  | _ => none }
def ParseChainsWrongFalsely : Prop := parseChainsRow.holds Try.pinned (OpenSpec.ofChange parseChainsWrong)

/- THE SECOND FORM. 'bulk': how many values and letters a reading holds, each counted each time it is reached (what is shared counts as often as it is met; a slice's spare places count too). A statement '..UptoSaid' is the law's where the arguments, and the package variables that the reading takes, are together of bulk at most 1048576: NARROWER than '..Said'. Prove '..Said' where nothing that the law and all that it calls make is longer than what came in: it says more and counts as full. Else prove '..UptoSaid'. A law counts once. -/
mutual
def uptoBulk {H : Type} : DataW H → Nat
  | .lit (.string bytes) => bytes.length + 1
  | .lit _ => 1
  | .nil => 1
  | .ptr d => uptoBulk d + 1
  | .slice elems spare => uptoBulkAll elems + uptoBulkAll spare + 1
  | .agg parts => uptoBulkAll parts + 1
  | .iface _ d => uptoBulk d + 1
  | .map entries => uptoBulkEntries entries + 1
  | .held _ => 1
def uptoBulkAll {H : Type} : List (DataW H) → Nat
  | [] => 0
  | d :: r => uptoBulk d + uptoBulkAll r
def uptoBulkEntries {H : Type} : List (Lit × DataW H) → Nat
  | [] => 0
  | x :: r => uptoBulkEntry x + uptoBulkEntries r
def uptoBulkEntry {H : Type} : Lit × DataW H → Nat
  | (.string bytes, d) => bytes.length + uptoBulk d + 1
  | (_, d) => uptoBulk d + 1
 end
def uptoSmall : (H : Type) → List (DataW H) → Bool := fun _ ds => decide (uptoBulkAll ds ≤ 1048576)
def OpenSpec.upto (s : _root_.Go.ChangeSpec) : _root_.Go.OpenSpec := { _root_.Go.OpenSpec.ofChange s with cond := some uptoSmall }

/-- 'lurcherlaw09.GroupsSays', WHERE WHAT IT READS IS OF BULK AT MOST 1048576: true; the input reads as it did. -/
def groupsSaysUptoRow : OpenClaim := { program := "ytnoohgiecnmajaa", sum := "4006b28c01772848069afafc2264a13b2a98e6eefa4e0c786df3cc3adb2ce67f", func := "lurcher/lurcherlaw09.GroupsSays", spec := "groupsSays", recurses := true, apart := false, narrowed := true }
def GroupsSaysUptoSaid : Prop := groupsSaysUptoRow.holds Try.pinned (OpenSpec.upto groupsSaysSpec)

/-- 'lurcherlaw09.GroupsRise', WHERE WHAT IT READS IS OF BULK AT MOST 1048576: true; the input reads as it did. -/
def groupsRiseUptoRow : OpenClaim := { program := "ytnoohgiecnmajaa", sum := "4006b28c01772848069afafc2264a13b2a98e6eefa4e0c786df3cc3adb2ce67f", func := "lurcher/lurcherlaw09.GroupsRise", spec := "groupsRise", recurses := true, apart := false, narrowed := true }
def GroupsRiseUptoSaid : Prop := groupsRiseUptoRow.holds Try.pinned (OpenSpec.upto groupsRiseSpec)

/-- 'lurcherlaw09.GroupsFull', WHERE WHAT IT READS IS OF BULK AT MOST 1048576: true; the input reads as it did. -/
def groupsFullUptoRow : OpenClaim := { program := "ytnoohgiecnmajaa", sum := "4006b28c01772848069afafc2264a13b2a98e6eefa4e0c786df3cc3adb2ce67f", func := "lurcher/lurcherlaw09.GroupsFull", spec := "groupsFull", recurses := true, apart := false, narrowed := true }
def GroupsFullUptoSaid : Prop := groupsFullUptoRow.holds Try.pinned (OpenSpec.upto groupsFullSpec)

/-- 'lurcherlaw09.GroupsNames', WHERE WHAT IT READS IS OF BULK AT MOST 1048576: true; the input reads as it did. -/
def groupsNamesUptoRow : OpenClaim := { program := "ytnoohgiecnmajaa", sum := "4006b28c01772848069afafc2264a13b2a98e6eefa4e0c786df3cc3adb2ce67f", func := "lurcher/lurcherlaw09.GroupsNames", spec := "groupsNames", recurses := true, apart := false, narrowed := true }
def GroupsNamesUptoSaid : Prop := groupsNamesUptoRow.holds Try.pinned (OpenSpec.upto groupsNamesSpec)

/-- 'lurcherlaw09.GroupsShift', WHERE WHAT IT READS IS OF BULK AT MOST 1048576: true; the input reads as it did. -/
def groupsShiftUptoRow : OpenClaim := { program := "ytnoohgiecnmajaa", sum := "4006b28c01772848069afafc2264a13b2a98e6eefa4e0c786df3cc3adb2ce67f", func := "lurcher/lurcherlaw09.GroupsShift", spec := "groupsShift", recurses := true, apart := false, narrowed := true }
def GroupsShiftUptoSaid : Prop := groupsShiftUptoRow.holds Try.pinned (OpenSpec.upto groupsShiftSpec)

/-- 'lurcherlaw10.RefsSays', WHERE WHAT IT READS IS OF BULK AT MOST 1048576: true; the input reads as it did. -/
def refsSaysUptoRow : OpenClaim := { program := "ytnoohgiecnmajaa", sum := "4006b28c01772848069afafc2264a13b2a98e6eefa4e0c786df3cc3adb2ce67f", func := "lurcher/lurcherlaw10.RefsSays", spec := "refsSays", recurses := true, apart := false, narrowed := true }
def RefsSaysUptoSaid : Prop := refsSaysUptoRow.holds Try.pinned (OpenSpec.upto refsSaysSpec)

/-- 'lurcherlaw10.RefsWithin', WHERE WHAT IT READS IS OF BULK AT MOST 1048576: true; the input reads as it did. -/
def refsWithinUptoRow : OpenClaim := { program := "ytnoohgiecnmajaa", sum := "4006b28c01772848069afafc2264a13b2a98e6eefa4e0c786df3cc3adb2ce67f", func := "lurcher/lurcherlaw10.RefsWithin", spec := "refsWithin", recurses := true, apart := false, narrowed := true }
def RefsWithinUptoSaid : Prop := refsWithinUptoRow.holds Try.pinned (OpenSpec.upto refsWithinSpec)

/-- 'lurcherlaw10.RefsBack', WHERE WHAT IT READS IS OF BULK AT MOST 1048576: true; the input reads as it did. -/
def refsBackUptoRow : OpenClaim := { program := "ytnoohgiecnmajaa", sum := "4006b28c01772848069afafc2264a13b2a98e6eefa4e0c786df3cc3adb2ce67f", func := "lurcher/lurcherlaw10.RefsBack", spec := "refsBack", recurses := true, apart := false, narrowed := true }
def RefsBackUptoSaid : Prop := refsBackUptoRow.holds Try.pinned (OpenSpec.upto refsBackSpec)

/-- 'lurcherlaw10.RefsNames', WHERE WHAT IT READS IS OF BULK AT MOST 1048576: true; the input reads as it did. -/
def refsNamesUptoRow : OpenClaim := { program := "ytnoohgiecnmajaa", sum := "4006b28c01772848069afafc2264a13b2a98e6eefa4e0c786df3cc3adb2ce67f", func := "lurcher/lurcherlaw10.RefsNames", spec := "refsNames", recurses := true, apart := false, narrowed := true }
def RefsNamesUptoSaid : Prop := refsNamesUptoRow.holds Try.pinned (OpenSpec.upto refsNamesSpec)

/-- 'lurcherlaw10.RefsKeeps', WHERE WHAT IT READS IS OF BULK AT MOST 1048576: true; the input reads as it did. -/
def refsKeepsUptoRow : OpenClaim := { program := "ytnoohgiecnmajaa", sum := "4006b28c01772848069afafc2264a13b2a98e6eefa4e0c786df3cc3adb2ce67f", func := "lurcher/lurcherlaw10.RefsKeeps", spec := "refsKeeps", recurses := true, apart := false, narrowed := true }
def RefsKeepsUptoSaid : Prop := refsKeepsUptoRow.holds Try.pinned (OpenSpec.upto refsKeepsSpec)

/-- 'lurcherlaw07.ParseSays', WHERE WHAT IT READS IS OF BULK AT MOST 1048576: true; the input reads as it did. -/
def parseSaysUptoRow : OpenClaim := { program := "ytnoohgiecnmajaa", sum := "4006b28c01772848069afafc2264a13b2a98e6eefa4e0c786df3cc3adb2ce67f", func := "lurcher/lurcherlaw07.ParseSays", spec := "parseSays", unfollowed := true, recurses := true, apart := false, narrowed := true }
def ParseSaysUptoSaid : Prop := parseSaysUptoRow.holds Try.pinned (OpenSpec.upto parseSaysSpec)

/-- 'lurcherlaw07.ParseMay', WHERE WHAT IT READS IS OF BULK AT MOST 1048576: true; the input reads as it did. -/
def parseMayUptoRow : OpenClaim := { program := "ytnoohgiecnmajaa", sum := "4006b28c01772848069afafc2264a13b2a98e6eefa4e0c786df3cc3adb2ce67f", func := "lurcher/lurcherlaw07.ParseMay", spec := "parseMay", unfollowed := true, recurses := true, apart := false, narrowed := true }
def ParseMayUptoSaid : Prop := parseMayUptoRow.holds Try.pinned (OpenSpec.upto parseMaySpec)

/-- 'lurcherlaw07.ParseWithin', WHERE WHAT IT READS IS OF BULK AT MOST 1048576: true; the input reads as it did. -/
def parseWithinUptoRow : OpenClaim := { program := "ytnoohgiecnmajaa", sum := "4006b28c01772848069afafc2264a13b2a98e6eefa4e0c786df3cc3adb2ce67f", func := "lurcher/lurcherlaw07.ParseWithin", spec := "parseWithin", unfollowed := true, recurses := true, apart := false, narrowed := true }
def ParseWithinUptoSaid : Prop := parseWithinUptoRow.holds Try.pinned (OpenSpec.upto parseWithinSpec)

/-- 'lurcherlaw07.ParseDeep', WHERE WHAT IT READS IS OF BULK AT MOST 1048576: true; the input reads as it did. -/
def parseDeepUptoRow : OpenClaim := { program := "ytnoohgiecnmajaa", sum := "4006b28c01772848069afafc2264a13b2a98e6eefa4e0c786df3cc3adb2ce67f", func := "lurcher/lurcherlaw07.ParseDeep", spec := "parseDeep", unfollowed := true, recurses := true, apart := false, narrowed := true }
def ParseDeepUptoSaid : Prop := parseDeepUptoRow.holds Try.pinned (OpenSpec.upto parseDeepSpec)

/-- 'lurcherlaw07.ParseJoins', WHERE WHAT IT READS IS OF BULK AT MOST 1048576: true; the input reads as it did. -/
def parseJoinsUptoRow : OpenClaim := { program := "ytnoohgiecnmajaa", sum := "4006b28c01772848069afafc2264a13b2a98e6eefa4e0c786df3cc3adb2ce67f", func := "lurcher/lurcherlaw07.ParseJoins", spec := "parseJoins", unfollowed := true, recurses := true, apart := false, narrowed := true }
def ParseJoinsUptoSaid : Prop := parseJoinsUptoRow.holds Try.pinned (OpenSpec.upto parseJoinsSpec)

/-- 'lurcherlaw07.ParseChains', WHERE WHAT IT READS IS OF BULK AT MOST 1048576: true; the input reads as it did. -/
def parseChainsUptoRow : OpenClaim := { program := "ytnoohgiecnmajaa", sum := "4006b28c01772848069afafc2264a13b2a98e6eefa4e0c786df3cc3adb2ce67f", func := "lurcher/lurcherlaw07.ParseChains", spec := "parseChains", unfollowed := true, recurses := true, apart := false, narrowed := true }
def ParseChainsUptoSaid : Prop := parseChainsUptoRow.holds Try.pinned (OpenSpec.upto parseChainsSpec)

end Rows
end Go.Proofs.Ytnoohgiecnmajaa
