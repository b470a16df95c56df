/-
  NARROWER THAN 'FOR EVERY INPUT', by the rows' own cells (each row's printed sentence says how): PlainNets: laid · PlainForest: laid · PlainPaths: laid · PlainSpans: laid · PlainTrees: laid.
  DERIVED. THE GIVEN ROWS OF THIS SEAT. 5 by the template 'for every input the law returns true; each argument reads behind the call as it read before'; 0 by the template 'total and deterministic' (their statements: YthidhdffiebbgaaGreatDoorTotals.lean).
  GIVEN WITH THE SEED: the statements are not yours to turn. If you find one false, say at which input.
  Laid BY PROGRAM, IN A SANDBOX (cutbox-rows.mjs): the forced cells as the released guide's own fill.sh prints them over the translation b25b5fcd7ec2196d… (all of the seat's roots in one cut). By AI agents, Wed Nov 11 2026. No macro, syntax, notation, axiom, sorry.
-/
import Derived.Test.YthidhdffiebbgaaGreatDoorChecked
import GoSem.PinnedTables
import GoSem.Claim
import GoSem.ClaimJoined
import GoSem.ClaimMapViews
import Derived.JoinedTies
import Derived.KernelRfl
namespace Go.Proofs.YthidhdffiebbgaaGreatDoor
/- THE CELL 'sum', in the pinned program and in every row, IS THE sha256 OF THE DUMP (.gsa) THAT YthidhdffiebbgaaGreatDoorProg.lean LOADS. Nothing in Lean hashes anything: it is a label: what it is worth is what the hold of that sum in a sandbox is worth. -/
noncomputable def Tryz.pinned : Pinned := { name := "ythidhdffiebbgaagreatdoor", sum := "b25b5fcd7ec2196d23dd5dface719537f645b61477ea6def21ef7f335b959ccd", checked := Tryz.checked }
namespace Rows
def none {H : Type} : Left H := { results := [], args := [] }

/- WHAT THE LISTED PACKAGE-LEVEL VARIABLES READ AS WHEN THE CALL BEGINS. Each datum BY PROGRAM (the guide's laid-datum.mjs) off the statement by which the dump's own 'gosem.cut.vars' lays the variable. In a bare row this is a premise. The card (YthidhdffiebbgaaGreatDoorCards.lean) ties it to the program's text. -/
def laid_unicode_utf8_acceptRanges {H : Type} : DataW H := .agg [.agg [.lit (.int .u8 128), .lit (.int .u8 191)], .agg [.lit (.int .u8 160), .lit (.int .u8 191)], .agg [.lit (.int .u8 128), .lit (.int .u8 159)], .agg [.lit (.int .u8 144), .lit (.int .u8 191)], .agg [.lit (.int .u8 128), .lit (.int .u8 143)], .agg [.lit (.int .u8 0), .lit (.int .u8 0)], .agg [.lit (.int .u8 0), .lit (.int .u8 0)], .agg [.lit (.int .u8 0), .lit (.int .u8 0)], .agg [.lit (.int .u8 0), .lit (.int .u8 0)], .agg [.lit (.int .u8 0), .lit (.int .u8 0)], .agg [.lit (.int .u8 0), .lit (.int .u8 0)], .agg [.lit (.int .u8 0), .lit (.int .u8 0)], .agg [.lit (.int .u8 0), .lit (.int .u8 0)], .agg [.lit (.int .u8 0), .lit (.int .u8 0)], .agg [.lit (.int .u8 0), .lit (.int .u8 0)], .agg [.lit (.int .u8 0), .lit (.int .u8 0)]]
/-- One of Go's own tables, pinned by name: the form's constant. -/
def laid_unicode_utf8_first : DataW Unit := Go.Pinned.utf8First

/-- 'skeinlaw06.PlainNets': WHATEVER THE INPUT: true; the input reads as it did. -/
def plainNetsSpec : ChangeSpec := { name := "plainNets", fn := fun _ => fun
  | [d1, d2, d3] => { results := [.lit (.bool true)], args := [d1, d2, d3] }
  | _ => none }
def plainNetsRow : OpenClaim := { program := "ythidhdffiebbgaagreatdoor", sum := "b25b5fcd7ec2196d23dd5dface719537f645b61477ea6def21ef7f335b959ccd", func := "skein/skeinlaw06.PlainNets", spec := "plainNets", inPlace := ["internal/bytealg.IndexByteString", "internal/bytealg.IndexString", "math.Float64bits", "math.Float64frombits", "math.archTrunc"], unfollowed := true, recurses := true, named := ["unicode/utf8.first", "unicode/utf8.acceptRanges", "internal/bytealg.MaxLen"], plainKeys := false, apart := false, laid := [("unicode/utf8.acceptRanges", laid_unicode_utf8_acceptRanges), ("unicode/utf8.first", laid_unicode_utf8_first)] }
def PlainNetsSaid : Prop := plainNetsRow.holds Tryz.pinned (OpenSpec.ofChange plainNetsSpec)

/-- ITS FALSE NEIGHBOUR: 'it returns false'. Refute it at one input. -/
def plainNetsWrong : ChangeSpec := { name := "plainNets", fn := fun _ => fun
  | [d1, d2, d3] => { results := [.lit (.bool false)], args := [d1, d2, d3] }
  | _ => none }
def PlainNetsWrongFalsely : Prop := plainNetsRow.holds Tryz.pinned (OpenSpec.ofChange plainNetsWrong)

/-- 'skeinlaw06.PlainForest': WHATEVER THE INPUT: true; the input reads as it did. -/
def plainForestSpec : ChangeSpec := { name := "plainForest", fn := fun _ => fun
  | [d] => { results := [.lit (.bool true)], args := [d] }
  | _ => none }
def plainForestRow : OpenClaim := { program := "ythidhdffiebbgaagreatdoor", sum := "b25b5fcd7ec2196d23dd5dface719537f645b61477ea6def21ef7f335b959ccd", func := "skein/skeinlaw06.PlainForest", spec := "plainForest", inPlace := ["internal/bytealg.IndexByteString", "internal/bytealg.IndexString", "math.Float64bits", "math.Float64frombits", "math.archTrunc"], unfollowed := true, recurses := true, named := ["unicode/utf8.first", "unicode/utf8.acceptRanges", "internal/bytealg.MaxLen"], plainKeys := false, apart := false, laid := [("unicode/utf8.acceptRanges", laid_unicode_utf8_acceptRanges), ("unicode/utf8.first", laid_unicode_utf8_first)] }
def PlainForestSaid : Prop := plainForestRow.holds Tryz.pinned (OpenSpec.ofChange plainForestSpec)

/-- ITS FALSE NEIGHBOUR: 'it returns false'. Refute it at one input. -/
def plainForestWrong : ChangeSpec := { name := "plainForest", fn := fun _ => fun
  | [d] => { results := [.lit (.bool false)], args := [d] }
  | _ => none }
def PlainForestWrongFalsely : Prop := plainForestRow.holds Tryz.pinned (OpenSpec.ofChange plainForestWrong)

/-- 'skeinlaw06.PlainPaths': WHATEVER THE INPUT: true; the input reads as it did. -/
def plainPathsSpec : ChangeSpec := { name := "plainPaths", fn := fun _ => fun
  | [d1, d2, d3] => { results := [.lit (.bool true)], args := [d1, d2, d3] }
  | _ => none }
def plainPathsRow : OpenClaim := { program := "ythidhdffiebbgaagreatdoor", sum := "b25b5fcd7ec2196d23dd5dface719537f645b61477ea6def21ef7f335b959ccd", func := "skein/skeinlaw06.PlainPaths", spec := "plainPaths", inPlace := ["internal/bytealg.IndexByteString", "internal/bytealg.IndexString", "math.Float64bits", "math.Float64frombits", "math.archTrunc"], unfollowed := true, recurses := true, named := ["unicode/utf8.first", "unicode/utf8.acceptRanges", "internal/bytealg.MaxLen"], plainKeys := false, apart := false, laid := [("unicode/utf8.acceptRanges", laid_unicode_utf8_acceptRanges), ("unicode/utf8.first", laid_unicode_utf8_first)] }
def PlainPathsSaid : Prop := plainPathsRow.holds Tryz.pinned (OpenSpec.ofChange plainPathsSpec)

/-- ITS FALSE NEIGHBOUR: 'it returns false'. Refute it at one input. -/
def plainPathsWrong : ChangeSpec := { name := "plainPaths", fn := fun _ => fun
  | [d1, d2, d3] => { results := [.lit (.bool false)], args := [d1, d2, d3] }
  | _ => none }
def PlainPathsWrongFalsely : Prop := plainPathsRow.holds Tryz.pinned (OpenSpec.ofChange plainPathsWrong)

/-- 'skeinlaw06.PlainSpans': WHATEVER THE INPUT: true; the input reads as it did. -/
def plainSpansSpec : ChangeSpec := { name := "plainSpans", fn := fun _ => fun
  | [d1, d2] => { results := [.lit (.bool true)], args := [d1, d2] }
  | _ => none }
def plainSpansRow : OpenClaim := { program := "ythidhdffiebbgaagreatdoor", sum := "b25b5fcd7ec2196d23dd5dface719537f645b61477ea6def21ef7f335b959ccd", func := "skein/skeinlaw06.PlainSpans", spec := "plainSpans", inPlace := ["internal/bytealg.IndexByteString", "internal/bytealg.IndexString", "math.Float64bits", "math.Float64frombits", "math.archTrunc"], unfollowed := true, recurses := true, named := ["unicode/utf8.first", "unicode/utf8.acceptRanges", "internal/bytealg.MaxLen"], plainKeys := false, apart := false, laid := [("unicode/utf8.acceptRanges", laid_unicode_utf8_acceptRanges), ("unicode/utf8.first", laid_unicode_utf8_first)] }
def PlainSpansSaid : Prop := plainSpansRow.holds Tryz.pinned (OpenSpec.ofChange plainSpansSpec)

/-- ITS FALSE NEIGHBOUR: 'it returns false'. Refute it at one input. -/
def plainSpansWrong : ChangeSpec := { name := "plainSpans", fn := fun _ => fun
  | [d1, d2] => { results := [.lit (.bool false)], args := [d1, d2] }
  | _ => none }
def PlainSpansWrongFalsely : Prop := plainSpansRow.holds Tryz.pinned (OpenSpec.ofChange plainSpansWrong)

/-- 'skeinlaw06.PlainTrees': WHATEVER THE INPUT: true; the input reads as it did. -/
def plainTreesSpec : ChangeSpec := { name := "plainTrees", fn := fun _ => fun
  | [d1, d2, d3] => { results := [.lit (.bool true)], args := [d1, d2, d3] }
  | _ => none }
def plainTreesRow : OpenClaim := { program := "ythidhdffiebbgaagreatdoor", sum := "b25b5fcd7ec2196d23dd5dface719537f645b61477ea6def21ef7f335b959ccd", func := "skein/skeinlaw06.PlainTrees", spec := "plainTrees", inPlace := ["internal/bytealg.IndexByteString", "internal/bytealg.IndexString", "math.Float64bits", "math.Float64frombits", "math.archTrunc"], unfollowed := true, recurses := true, named := ["unicode/utf8.first", "unicode/utf8.acceptRanges", "internal/bytealg.MaxLen"], plainKeys := false, apart := false, laid := [("unicode/utf8.acceptRanges", laid_unicode_utf8_acceptRanges), ("unicode/utf8.first", laid_unicode_utf8_first)] }
def PlainTreesSaid : Prop := plainTreesRow.holds Tryz.pinned (OpenSpec.ofChange plainTreesSpec)

/-- ITS FALSE NEIGHBOUR: 'it returns false'. Refute it at one input. -/
def plainTreesWrong : ChangeSpec := { name := "plainTrees", fn := fun _ => fun
  | [d1, d2, d3] => { results := [.lit (.bool false)], args := [d1, d2, d3] }
  | _ => none }
def PlainTreesWrongFalsely : Prop := plainTreesRow.holds Tryz.pinned (OpenSpec.ofChange plainTreesWrong)

/- THE SECOND FORM. 'bulk': how many values and letters a reading holds, each counted each time it is reached (what is shared counts as often as it is met; a slice's spare places count too). A statement '..UptoSaid' is the law's where the arguments, and the package variables that the reading takes, are together of bulk at most 1048576: NARROWER than '..Said'. Prove '..Said' where nothing that the law and all that it calls make is longer than what came in: it says more and counts as full. Else prove '..UptoSaid'. A law counts once. -/
mutual
def uptoBulk {H : Type} : DataW H → Nat
  | .lit (.string bytes) => bytes.length + 1
  | .lit _ => 1
  | .nil => 1
  | .ptr d => uptoBulk d + 1
  | .slice elems spare => uptoBulkAll elems + uptoBulkAll spare + 1
  | .agg parts => uptoBulkAll parts + 1
  | .iface _ d => uptoBulk d + 1
  | .map entries => uptoBulkEntries entries + 1
  | .held _ => 1
def uptoBulkAll {H : Type} : List (DataW H) → Nat
  | [] => 0
  | d :: r => uptoBulk d + uptoBulkAll r
def uptoBulkEntries {H : Type} : List (Lit × DataW H) → Nat
  | [] => 0
  | x :: r => uptoBulkEntry x + uptoBulkEntries r
def uptoBulkEntry {H : Type} : Lit × DataW H → Nat
  | (.string bytes, d) => bytes.length + uptoBulk d + 1
  | (_, d) => uptoBulk d + 1
 end
def uptoSmall : (H : Type) → List (DataW H) → Bool := fun _ ds => decide (uptoBulkAll ds ≤ 1048576)
def OpenSpec.upto (s : _root_.Go.ChangeSpec) : _root_.Go.OpenSpec := { _root_.Go.OpenSpec.ofChange s with cond := some uptoSmall }

/-- 'skeinlaw06.PlainNets', WHERE WHAT IT READS IS OF BULK AT MOST 1048576: true; the input reads as it did. -/
def plainNetsUptoRow : OpenClaim := { program := "ythidhdffiebbgaagreatdoor", sum := "b25b5fcd7ec2196d23dd5dface719537f645b61477ea6def21ef7f335b959ccd", func := "skein/skeinlaw06.PlainNets", spec := "plainNets", inPlace := ["internal/bytealg.IndexByteString", "internal/bytealg.IndexString", "math.Float64bits", "math.Float64frombits", "math.archTrunc"], unfollowed := true, recurses := true, named := ["unicode/utf8.first", "unicode/utf8.acceptRanges", "internal/bytealg.MaxLen"], plainKeys := false, apart := false, laid := [("unicode/utf8.acceptRanges", laid_unicode_utf8_acceptRanges), ("unicode/utf8.first", laid_unicode_utf8_first)], narrowed := true }
def PlainNetsUptoSaid : Prop := plainNetsUptoRow.holds Tryz.pinned (OpenSpec.upto plainNetsSpec)

/-- 'skeinlaw06.PlainForest', WHERE WHAT IT READS IS OF BULK AT MOST 1048576: true; the input reads as it did. -/
def plainForestUptoRow : OpenClaim := { program := "ythidhdffiebbgaagreatdoor", sum := "b25b5fcd7ec2196d23dd5dface719537f645b61477ea6def21ef7f335b959ccd", func := "skein/skeinlaw06.PlainForest", spec := "plainForest", inPlace := ["internal/bytealg.IndexByteString", "internal/bytealg.IndexString", "math.Float64bits", "math.Float64frombits", "math.archTrunc"], unfollowed := true, recurses := true, named := ["unicode/utf8.first", "unicode/utf8.acceptRanges", "internal/bytealg.MaxLen"], plainKeys := false, apart := false, laid := [("unicode/utf8.acceptRanges", laid_unicode_utf8_acceptRanges), ("unicode/utf8.first", laid_unicode_utf8_first)], narrowed := true }
def PlainForestUptoSaid : Prop := plainForestUptoRow.holds Tryz.pinned (OpenSpec.upto plainForestSpec)

/-- 'skeinlaw06.PlainPaths', WHERE WHAT IT READS IS OF BULK AT MOST 1048576: true; the input reads as it did. -/
def plainPathsUptoRow : OpenClaim := { program := "ythidhdffiebbgaagreatdoor", sum := "b25b5fcd7ec2196d23dd5dface719537f645b61477ea6def21ef7f335b959ccd", func := "skein/skeinlaw06.PlainPaths", spec := "plainPaths", inPlace := ["internal/bytealg.IndexByteString", "internal/bytealg.IndexString", "math.Float64bits", "math.Float64frombits", "math.archTrunc"], unfollowed := true, recurses := true, named := ["unicode/utf8.first", "unicode/utf8.acceptRanges", "internal/bytealg.MaxLen"], plainKeys := false, apart := false, laid := [("unicode/utf8.acceptRanges", laid_unicode_utf8_acceptRanges), ("unicode/utf8.first", laid_unicode_utf8_first)], narrowed := true }
def PlainPathsUptoSaid : Prop := plainPathsUptoRow.holds Tryz.pinned (OpenSpec.upto plainPathsSpec)

/-- 'skeinlaw06.PlainSpans', WHERE WHAT IT READS IS OF BULK AT MOST 1048576: true; the input reads as it did. -/
def plainSpansUptoRow : OpenClaim := { program := "ythidhdffiebbgaagreatdoor", sum := "b25b5fcd7ec2196d23dd5dface719537f645b61477ea6def21ef7f335b959ccd", func := "skein/skeinlaw06.PlainSpans", spec := "plainSpans", inPlace := ["internal/bytealg.IndexByteString", "internal/bytealg.IndexString", "math.Float64bits", "math.Float64frombits", "math.archTrunc"], unfollowed := true, recurses := true, named := ["unicode/utf8.first", "unicode/utf8.acceptRanges", "internal/bytealg.MaxLen"], plainKeys := false, apart := false, laid := [("unicode/utf8.acceptRanges", laid_unicode_utf8_acceptRanges), ("unicode/utf8.first", laid_unicode_utf8_first)], narrowed := true }
def PlainSpansUptoSaid : Prop := plainSpansUptoRow.holds Tryz.pinned (OpenSpec.upto plainSpansSpec)

/-- 'skeinlaw06.PlainTrees', WHERE WHAT IT READS IS OF BULK AT MOST 1048576: true; the input reads as it did. -/
def plainTreesUptoRow : OpenClaim := { program := "ythidhdffiebbgaagreatdoor", sum := "b25b5fcd7ec2196d23dd5dface719537f645b61477ea6def21ef7f335b959ccd", func := "skein/skeinlaw06.PlainTrees", spec := "plainTrees", inPlace := ["internal/bytealg.IndexByteString", "internal/bytealg.IndexString", "math.Float64bits", "math.Float64frombits", "math.archTrunc"], unfollowed := true, recurses := true, named := ["unicode/utf8.first", "unicode/utf8.acceptRanges", "internal/bytealg.MaxLen"], plainKeys := false, apart := false, laid := [("unicode/utf8.acceptRanges", laid_unicode_utf8_acceptRanges), ("unicode/utf8.first", laid_unicode_utf8_first)], narrowed := true }
def PlainTreesUptoSaid : Prop := plainTreesUptoRow.holds Tryz.pinned (OpenSpec.upto plainTreesSpec)

end Rows
end Go.Proofs.YthidhdffiebbgaaGreatDoor
