/-
  NARROWER THAN 'FOR EVERY INPUT', by the rows' own cells (each row's printed sentence says how): CacheDirty: laid · CachePlays: laid · CacheAlike: laid · CacheFlush: laid · CacheDies: laid.
  DERIVED. THE GIVEN ROWS OF THIS SEAT. 5 by the template 'for every input the law returns true; each argument reads behind the call as it read before'; 0 by the template 'total and deterministic' (their statements: YthfidlhefkjpdaaGreatDoorTotals.lean).
  GIVEN WITH THE SEED: the statements are not yours to turn. If you find one false, say at which input.
  Laid BY PROGRAM, IN A SANDBOX (cutbox-rows.mjs): the forced cells as the released guide's own fill.sh prints them over the translation ebdebde147795e6e… (all of the seat's roots in one cut). By AI agents, Wed Nov 11 2026. No macro, syntax, notation, axiom, sorry.
-/
import Derived.Test.YthfidlhefkjpdaaGreatDoorChecked
import GoSem.PinnedTables
import GoSem.Claim
import GoSem.ClaimJoined
import GoSem.ClaimMapViews
import Derived.JoinedTies
import Derived.KernelRfl
namespace Go.Proofs.YthfidlhefkjpdaaGreatDoor
/- THE CELL 'sum', in the pinned program and in every row, IS THE sha256 OF THE DUMP (.gsa) THAT YthfidlhefkjpdaaGreatDoorProg.lean LOADS. Nothing in Lean hashes anything: it is a label: what it is worth is what the hold of that sum in a sandbox is worth. -/
noncomputable def Tryz.pinned : Pinned := { name := "ythfidlhefkjpdaagreatdoor", sum := "ebdebde147795e6ef21dd67f707683a0fe5bc1e7092d77be7b1b3ef738ed2e52", checked := Tryz.checked }
namespace Rows
def none {H : Type} : Left H := { results := [], args := [] }

/- WHAT THE LISTED PACKAGE-LEVEL VARIABLES READ AS WHEN THE CALL BEGINS. Each datum BY PROGRAM (the guide's laid-datum.mjs) off the statement by which the dump's own 'gosem.cut.vars' lays the variable. In a bare row this is a premise. The card (YthfidlhefkjpdaaGreatDoorCards.lean) ties it to the program's text. -/
def laid_unicode_utf8_acceptRanges {H : Type} : DataW H := .agg [.agg [.lit (.int .u8 128), .lit (.int .u8 191)], .agg [.lit (.int .u8 160), .lit (.int .u8 191)], .agg [.lit (.int .u8 128), .lit (.int .u8 159)], .agg [.lit (.int .u8 144), .lit (.int .u8 191)], .agg [.lit (.int .u8 128), .lit (.int .u8 143)], .agg [.lit (.int .u8 0), .lit (.int .u8 0)], .agg [.lit (.int .u8 0), .lit (.int .u8 0)], .agg [.lit (.int .u8 0), .lit (.int .u8 0)], .agg [.lit (.int .u8 0), .lit (.int .u8 0)], .agg [.lit (.int .u8 0), .lit (.int .u8 0)], .agg [.lit (.int .u8 0), .lit (.int .u8 0)], .agg [.lit (.int .u8 0), .lit (.int .u8 0)], .agg [.lit (.int .u8 0), .lit (.int .u8 0)], .agg [.lit (.int .u8 0), .lit (.int .u8 0)], .agg [.lit (.int .u8 0), .lit (.int .u8 0)], .agg [.lit (.int .u8 0), .lit (.int .u8 0)]]
/-- One of Go's own tables, pinned by name: the form's constant. -/
def laid_unicode_utf8_first : DataW Unit := Go.Pinned.utf8First

/-- 'skeinlaw10.CacheDirty': WHATEVER THE INPUT: true; the input reads as it did. -/
def cacheDirtySpec : ChangeSpec := { name := "cacheDirty", fn := fun _ => fun
  | [d1, d2] => { results := [.lit (.bool true)], args := [d1, d2] }
  | _ => none }
def cacheDirtyRow : OpenClaim := { program := "ythfidlhefkjpdaagreatdoor", sum := "ebdebde147795e6ef21dd67f707683a0fe5bc1e7092d77be7b1b3ef738ed2e52", func := "skein/skeinlaw10.CacheDirty", spec := "cacheDirty", inPlace := ["slices.overlaps[[]byte]"], unfollowed := true, recurses := true, named := ["unicode/utf8.first", "unicode/utf8.acceptRanges"], apart := false, laid := [("unicode/utf8.acceptRanges", laid_unicode_utf8_acceptRanges), ("unicode/utf8.first", laid_unicode_utf8_first)] }
def CacheDirtySaid : Prop := cacheDirtyRow.holds Tryz.pinned (OpenSpec.ofChange cacheDirtySpec)

/-- ITS FALSE NEIGHBOUR: 'it returns false'. Refute it at one input. -/
def cacheDirtyWrong : ChangeSpec := { name := "cacheDirty", fn := fun _ => fun
  | [d1, d2] => { results := [.lit (.bool false)], args := [d1, d2] }
  | _ => none }
def CacheDirtyWrongFalsely : Prop := cacheDirtyRow.holds Tryz.pinned (OpenSpec.ofChange cacheDirtyWrong)

/-- 'skeinlaw10.CachePlays': WHATEVER THE INPUT: true; the input reads as it did. -/
def cachePlaysSpec : ChangeSpec := { name := "cachePlays", fn := fun _ => fun
  | [d1, d2, d3, d4] => { results := [.lit (.bool true)], args := [d1, d2, d3, d4] }
  | _ => none }
def cachePlaysRow : OpenClaim := { program := "ythfidlhefkjpdaagreatdoor", sum := "ebdebde147795e6ef21dd67f707683a0fe5bc1e7092d77be7b1b3ef738ed2e52", func := "skein/skeinlaw10.CachePlays", spec := "cachePlays", inPlace := ["slices.overlaps[[]byte]"], unfollowed := true, recurses := true, named := ["unicode/utf8.first", "unicode/utf8.acceptRanges"], apart := false, laid := [("unicode/utf8.acceptRanges", laid_unicode_utf8_acceptRanges), ("unicode/utf8.first", laid_unicode_utf8_first)] }
def CachePlaysSaid : Prop := cachePlaysRow.holds Tryz.pinned (OpenSpec.ofChange cachePlaysSpec)

/-- ITS FALSE NEIGHBOUR: 'it returns false'. Refute it at one input. -/
def cachePlaysWrong : ChangeSpec := { name := "cachePlays", fn := fun _ => fun
  | [d1, d2, d3, d4] => { results := [.lit (.bool false)], args := [d1, d2, d3, d4] }
  | _ => none }
def CachePlaysWrongFalsely : Prop := cachePlaysRow.holds Tryz.pinned (OpenSpec.ofChange cachePlaysWrong)

/-- 'skeinlaw10.CacheAlike': WHATEVER THE INPUT: true; the input reads as it did. -/
def cacheAlikeSpec : ChangeSpec := { name := "cacheAlike", fn := fun _ => fun
  | [d1, d2, d3] => { results := [.lit (.bool true)], args := [d1, d2, d3] }
  | _ => none }
def cacheAlikeRow : OpenClaim := { program := "ythfidlhefkjpdaagreatdoor", sum := "ebdebde147795e6ef21dd67f707683a0fe5bc1e7092d77be7b1b3ef738ed2e52", func := "skein/skeinlaw10.CacheAlike", spec := "cacheAlike", inPlace := ["slices.overlaps[[]byte]"], unfollowed := true, recurses := true, named := ["unicode/utf8.first", "unicode/utf8.acceptRanges"], apart := false, laid := [("unicode/utf8.acceptRanges", laid_unicode_utf8_acceptRanges), ("unicode/utf8.first", laid_unicode_utf8_first)] }
def CacheAlikeSaid : Prop := cacheAlikeRow.holds Tryz.pinned (OpenSpec.ofChange cacheAlikeSpec)

/-- ITS FALSE NEIGHBOUR: 'it returns false'. Refute it at one input. -/
def cacheAlikeWrong : ChangeSpec := { name := "cacheAlike", fn := fun _ => fun
  | [d1, d2, d3] => { results := [.lit (.bool false)], args := [d1, d2, d3] }
  | _ => none }
def CacheAlikeWrongFalsely : Prop := cacheAlikeRow.holds Tryz.pinned (OpenSpec.ofChange cacheAlikeWrong)

/-- 'skeinlaw10.CacheFlush': WHATEVER THE INPUT: true; the input reads as it did. -/
def cacheFlushSpec : ChangeSpec := { name := "cacheFlush", fn := fun _ => fun
  | [d1, d2, d3, d4] => { results := [.lit (.bool true)], args := [d1, d2, d3, d4] }
  | _ => none }
def cacheFlushRow : OpenClaim := { program := "ythfidlhefkjpdaagreatdoor", sum := "ebdebde147795e6ef21dd67f707683a0fe5bc1e7092d77be7b1b3ef738ed2e52", func := "skein/skeinlaw10.CacheFlush", spec := "cacheFlush", inPlace := ["slices.overlaps[[]byte]"], unfollowed := true, recurses := true, named := ["unicode/utf8.first", "unicode/utf8.acceptRanges"], apart := false, laid := [("unicode/utf8.acceptRanges", laid_unicode_utf8_acceptRanges), ("unicode/utf8.first", laid_unicode_utf8_first)] }
def CacheFlushSaid : Prop := cacheFlushRow.holds Tryz.pinned (OpenSpec.ofChange cacheFlushSpec)

/-- ITS FALSE NEIGHBOUR: 'it returns false'. Refute it at one input. -/
def cacheFlushWrong : ChangeSpec := { name := "cacheFlush", fn := fun _ => fun
  | [d1, d2, d3, d4] => { results := [.lit (.bool false)], args := [d1, d2, d3, d4] }
  | _ => none }
def CacheFlushWrongFalsely : Prop := cacheFlushRow.holds Tryz.pinned (OpenSpec.ofChange cacheFlushWrong)

/-- 'skeinlaw10.CacheDies': WHATEVER THE INPUT: true; the input reads as it did. -/
def cacheDiesSpec : ChangeSpec := { name := "cacheDies", fn := fun _ => fun
  | [d1, d2, d3, d4, d5] => { results := [.lit (.bool true)], args := [d1, d2, d3, d4, d5] }
  | _ => none }
def cacheDiesRow : OpenClaim := { program := "ythfidlhefkjpdaagreatdoor", sum := "ebdebde147795e6ef21dd67f707683a0fe5bc1e7092d77be7b1b3ef738ed2e52", func := "skein/skeinlaw10.CacheDies", spec := "cacheDies", inPlace := ["slices.overlaps[[]byte]"], unfollowed := true, recurses := true, named := ["unicode/utf8.first", "unicode/utf8.acceptRanges"], apart := false, laid := [("unicode/utf8.acceptRanges", laid_unicode_utf8_acceptRanges), ("unicode/utf8.first", laid_unicode_utf8_first)] }
def CacheDiesSaid : Prop := cacheDiesRow.holds Tryz.pinned (OpenSpec.ofChange cacheDiesSpec)

/-- ITS FALSE NEIGHBOUR: 'it returns false'. Refute it at one input. -/
def cacheDiesWrong : ChangeSpec := { name := "cacheDies", fn := fun _ => fun
  | [d1, d2, d3, d4, d5] => { results := [.lit (.bool false)], args := [d1, d2, d3, d4, d5] }
  | _ => none }
def CacheDiesWrongFalsely : Prop := cacheDiesRow.holds Tryz.pinned (OpenSpec.ofChange cacheDiesWrong)

/- THE SECOND FORM. 'bulk': how many values and letters a reading holds, each counted each time it is reached (what is shared counts as often as it is met; a slice's spare places count too). A statement '..UptoSaid' is the law's where the arguments, and the package variables that the reading takes, are together of bulk at most 1048576: NARROWER than '..Said'. Prove '..Said' where nothing that the law and all that it calls make is longer than what came in: it says more and counts as full. Else prove '..UptoSaid'. A law counts once. -/
mutual
def uptoBulk {H : Type} : DataW H → Nat
  | .lit (.string bytes) => bytes.length + 1
  | .lit _ => 1
  | .nil => 1
  | .ptr d => uptoBulk d + 1
  | .slice elems spare => uptoBulkAll elems + uptoBulkAll spare + 1
  | .agg parts => uptoBulkAll parts + 1
  | .iface _ d => uptoBulk d + 1
  | .map entries => uptoBulkEntries entries + 1
  | .held _ => 1
def uptoBulkAll {H : Type} : List (DataW H) → Nat
  | [] => 0
  | d :: r => uptoBulk d + uptoBulkAll r
def uptoBulkEntries {H : Type} : List (Lit × DataW H) → Nat
  | [] => 0
  | x :: r => uptoBulkEntry x + uptoBulkEntries r
def uptoBulkEntry {H : Type} : Lit × DataW H → Nat
  | (.string bytes, d) => bytes.length + uptoBulk d + 1
  | (_, d) => uptoBulk d + 1
 end
def uptoSmall : (H : Type) → List (DataW H) → Bool := fun _ ds => decide (uptoBulkAll ds ≤ 1048576)
def OpenSpec.upto (s : _root_.Go.ChangeSpec) : _root_.Go.OpenSpec := { _root_.Go.OpenSpec.ofChange s with cond := some uptoSmall }

/-- 'skeinlaw10.CacheDirty', WHERE WHAT IT READS IS OF BULK AT MOST 1048576: true; the input reads as it did. -/
def cacheDirtyUptoRow : OpenClaim := { program := "ythfidlhefkjpdaagreatdoor", sum := "ebdebde147795e6ef21dd67f707683a0fe5bc1e7092d77be7b1b3ef738ed2e52", func := "skein/skeinlaw10.CacheDirty", spec := "cacheDirty", inPlace := ["slices.overlaps[[]byte]"], unfollowed := true, recurses := true, named := ["unicode/utf8.first", "unicode/utf8.acceptRanges"], apart := false, laid := [("unicode/utf8.acceptRanges", laid_unicode_utf8_acceptRanges), ("unicode/utf8.first", laid_unicode_utf8_first)], narrowed := true }
def CacheDirtyUptoSaid : Prop := cacheDirtyUptoRow.holds Tryz.pinned (OpenSpec.upto cacheDirtySpec)

/-- 'skeinlaw10.CachePlays', WHERE WHAT IT READS IS OF BULK AT MOST 1048576: true; the input reads as it did. -/
def cachePlaysUptoRow : OpenClaim := { program := "ythfidlhefkjpdaagreatdoor", sum := "ebdebde147795e6ef21dd67f707683a0fe5bc1e7092d77be7b1b3ef738ed2e52", func := "skein/skeinlaw10.CachePlays", spec := "cachePlays", inPlace := ["slices.overlaps[[]byte]"], unfollowed := true, recurses := true, named := ["unicode/utf8.first", "unicode/utf8.acceptRanges"], apart := false, laid := [("unicode/utf8.acceptRanges", laid_unicode_utf8_acceptRanges), ("unicode/utf8.first", laid_unicode_utf8_first)], narrowed := true }
def CachePlaysUptoSaid : Prop := cachePlaysUptoRow.holds Tryz.pinned (OpenSpec.upto cachePlaysSpec)

/-- 'skeinlaw10.CacheAlike', WHERE WHAT IT READS IS OF BULK AT MOST 1048576: true; the input reads as it did. -/
def cacheAlikeUptoRow : OpenClaim := { program := "ythfidlhefkjpdaagreatdoor", sum := "ebdebde147795e6ef21dd67f707683a0fe5bc1e7092d77be7b1b3ef738ed2e52", func := "skein/skeinlaw10.CacheAlike", spec := "cacheAlike", inPlace := ["slices.overlaps[[]byte]"], unfollowed := true, recurses := true, named := ["unicode/utf8.first", "unicode/utf8.acceptRanges"], apart := false, laid := [("unicode/utf8.acceptRanges", laid_unicode_utf8_acceptRanges), ("unicode/utf8.first", laid_unicode_utf8_first)], narrowed := true }
def CacheAlikeUptoSaid : Prop := cacheAlikeUptoRow.holds Tryz.pinned (OpenSpec.upto cacheAlikeSpec)

/-- 'skeinlaw10.CacheFlush', WHERE WHAT IT READS IS OF BULK AT MOST 1048576: true; the input reads as it did. -/
def cacheFlushUptoRow : OpenClaim := { program := "ythfidlhefkjpdaagreatdoor", sum := "ebdebde147795e6ef21dd67f707683a0fe5bc1e7092d77be7b1b3ef738ed2e52", func := "skein/skeinlaw10.CacheFlush", spec := "cacheFlush", inPlace := ["slices.overlaps[[]byte]"], unfollowed := true, recurses := true, named := ["unicode/utf8.first", "unicode/utf8.acceptRanges"], apart := false, laid := [("unicode/utf8.acceptRanges", laid_unicode_utf8_acceptRanges), ("unicode/utf8.first", laid_unicode_utf8_first)], narrowed := true }
def CacheFlushUptoSaid : Prop := cacheFlushUptoRow.holds Tryz.pinned (OpenSpec.upto cacheFlushSpec)

/-- 'skeinlaw10.CacheDies', WHERE WHAT IT READS IS OF BULK AT MOST 1048576: true; the input reads as it did. -/
def cacheDiesUptoRow : OpenClaim := { program := "ythfidlhefkjpdaagreatdoor", sum := "ebdebde147795e6ef21dd67f707683a0fe5bc1e7092d77be7b1b3ef738ed2e52", func := "skein/skeinlaw10.CacheDies", spec := "cacheDies", inPlace := ["slices.overlaps[[]byte]"], unfollowed := true, recurses := true, named := ["unicode/utf8.first", "unicode/utf8.acceptRanges"], apart := false, laid := [("unicode/utf8.acceptRanges", laid_unicode_utf8_acceptRanges), ("unicode/utf8.first", laid_unicode_utf8_first)], narrowed := true }
def CacheDiesUptoSaid : Prop := cacheDiesUptoRow.holds Tryz.pinned (OpenSpec.upto cacheDiesSpec)

end Rows
end Go.Proofs.YthfidlhefkjpdaaGreatDoor
