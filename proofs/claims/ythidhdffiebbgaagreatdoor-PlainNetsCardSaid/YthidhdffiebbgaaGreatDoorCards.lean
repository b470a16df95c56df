/-
  DERIVED. GIVEN WITH THE SEED: THE CARDS: each row of YthidhdffiebbgaaGreatDoorRows.lean that lists a variable, with what it lists TIED to the program's text (the seventh form; the later family's looks); each row that meets fmt, with fmt's text TOLD by the authors' own Lean function (tested against real Go, not proved from fmt's source: count such statements apart). THE CARD IS WHAT COUNTS. Prove the row's statement (the work); the ties are given (YthidhdffiebbgaaGreatDoorTie.lean); close each card by the builder's one call (the guide's Derived/Test/ToyasCard.lean, 'card_holds'). Laid BY PROGRAM, IN A SANDBOX (cutbox-door.mjs). By AI agents, Wed Nov 11 2026. No macro, syntax, notation, axiom, sorry.
-/
import Derived.Test.YthidhdffiebbgaaGreatDoorRows
import GoSem.ClaimSeven
namespace Go.Proofs.YthidhdffiebbgaaGreatDoor
namespace Rows

/-- THE TIED CARD OF 'skeinlaw06.PlainNets'. -/
def plainNetsCard : Claim7 := { stood := { row := plainNetsRow, standIns := [], harness := (true, "57904f3137111b3009df46ab03a737f2d06d3f98743b88a5906b1a51261afea5"), looks := false }, kinds := [], alts := [], laidByText := true, laidKinds := [.data, .pinned], laidTests := true, laidLooks := .later }
def PlainNetsCardSaid : Prop := Claim7.holds Tryz.pinned (.plain (OpenSpec.ofChange plainNetsSpec)) plainNetsCard

/-- THE TIED CARD OF 'skeinlaw06.PlainForest'. -/
def plainForestCard : Claim7 := { stood := { row := plainForestRow, standIns := [], harness := (true, "57904f3137111b3009df46ab03a737f2d06d3f98743b88a5906b1a51261afea5"), looks := false }, kinds := [], alts := [], laidByText := true, laidKinds := [.data, .pinned], laidTests := true, laidLooks := .later }
def PlainForestCardSaid : Prop := Claim7.holds Tryz.pinned (.plain (OpenSpec.ofChange plainForestSpec)) plainForestCard

/-- THE TIED CARD OF 'skeinlaw06.PlainPaths'. -/
def plainPathsCard : Claim7 := { stood := { row := plainPathsRow, standIns := [], harness := (true, "57904f3137111b3009df46ab03a737f2d06d3f98743b88a5906b1a51261afea5"), looks := false }, kinds := [], alts := [], laidByText := true, laidKinds := [.data, .pinned], laidTests := true, laidLooks := .later }
def PlainPathsCardSaid : Prop := Claim7.holds Tryz.pinned (.plain (OpenSpec.ofChange plainPathsSpec)) plainPathsCard

/-- THE TIED CARD OF 'skeinlaw06.PlainSpans'. -/
def plainSpansCard : Claim7 := { stood := { row := plainSpansRow, standIns := [], harness := (true, "57904f3137111b3009df46ab03a737f2d06d3f98743b88a5906b1a51261afea5"), looks := false }, kinds := [], alts := [], laidByText := true, laidKinds := [.data, .pinned], laidTests := true, laidLooks := .later }
def PlainSpansCardSaid : Prop := Claim7.holds Tryz.pinned (.plain (OpenSpec.ofChange plainSpansSpec)) plainSpansCard

/-- THE TIED CARD OF 'skeinlaw06.PlainTrees'. -/
def plainTreesCard : Claim7 := { stood := { row := plainTreesRow, standIns := [], harness := (true, "57904f3137111b3009df46ab03a737f2d06d3f98743b88a5906b1a51261afea5"), looks := false }, kinds := [], alts := [], laidByText := true, laidKinds := [.data, .pinned], laidTests := true, laidLooks := .later }
def PlainTreesCardSaid : Prop := Claim7.holds Tryz.pinned (.plain (OpenSpec.ofChange plainTreesSpec)) plainTreesCard

/-- THE SECOND FORM's CARD OF 'skeinlaw06.PlainNets'. -/
def plainNetsUptoCard : Claim7 := { stood := { row := plainNetsUptoRow, standIns := [], harness := (true, "57904f3137111b3009df46ab03a737f2d06d3f98743b88a5906b1a51261afea5"), looks := false }, kinds := [], alts := [], laidByText := true, laidKinds := [.data, .pinned], laidTests := true, laidLooks := .later }
def PlainNetsUptoCardSaid : Prop := Claim7.holds Tryz.pinned (.plain (OpenSpec.upto plainNetsSpec)) plainNetsUptoCard

/-- THE SECOND FORM's CARD OF 'skeinlaw06.PlainForest'. -/
def plainForestUptoCard : Claim7 := { stood := { row := plainForestUptoRow, standIns := [], harness := (true, "57904f3137111b3009df46ab03a737f2d06d3f98743b88a5906b1a51261afea5"), looks := false }, kinds := [], alts := [], laidByText := true, laidKinds := [.data, .pinned], laidTests := true, laidLooks := .later }
def PlainForestUptoCardSaid : Prop := Claim7.holds Tryz.pinned (.plain (OpenSpec.upto plainForestSpec)) plainForestUptoCard

/-- THE SECOND FORM's CARD OF 'skeinlaw06.PlainPaths'. -/
def plainPathsUptoCard : Claim7 := { stood := { row := plainPathsUptoRow, standIns := [], harness := (true, "57904f3137111b3009df46ab03a737f2d06d3f98743b88a5906b1a51261afea5"), looks := false }, kinds := [], alts := [], laidByText := true, laidKinds := [.data, .pinned], laidTests := true, laidLooks := .later }
def PlainPathsUptoCardSaid : Prop := Claim7.holds Tryz.pinned (.plain (OpenSpec.upto plainPathsSpec)) plainPathsUptoCard

/-- THE SECOND FORM's CARD OF 'skeinlaw06.PlainSpans'. -/
def plainSpansUptoCard : Claim7 := { stood := { row := plainSpansUptoRow, standIns := [], harness := (true, "57904f3137111b3009df46ab03a737f2d06d3f98743b88a5906b1a51261afea5"), looks := false }, kinds := [], alts := [], laidByText := true, laidKinds := [.data, .pinned], laidTests := true, laidLooks := .later }
def PlainSpansUptoCardSaid : Prop := Claim7.holds Tryz.pinned (.plain (OpenSpec.upto plainSpansSpec)) plainSpansUptoCard

/-- THE SECOND FORM's CARD OF 'skeinlaw06.PlainTrees'. -/
def plainTreesUptoCard : Claim7 := { stood := { row := plainTreesUptoRow, standIns := [], harness := (true, "57904f3137111b3009df46ab03a737f2d06d3f98743b88a5906b1a51261afea5"), looks := false }, kinds := [], alts := [], laidByText := true, laidKinds := [.data, .pinned], laidTests := true, laidLooks := .later }
def PlainTreesUptoCardSaid : Prop := Claim7.holds Tryz.pinned (.plain (OpenSpec.upto plainTreesSpec)) plainTreesUptoCard
end Rows
end Go.Proofs.YthidhdffiebbgaaGreatDoor
