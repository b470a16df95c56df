/-
  DERIVED. GIVEN WITH THE SEED: THE CARDS: each row of YthfidlhefkjpdaaGreatDoorRows.lean that lists a variable, with what it lists TIED to the program's text (the seventh form; the later family's looks); each row that meets fmt, with fmt's text TOLD by the authors' own Lean function (tested against real Go, not proved from fmt's source: count such statements apart). THE CARD IS WHAT COUNTS. Prove the row's statement (the work); the ties are given (YthfidlhefkjpdaaGreatDoorTie.lean); close each card by the builder's one call (the guide's Derived/Test/ToyasCard.lean, 'card_holds'). Laid BY PROGRAM, IN A SANDBOX (cutbox-door.mjs). By AI agents, Wed Nov 11 2026. No macro, syntax, notation, axiom, sorry.
-/
import Derived.Test.YthfidlhefkjpdaaGreatDoorRows
import GoSem.ClaimSeven
namespace Go.Proofs.YthfidlhefkjpdaaGreatDoor
namespace Rows

/-- THE TIED CARD OF 'skeinlaw10.CacheDirty'. -/
def cacheDirtyCard : Claim7 := { stood := { row := cacheDirtyRow, standIns := [], harness := (true, "2810cbce2d18f1677c9ecd3f73b1fbdbeb35012674256c037e22ef2a8513aadf"), looks := false }, kinds := [], alts := [], laidByText := true, laidKinds := [.data, .pinned], laidTests := true, laidLooks := .later }
def CacheDirtyCardSaid : Prop := Claim7.holds Tryz.pinned (.plain (OpenSpec.ofChange cacheDirtySpec)) cacheDirtyCard

/-- THE TIED CARD OF 'skeinlaw10.CachePlays'. -/
def cachePlaysCard : Claim7 := { stood := { row := cachePlaysRow, standIns := [], harness := (true, "2810cbce2d18f1677c9ecd3f73b1fbdbeb35012674256c037e22ef2a8513aadf"), looks := false }, kinds := [], alts := [], laidByText := true, laidKinds := [.data, .pinned], laidTests := true, laidLooks := .later }
def CachePlaysCardSaid : Prop := Claim7.holds Tryz.pinned (.plain (OpenSpec.ofChange cachePlaysSpec)) cachePlaysCard

/-- THE TIED CARD OF 'skeinlaw10.CacheAlike'. -/
def cacheAlikeCard : Claim7 := { stood := { row := cacheAlikeRow, standIns := [], harness := (true, "2810cbce2d18f1677c9ecd3f73b1fbdbeb35012674256c037e22ef2a8513aadf"), looks := false }, kinds := [], alts := [], laidByText := true, laidKinds := [.data, .pinned], laidTests := true, laidLooks := .later }
def CacheAlikeCardSaid : Prop := Claim7.holds Tryz.pinned (.plain (OpenSpec.ofChange cacheAlikeSpec)) cacheAlikeCard

/-- THE TIED CARD OF 'skeinlaw10.CacheFlush'. -/
def cacheFlushCard : Claim7 := { stood := { row := cacheFlushRow, standIns := [], harness := (true, "2810cbce2d18f1677c9ecd3f73b1fbdbeb35012674256c037e22ef2a8513aadf"), looks := false }, kinds := [], alts := [], laidByText := true, laidKinds := [.data, .pinned], laidTests := true, laidLooks := .later }
def CacheFlushCardSaid : Prop := Claim7.holds Tryz.pinned (.plain (OpenSpec.ofChange cacheFlushSpec)) cacheFlushCard

/-- THE TIED CARD OF 'skeinlaw10.CacheDies'. -/
def cacheDiesCard : Claim7 := { stood := { row := cacheDiesRow, standIns := [], harness := (true, "2810cbce2d18f1677c9ecd3f73b1fbdbeb35012674256c037e22ef2a8513aadf"), looks := false }, kinds := [], alts := [], laidByText := true, laidKinds := [.data, .pinned], laidTests := true, laidLooks := .later }
def CacheDiesCardSaid : Prop := Claim7.holds Tryz.pinned (.plain (OpenSpec.ofChange cacheDiesSpec)) cacheDiesCard

/-- THE SECOND FORM's CARD OF 'skeinlaw10.CacheDirty'. -/
def cacheDirtyUptoCard : Claim7 := { stood := { row := cacheDirtyUptoRow, standIns := [], harness := (true, "2810cbce2d18f1677c9ecd3f73b1fbdbeb35012674256c037e22ef2a8513aadf"), looks := false }, kinds := [], alts := [], laidByText := true, laidKinds := [.data, .pinned], laidTests := true, laidLooks := .later }
def CacheDirtyUptoCardSaid : Prop := Claim7.holds Tryz.pinned (.plain (OpenSpec.upto cacheDirtySpec)) cacheDirtyUptoCard

/-- THE SECOND FORM's CARD OF 'skeinlaw10.CachePlays'. -/
def cachePlaysUptoCard : Claim7 := { stood := { row := cachePlaysUptoRow, standIns := [], harness := (true, "2810cbce2d18f1677c9ecd3f73b1fbdbeb35012674256c037e22ef2a8513aadf"), looks := false }, kinds := [], alts := [], laidByText := true, laidKinds := [.data, .pinned], laidTests := true, laidLooks := .later }
def CachePlaysUptoCardSaid : Prop := Claim7.holds Tryz.pinned (.plain (OpenSpec.upto cachePlaysSpec)) cachePlaysUptoCard

/-- THE SECOND FORM's CARD OF 'skeinlaw10.CacheAlike'. -/
def cacheAlikeUptoCard : Claim7 := { stood := { row := cacheAlikeUptoRow, standIns := [], harness := (true, "2810cbce2d18f1677c9ecd3f73b1fbdbeb35012674256c037e22ef2a8513aadf"), looks := false }, kinds := [], alts := [], laidByText := true, laidKinds := [.data, .pinned], laidTests := true, laidLooks := .later }
def CacheAlikeUptoCardSaid : Prop := Claim7.holds Tryz.pinned (.plain (OpenSpec.upto cacheAlikeSpec)) cacheAlikeUptoCard

/-- THE SECOND FORM's CARD OF 'skeinlaw10.CacheFlush'. -/
def cacheFlushUptoCard : Claim7 := { stood := { row := cacheFlushUptoRow, standIns := [], harness := (true, "2810cbce2d18f1677c9ecd3f73b1fbdbeb35012674256c037e22ef2a8513aadf"), looks := false }, kinds := [], alts := [], laidByText := true, laidKinds := [.data, .pinned], laidTests := true, laidLooks := .later }
def CacheFlushUptoCardSaid : Prop := Claim7.holds Tryz.pinned (.plain (OpenSpec.upto cacheFlushSpec)) cacheFlushUptoCard

/-- THE SECOND FORM's CARD OF 'skeinlaw10.CacheDies'. -/
def cacheDiesUptoCard : Claim7 := { stood := { row := cacheDiesUptoRow, standIns := [], harness := (true, "2810cbce2d18f1677c9ecd3f73b1fbdbeb35012674256c037e22ef2a8513aadf"), looks := false }, kinds := [], alts := [], laidByText := true, laidKinds := [.data, .pinned], laidTests := true, laidLooks := .later }
def CacheDiesUptoCardSaid : Prop := Claim7.holds Tryz.pinned (.plain (OpenSpec.upto cacheDiesSpec)) cacheDiesUptoCard
end Rows
end Go.Proofs.YthfidlhefkjpdaaGreatDoor
