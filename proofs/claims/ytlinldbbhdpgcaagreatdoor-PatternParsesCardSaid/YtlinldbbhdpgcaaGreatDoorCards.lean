/-
  DERIVED. GIVEN WITH THE SEED: THE CARDS: each row of YtlinldbbhdpgcaaGreatDoorRows.lean that lists a variable, with what it lists TIED to the program's text (the seventh form; the later family's looks); each row that meets fmt, with fmt's text TOLD by the authors' own Lean function (tested against real Go, not proved from fmt's source: count such statements apart). THE CARD IS WHAT COUNTS. Prove the row's statement (the work); the ties are given (YtlinldbbhdpgcaaGreatDoorTie.lean); close each card by the builder's one call (the guide's Derived/Test/ToyasCard.lean, 'card_holds'). Laid BY PROGRAM, IN A SANDBOX (cutbox-door.mjs). By AI agents, Wed Nov 11 2026. No macro, syntax, notation, axiom, sorry.
-/
import Derived.Test.YtlinldbbhdpgcaaGreatDoorRows
import GoSem.ClaimSeven
namespace Go.Proofs.YtlinldbbhdpgcaaGreatDoor
namespace Rows

/-- THE TIED CARD OF 'linoleumtop.TopPatterns'. -/
def topPatternsCard : Claim7 := { stood := { row := topPatternsRow, standIns := [], harness := (true, "98f0700aa593c2c9944363ed3a6744edc09e53424833faaa429b6e56699dc911"), looks := true }, kinds := [], alts := [], laidByText := true, laidKinds := [.data, .data, .data, .data, .sentinel, .sentinel, .pinned], laidTests := true, laidLooks := .later }
def TopPatternsCardSaid : Prop := Claim7.holds Tryz.pinned (.plain (OpenSpec.ofChange topPatternsSpec)) topPatternsCard

/-- THE TIED CARD OF 'linoleumlaw05.PatternParses'. -/
def patternParsesCard : Claim7 := { stood := { row := patternParsesRow, standIns := [], harness := (true, "98f0700aa593c2c9944363ed3a6744edc09e53424833faaa429b6e56699dc911"), looks := true }, kinds := [], alts := [], laidByText := true, laidKinds := [.data, .data, .data, .data, .sentinel, .sentinel, .pinned], laidTests := true, laidLooks := .later }
def PatternParsesCardSaid : Prop := Claim7.holds Tryz.pinned (.plain (OpenSpec.ofChange patternParsesSpec)) patternParsesCard

/-- THE TIED CARD OF 'linoleumlaw05.PatternFormats'. -/
def patternFormatsCard : Claim7 := { stood := { row := patternFormatsRow, standIns := [], harness := (true, "98f0700aa593c2c9944363ed3a6744edc09e53424833faaa429b6e56699dc911"), looks := true }, kinds := [], alts := [], laidByText := true, laidKinds := [.data, .data, .data, .data, .sentinel, .sentinel, .pinned], laidTests := true, laidLooks := .later }
def PatternFormatsCardSaid : Prop := Claim7.holds Tryz.pinned (.plain (OpenSpec.ofChange patternFormatsSpec)) patternFormatsCard

/-- THE SECOND FORM's CARD OF 'linoleumtop.TopPatterns'. -/
def topPatternsUptoCard : Claim7 := { stood := { row := topPatternsUptoRow, standIns := [], harness := (true, "98f0700aa593c2c9944363ed3a6744edc09e53424833faaa429b6e56699dc911"), looks := true }, kinds := [], alts := [], laidByText := true, laidKinds := [.data, .data, .data, .data, .sentinel, .sentinel, .pinned], laidTests := true, laidLooks := .later }
def TopPatternsUptoCardSaid : Prop := Claim7.holds Tryz.pinned (.plain (OpenSpec.upto topPatternsSpec)) topPatternsUptoCard

/-- THE SECOND FORM's CARD OF 'linoleumlaw05.PatternParses'. -/
def patternParsesUptoCard : Claim7 := { stood := { row := patternParsesUptoRow, standIns := [], harness := (true, "98f0700aa593c2c9944363ed3a6744edc09e53424833faaa429b6e56699dc911"), looks := true }, kinds := [], alts := [], laidByText := true, laidKinds := [.data, .data, .data, .data, .sentinel, .sentinel, .pinned], laidTests := true, laidLooks := .later }
def PatternParsesUptoCardSaid : Prop := Claim7.holds Tryz.pinned (.plain (OpenSpec.upto patternParsesSpec)) patternParsesUptoCard

/-- THE SECOND FORM's CARD OF 'linoleumlaw05.PatternFormats'. -/
def patternFormatsUptoCard : Claim7 := { stood := { row := patternFormatsUptoRow, standIns := [], harness := (true, "98f0700aa593c2c9944363ed3a6744edc09e53424833faaa429b6e56699dc911"), looks := true }, kinds := [], alts := [], laidByText := true, laidKinds := [.data, .data, .data, .data, .sentinel, .sentinel, .pinned], laidTests := true, laidLooks := .later }
def PatternFormatsUptoCardSaid : Prop := Claim7.holds Tryz.pinned (.plain (OpenSpec.upto patternFormatsSpec)) patternFormatsUptoCard
end Rows
end Go.Proofs.YtlinldbbhdpgcaaGreatDoor
