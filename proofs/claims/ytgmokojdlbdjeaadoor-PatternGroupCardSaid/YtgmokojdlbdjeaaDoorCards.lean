/-
  DERIVED. GIVEN WITH THE SEED: THE CARDS: each row of YtgmokojdlbdjeaaDoorRows.lean that lists a variable, with what it lists TIED to the program's text (the seventh form; the later family's looks); each row that meets fmt, with fmt's text TOLD by the authors' own Lean function (tested against real Go, not proved from fmt's source: count such statements apart). THE CARD IS WHAT COUNTS. Prove the row's statement (the work); the ties are given (YtgmokojdlbdjeaaDoorTie.lean); close each card by the builder's one call (the guide's Derived/Test/ToyasCard.lean, 'card_holds'). Laid BY PROGRAM, IN A SANDBOX (cutbox-door.mjs). By AI agents, Wed Nov 11 2026. No macro, syntax, notation, axiom, sorry.
-/
import Derived.Test.YtgmokojdlbdjeaaDoorRows
import GoSem.ClaimSeven
namespace Go.Proofs.YtgmokojdlbdjeaaDoor
namespace Rows

/-- THE TIED CARD OF 'linoleumlaw05.PatternGroup'. -/
def patternGroupCard : Claim7 := { stood := { row := patternGroupRow, standIns := [], harness := (true, "f49457aa100c5a0a2f7ca07ade73fd723d754b467035187033ca0e04a3441d4e"), looks := true }, kinds := [], alts := [], laidByText := true, laidKinds := [.data, .data, .data, .data, .sentinel, .sentinel, .pinned], laidTests := true, laidLooks := .later }
def PatternGroupCardSaid : Prop := Claim7.holds Tryd.pinned (.plain (OpenSpec.ofChange patternGroupSpec)) patternGroupCard

/-- THE SECOND FORM's CARD OF 'linoleumlaw05.PatternGroup'. -/
def patternGroupUptoCard : Claim7 := { stood := { row := patternGroupUptoRow, standIns := [], harness := (true, "f49457aa100c5a0a2f7ca07ade73fd723d754b467035187033ca0e04a3441d4e"), looks := true }, kinds := [], alts := [], laidByText := true, laidKinds := [.data, .data, .data, .data, .sentinel, .sentinel, .pinned], laidTests := true, laidLooks := .later }
def PatternGroupUptoCardSaid : Prop := Claim7.holds Tryd.pinned (.plain (OpenSpec.upto patternGroupSpec)) patternGroupUptoCard
end Rows
end Go.Proofs.YtgmokojdlbdjeaaDoor
