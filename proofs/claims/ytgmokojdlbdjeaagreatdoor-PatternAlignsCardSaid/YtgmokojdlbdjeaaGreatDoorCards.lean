/-
  DERIVED. GIVEN WITH THE SEED: THE CARDS: each row of YtgmokojdlbdjeaaGreatDoorRows.lean that lists a variable, with what it lists TIED to the program's text (the seventh form; the later family's looks); each row that meets fmt, with fmt's text TOLD by the authors' own Lean function (tested against real Go, not proved from fmt's source: count such statements apart). THE CARD IS WHAT COUNTS. Prove the row's statement (the work); the ties are given (YtgmokojdlbdjeaaGreatDoorTie.lean); close each card by the builder's one call (the guide's Derived/Test/ToyasCard.lean, 'card_holds'). Laid BY PROGRAM, IN A SANDBOX (cutbox-door.mjs). By AI agents, Wed Nov 11 2026. No macro, syntax, notation, axiom, sorry.
-/
import Derived.Test.YtgmokojdlbdjeaaGreatDoorRows
import GoSem.ClaimSeven
namespace Go.Proofs.YtgmokojdlbdjeaaGreatDoor
namespace Rows

/-- THE TIED CARD OF 'linoleumlaw05.PatternLeasts'. -/
def patternLeastsCard : Claim7 := { stood := { row := patternLeastsRow, standIns := [], harness := (true, "811231e52a28eed5be6e76e08a37fcc1e952f82fce609c43d2ae971fc698fe67"), looks := true }, kinds := [], alts := [], laidByText := true, laidKinds := [.data, .data, .data, .data, .sentinel, .sentinel, .pinned], laidTests := true, laidLooks := .later }
def PatternLeastsCardSaid : Prop := Claim7.holds Tryz.pinned (.plain (OpenSpec.ofChange patternLeastsSpec)) patternLeastsCard

/-- THE TIED CARD OF 'linoleumlaw05.PatternShifts'. -/
def patternShiftsCard : Claim7 := { stood := { row := patternShiftsRow, standIns := [], harness := (true, "811231e52a28eed5be6e76e08a37fcc1e952f82fce609c43d2ae971fc698fe67"), looks := true }, kinds := [], alts := [], laidByText := true, laidKinds := [.data, .data, .data, .data, .sentinel, .sentinel, .pinned], laidTests := true, laidLooks := .later }
def PatternShiftsCardSaid : Prop := Claim7.holds Tryz.pinned (.plain (OpenSpec.ofChange patternShiftsSpec)) patternShiftsCard

/-- THE TIED CARD OF 'linoleumlaw05.PatternTurns'. -/
def patternTurnsCard : Claim7 := { stood := { row := patternTurnsRow, standIns := [], harness := (true, "811231e52a28eed5be6e76e08a37fcc1e952f82fce609c43d2ae971fc698fe67"), looks := true }, kinds := [], alts := [], laidByText := true, laidKinds := [.data, .data, .data, .data, .sentinel, .sentinel, .pinned], laidTests := true, laidLooks := .later }
def PatternTurnsCardSaid : Prop := Claim7.holds Tryz.pinned (.plain (OpenSpec.ofChange patternTurnsSpec)) patternTurnsCard

/-- THE TIED CARD OF 'linoleumlaw05.PatternOvers'. -/
def patternOversCard : Claim7 := { stood := { row := patternOversRow, standIns := [], harness := (true, "811231e52a28eed5be6e76e08a37fcc1e952f82fce609c43d2ae971fc698fe67"), looks := true }, kinds := [], alts := [], laidByText := true, laidKinds := [.data, .data, .data, .data, .sentinel, .sentinel, .pinned], laidTests := true, laidLooks := .later }
def PatternOversCardSaid : Prop := Claim7.holds Tryz.pinned (.plain (OpenSpec.ofChange patternOversSpec)) patternOversCard

/-- THE TIED CARD OF 'linoleumlaw05.PatternSwells'. -/
def patternSwellsCard : Claim7 := { stood := { row := patternSwellsRow, standIns := [], harness := (true, "811231e52a28eed5be6e76e08a37fcc1e952f82fce609c43d2ae971fc698fe67"), looks := true }, kinds := [], alts := [], laidByText := true, laidKinds := [.data, .data, .data, .data, .sentinel, .sentinel, .pinned], laidTests := true, laidLooks := .later }
def PatternSwellsCardSaid : Prop := Claim7.holds Tryz.pinned (.plain (OpenSpec.ofChange patternSwellsSpec)) patternSwellsCard

/-- THE TIED CARD OF 'linoleumlaw05.PatternParses'. -/
def patternParsesCard : Claim7 := { stood := { row := patternParsesRow, standIns := [], harness := (true, "811231e52a28eed5be6e76e08a37fcc1e952f82fce609c43d2ae971fc698fe67"), looks := true }, kinds := [], alts := [], laidByText := true, laidKinds := [.data, .data, .data, .data, .sentinel, .sentinel, .pinned], laidTests := true, laidLooks := .later }
def PatternParsesCardSaid : Prop := Claim7.holds Tryz.pinned (.plain (OpenSpec.ofChange patternParsesSpec)) patternParsesCard

/-- THE TIED CARD OF 'linoleumlaw05.PatternColors'. -/
def patternColorsCard : Claim7 := { stood := { row := patternColorsRow, standIns := [], harness := (true, "811231e52a28eed5be6e76e08a37fcc1e952f82fce609c43d2ae971fc698fe67"), looks := true }, kinds := [], alts := [], laidByText := true, laidKinds := [.data, .data, .data, .data, .sentinel, .sentinel, .pinned], laidTests := true, laidLooks := .later }
def PatternColorsCardSaid : Prop := Claim7.holds Tryz.pinned (.plain (OpenSpec.ofChange patternColorsSpec)) patternColorsCard

/-- THE TIED CARD OF 'linoleumlaw05.PatternSames'. -/
def patternSamesCard : Claim7 := { stood := { row := patternSamesRow, standIns := [], harness := (true, "811231e52a28eed5be6e76e08a37fcc1e952f82fce609c43d2ae971fc698fe67"), looks := true }, kinds := [], alts := [], laidByText := true, laidKinds := [.data, .data, .data, .data, .sentinel, .sentinel, .pinned], laidTests := true, laidLooks := .later }
def PatternSamesCardSaid : Prop := Claim7.holds Tryz.pinned (.plain (OpenSpec.ofChange patternSamesSpec)) patternSamesCard

/-- THE TIED CARD OF 'linoleumlaw05.PatternPeriods'. -/
def patternPeriodsCard : Claim7 := { stood := { row := patternPeriodsRow, standIns := [], harness := (true, "811231e52a28eed5be6e76e08a37fcc1e952f82fce609c43d2ae971fc698fe67"), looks := true }, kinds := [], alts := [], laidByText := true, laidKinds := [.data, .data, .data, .data, .sentinel, .sentinel, .pinned], laidTests := true, laidLooks := .later }
def PatternPeriodsCardSaid : Prop := Claim7.holds Tryz.pinned (.plain (OpenSpec.ofChange patternPeriodsSpec)) patternPeriodsCard

/-- THE TIED CARD OF 'linoleumlaw05.PatternAligns'. -/
def patternAlignsCard : Claim7 := { stood := { row := patternAlignsRow, standIns := [], harness := (true, "811231e52a28eed5be6e76e08a37fcc1e952f82fce609c43d2ae971fc698fe67"), looks := true }, kinds := [], alts := [], laidByText := true, laidKinds := [.data, .data, .data, .data, .sentinel, .sentinel, .pinned], laidTests := true, laidLooks := .later }
def PatternAlignsCardSaid : Prop := Claim7.holds Tryz.pinned (.plain (OpenSpec.ofChange patternAlignsSpec)) patternAlignsCard

/-- THE TIED CARD OF 'linoleumlaw05.PatternFormats'. -/
def patternFormatsCard : Claim7 := { stood := { row := patternFormatsRow, standIns := [], harness := (true, "811231e52a28eed5be6e76e08a37fcc1e952f82fce609c43d2ae971fc698fe67"), looks := true }, kinds := [], alts := [], laidByText := true, laidKinds := [.data, .data, .data, .data, .sentinel, .sentinel, .pinned], laidTests := true, laidLooks := .later }
def PatternFormatsCardSaid : Prop := Claim7.holds Tryz.pinned (.plain (OpenSpec.ofChange patternFormatsSpec)) patternFormatsCard

/-- THE TIED CARD OF 'linoleumlaw05.PatternMeasures'. -/
def patternMeasuresCard : Claim7 := { stood := { row := patternMeasuresRow, standIns := [], harness := (true, "811231e52a28eed5be6e76e08a37fcc1e952f82fce609c43d2ae971fc698fe67"), looks := true }, kinds := [], alts := [], laidByText := true, laidKinds := [.data, .data, .data, .data, .sentinel, .sentinel, .pinned], laidTests := true, laidLooks := .later }
def PatternMeasuresCardSaid : Prop := Claim7.holds Tryz.pinned (.plain (OpenSpec.ofChange patternMeasuresSpec)) patternMeasuresCard

/-- THE SECOND FORM's CARD OF 'linoleumlaw05.PatternLeasts'. -/
def patternLeastsUptoCard : Claim7 := { stood := { row := patternLeastsUptoRow, standIns := [], harness := (true, "811231e52a28eed5be6e76e08a37fcc1e952f82fce609c43d2ae971fc698fe67"), looks := true }, kinds := [], alts := [], laidByText := true, laidKinds := [.data, .data, .data, .data, .sentinel, .sentinel, .pinned], laidTests := true, laidLooks := .later }
def PatternLeastsUptoCardSaid : Prop := Claim7.holds Tryz.pinned (.plain (OpenSpec.upto patternLeastsSpec)) patternLeastsUptoCard

/-- THE SECOND FORM's CARD OF 'linoleumlaw05.PatternShifts'. -/
def patternShiftsUptoCard : Claim7 := { stood := { row := patternShiftsUptoRow, standIns := [], harness := (true, "811231e52a28eed5be6e76e08a37fcc1e952f82fce609c43d2ae971fc698fe67"), looks := true }, kinds := [], alts := [], laidByText := true, laidKinds := [.data, .data, .data, .data, .sentinel, .sentinel, .pinned], laidTests := true, laidLooks := .later }
def PatternShiftsUptoCardSaid : Prop := Claim7.holds Tryz.pinned (.plain (OpenSpec.upto patternShiftsSpec)) patternShiftsUptoCard

/-- THE SECOND FORM's CARD OF 'linoleumlaw05.PatternTurns'. -/
def patternTurnsUptoCard : Claim7 := { stood := { row := patternTurnsUptoRow, standIns := [], harness := (true, "811231e52a28eed5be6e76e08a37fcc1e952f82fce609c43d2ae971fc698fe67"), looks := true }, kinds := [], alts := [], laidByText := true, laidKinds := [.data, .data, .data, .data, .sentinel, .sentinel, .pinned], laidTests := true, laidLooks := .later }
def PatternTurnsUptoCardSaid : Prop := Claim7.holds Tryz.pinned (.plain (OpenSpec.upto patternTurnsSpec)) patternTurnsUptoCard

/-- THE SECOND FORM's CARD OF 'linoleumlaw05.PatternOvers'. -/
def patternOversUptoCard : Claim7 := { stood := { row := patternOversUptoRow, standIns := [], harness := (true, "811231e52a28eed5be6e76e08a37fcc1e952f82fce609c43d2ae971fc698fe67"), looks := true }, kinds := [], alts := [], laidByText := true, laidKinds := [.data, .data, .data, .data, .sentinel, .sentinel, .pinned], laidTests := true, laidLooks := .later }
def PatternOversUptoCardSaid : Prop := Claim7.holds Tryz.pinned (.plain (OpenSpec.upto patternOversSpec)) patternOversUptoCard

/-- THE SECOND FORM's CARD OF 'linoleumlaw05.PatternSwells'. -/
def patternSwellsUptoCard : Claim7 := { stood := { row := patternSwellsUptoRow, standIns := [], harness := (true, "811231e52a28eed5be6e76e08a37fcc1e952f82fce609c43d2ae971fc698fe67"), looks := true }, kinds := [], alts := [], laidByText := true, laidKinds := [.data, .data, .data, .data, .sentinel, .sentinel, .pinned], laidTests := true, laidLooks := .later }
def PatternSwellsUptoCardSaid : Prop := Claim7.holds Tryz.pinned (.plain (OpenSpec.upto patternSwellsSpec)) patternSwellsUptoCard

/-- THE SECOND FORM's CARD OF 'linoleumlaw05.PatternParses'. -/
def patternParsesUptoCard : Claim7 := { stood := { row := patternParsesUptoRow, standIns := [], harness := (true, "811231e52a28eed5be6e76e08a37fcc1e952f82fce609c43d2ae971fc698fe67"), looks := true }, kinds := [], alts := [], laidByText := true, laidKinds := [.data, .data, .data, .data, .sentinel, .sentinel, .pinned], laidTests := true, laidLooks := .later }
def PatternParsesUptoCardSaid : Prop := Claim7.holds Tryz.pinned (.plain (OpenSpec.upto patternParsesSpec)) patternParsesUptoCard

/-- THE SECOND FORM's CARD OF 'linoleumlaw05.PatternColors'. -/
def patternColorsUptoCard : Claim7 := { stood := { row := patternColorsUptoRow, standIns := [], harness := (true, "811231e52a28eed5be6e76e08a37fcc1e952f82fce609c43d2ae971fc698fe67"), looks := true }, kinds := [], alts := [], laidByText := true, laidKinds := [.data, .data, .data, .data, .sentinel, .sentinel, .pinned], laidTests := true, laidLooks := .later }
def PatternColorsUptoCardSaid : Prop := Claim7.holds Tryz.pinned (.plain (OpenSpec.upto patternColorsSpec)) patternColorsUptoCard

/-- THE SECOND FORM's CARD OF 'linoleumlaw05.PatternSames'. -/
def patternSamesUptoCard : Claim7 := { stood := { row := patternSamesUptoRow, standIns := [], harness := (true, "811231e52a28eed5be6e76e08a37fcc1e952f82fce609c43d2ae971fc698fe67"), looks := true }, kinds := [], alts := [], laidByText := true, laidKinds := [.data, .data, .data, .data, .sentinel, .sentinel, .pinned], laidTests := true, laidLooks := .later }
def PatternSamesUptoCardSaid : Prop := Claim7.holds Tryz.pinned (.plain (OpenSpec.upto patternSamesSpec)) patternSamesUptoCard

/-- THE SECOND FORM's CARD OF 'linoleumlaw05.PatternPeriods'. -/
def patternPeriodsUptoCard : Claim7 := { stood := { row := patternPeriodsUptoRow, standIns := [], harness := (true, "811231e52a28eed5be6e76e08a37fcc1e952f82fce609c43d2ae971fc698fe67"), looks := true }, kinds := [], alts := [], laidByText := true, laidKinds := [.data, .data, .data, .data, .sentinel, .sentinel, .pinned], laidTests := true, laidLooks := .later }
def PatternPeriodsUptoCardSaid : Prop := Claim7.holds Tryz.pinned (.plain (OpenSpec.upto patternPeriodsSpec)) patternPeriodsUptoCard

/-- THE SECOND FORM's CARD OF 'linoleumlaw05.PatternAligns'. -/
def patternAlignsUptoCard : Claim7 := { stood := { row := patternAlignsUptoRow, standIns := [], harness := (true, "811231e52a28eed5be6e76e08a37fcc1e952f82fce609c43d2ae971fc698fe67"), looks := true }, kinds := [], alts := [], laidByText := true, laidKinds := [.data, .data, .data, .data, .sentinel, .sentinel, .pinned], laidTests := true, laidLooks := .later }
def PatternAlignsUptoCardSaid : Prop := Claim7.holds Tryz.pinned (.plain (OpenSpec.upto patternAlignsSpec)) patternAlignsUptoCard

/-- THE SECOND FORM's CARD OF 'linoleumlaw05.PatternFormats'. -/
def patternFormatsUptoCard : Claim7 := { stood := { row := patternFormatsUptoRow, standIns := [], harness := (true, "811231e52a28eed5be6e76e08a37fcc1e952f82fce609c43d2ae971fc698fe67"), looks := true }, kinds := [], alts := [], laidByText := true, laidKinds := [.data, .data, .data, .data, .sentinel, .sentinel, .pinned], laidTests := true, laidLooks := .later }
def PatternFormatsUptoCardSaid : Prop := Claim7.holds Tryz.pinned (.plain (OpenSpec.upto patternFormatsSpec)) patternFormatsUptoCard

/-- THE SECOND FORM's CARD OF 'linoleumlaw05.PatternMeasures'. -/
def patternMeasuresUptoCard : Claim7 := { stood := { row := patternMeasuresUptoRow, standIns := [], harness := (true, "811231e52a28eed5be6e76e08a37fcc1e952f82fce609c43d2ae971fc698fe67"), looks := true }, kinds := [], alts := [], laidByText := true, laidKinds := [.data, .data, .data, .data, .sentinel, .sentinel, .pinned], laidTests := true, laidLooks := .later }
def PatternMeasuresUptoCardSaid : Prop := Claim7.holds Tryz.pinned (.plain (OpenSpec.upto patternMeasuresSpec)) patternMeasuresUptoCard
end Rows
end Go.Proofs.YtgmokojdlbdjeaaGreatDoor
