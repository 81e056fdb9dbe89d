/-
  DERIVED. GIVEN WITH THE SEED: THE CARDS: each row of YtclbjgelefbmlaaDoorRows.lean that lists a variable, with what it lists TIED to the program's text (the seventh form; the later family's looks); each row that meets fmt, with fmt's text TOLD by the authors' own Lean function (tested against real Go, not proved from fmt's source: count such statements apart). THE CARD IS WHAT COUNTS. Prove the row's statement (the work); the ties are given (YtclbjgelefbmlaaDoorTie.lean); close each card by the builder's one call (the guide's Derived/Test/ToyasCard.lean, 'card_holds'). Laid BY PROGRAM, IN A SANDBOX (cutbox-door.mjs). By AI agents, Wed Nov 11 2026. No macro, syntax, notation, axiom, sorry.
-/
import Derived.Test.YtclbjgelefbmlaaDoorRows
import GoSem.ClaimSeven
namespace Go.Proofs.YtclbjgelefbmlaaDoor
namespace Rows

/-- THE TIED CARD OF 'linoleumlaw01.NumMakes'. -/
def numMakesCard : Claim7 := { stood := { row := numMakesRow, standIns := [], harness := (true, "bcb24fdd7f267a65a905cd43918dde96c59ec2a50f843531f351449089a2c044"), looks := true }, kinds := [], alts := [], laidByText := true, laidKinds := [.data, .data, .data], laidTests := true, laidLooks := .later }
def NumMakesCardSaid : Prop := Claim7.holds Tryd.pinned (.plain (OpenSpec.ofChange numMakesSpec)) numMakesCard

/-- THE TIED CARD OF 'linoleumlaw01.NumSums'. -/
def numSumsCard : Claim7 := { stood := { row := numSumsRow, standIns := [], harness := (true, "bcb24fdd7f267a65a905cd43918dde96c59ec2a50f843531f351449089a2c044"), looks := true }, kinds := [], alts := [], laidByText := true, laidKinds := [.data, .data, .data], laidTests := true, laidLooks := .later }
def NumSumsCardSaid : Prop := Claim7.holds Tryd.pinned (.plain (OpenSpec.ofChange numSumsSpec)) numSumsCard

/-- THE TIED CARD OF 'linoleumlaw01.NumProducts'. -/
def numProductsCard : Claim7 := { stood := { row := numProductsRow, standIns := [], harness := (true, "bcb24fdd7f267a65a905cd43918dde96c59ec2a50f843531f351449089a2c044"), looks := true }, kinds := [], alts := [], laidByText := true, laidKinds := [.data, .data, .data], laidTests := true, laidLooks := .later }
def NumProductsCardSaid : Prop := Claim7.holds Tryd.pinned (.plain (OpenSpec.ofChange numProductsSpec)) numProductsCard

/-- THE TIED CARD OF 'linoleumlaw01.NumFields'. -/
def numFieldsCard : Claim7 := { stood := { row := numFieldsRow, standIns := [], harness := (true, "bcb24fdd7f267a65a905cd43918dde96c59ec2a50f843531f351449089a2c044"), looks := true }, kinds := [], alts := [], laidByText := true, laidKinds := [.data, .data, .data], laidTests := true, laidLooks := .later }
def NumFieldsCardSaid : Prop := Claim7.holds Tryd.pinned (.plain (OpenSpec.ofChange numFieldsSpec)) numFieldsCard

/-- THE TIED CARD OF 'linoleumlaw01.NumRounds'. -/
def numRoundsCard : Claim7 := { stood := { row := numRoundsRow, standIns := [], harness := (true, "bcb24fdd7f267a65a905cd43918dde96c59ec2a50f843531f351449089a2c044"), looks := true }, kinds := [], alts := [], laidByText := true, laidKinds := [.data, .data, .data], laidTests := true, laidLooks := .later }
def NumRoundsCardSaid : Prop := Claim7.holds Tryd.pinned (.plain (OpenSpec.ofChange numRoundsSpec)) numRoundsCard

/-- THE TIED CARD OF 'linoleumlaw01.NumShares'. -/
def numSharesCard : Claim7 := { stood := { row := numSharesRow, standIns := [], harness := (true, "bcb24fdd7f267a65a905cd43918dde96c59ec2a50f843531f351449089a2c044"), looks := true }, kinds := [], alts := [], laidByText := true, laidKinds := [.data, .data, .data], laidTests := true, laidLooks := .later }
def NumSharesCardSaid : Prop := Claim7.holds Tryd.pinned (.plain (OpenSpec.ofChange numSharesSpec)) numSharesCard

/-- THE TIED CARD OF 'linoleumlaw01.NumShareFair'. -/
def numShareFairCard : Claim7 := { stood := { row := numShareFairRow, standIns := [], harness := (true, "bcb24fdd7f267a65a905cd43918dde96c59ec2a50f843531f351449089a2c044"), looks := true }, kinds := [], alts := [], laidByText := true, laidKinds := [.data, .data, .data], laidTests := true, laidLooks := .later }
def NumShareFairCardSaid : Prop := Claim7.holds Tryd.pinned (.plain (OpenSpec.ofChange numShareFairSpec)) numShareFairCard

/-- THE TIED CARD OF 'linoleumlaw01.NumCompares'. -/
def numComparesCard : Claim7 := { stood := { row := numComparesRow, standIns := [], harness := (true, "bcb24fdd7f267a65a905cd43918dde96c59ec2a50f843531f351449089a2c044"), looks := true }, kinds := [], alts := [], laidByText := true, laidKinds := [.data, .data, .data], laidTests := true, laidLooks := .later }
def NumComparesCardSaid : Prop := Claim7.holds Tryd.pinned (.plain (OpenSpec.ofChange numComparesSpec)) numComparesCard

/-- THE TIED CARD OF 'linoleumlaw01.NumWorking'. -/
def numWorkingCard : Claim7 := { stood := { row := numWorkingRow, standIns := [], harness := (true, "bcb24fdd7f267a65a905cd43918dde96c59ec2a50f843531f351449089a2c044"), looks := true }, kinds := [], alts := [], laidByText := true, laidKinds := [.data, .data, .data], laidTests := true, laidLooks := .later }
def NumWorkingCardSaid : Prop := Claim7.holds Tryd.pinned (.plain (OpenSpec.ofChange numWorkingSpec)) numWorkingCard

/-- THE TIED CARD OF 'linoleumlaw01.NumCalendars'. -/
def numCalendarsCard : Claim7 := { stood := { row := numCalendarsRow, standIns := [], harness := (true, "bcb24fdd7f267a65a905cd43918dde96c59ec2a50f843531f351449089a2c044"), looks := true }, kinds := [], alts := [], laidByText := true, laidKinds := [.data, .data, .data], laidTests := true, laidLooks := .later }
def NumCalendarsCardSaid : Prop := Claim7.holds Tryd.pinned (.plain (OpenSpec.ofChange numCalendarsSpec)) numCalendarsCard

/-- THE TIED CARD OF 'linoleumlaw01.NumAfter'. -/
def numAfterCard : Claim7 := { stood := { row := numAfterRow, standIns := [], harness := (true, "bcb24fdd7f267a65a905cd43918dde96c59ec2a50f843531f351449089a2c044"), looks := true }, kinds := [], alts := [], laidByText := true, laidKinds := [.data, .data, .data], laidTests := true, laidLooks := .later }
def NumAfterCardSaid : Prop := Claim7.holds Tryd.pinned (.plain (OpenSpec.ofChange numAfterSpec)) numAfterCard

/-- THE TIED CARD OF 'linoleumlaw01.NumTexts'. -/
def numTextsCard : Claim7 := { stood := { row := numTextsRow, standIns := [], harness := (true, "bcb24fdd7f267a65a905cd43918dde96c59ec2a50f843531f351449089a2c044"), looks := true }, kinds := [], alts := [], laidByText := true, laidKinds := [.data, .data, .data, .sentinel, .sentinel], laidTests := true, laidLooks := .later }
def NumTextsCardSaid : Prop := Claim7.holds Tryd.pinned (.plain (OpenSpec.ofChange numTextsSpec)) numTextsCard

/-- THE TIED CARD OF 'linoleumlaw01.NumMoney'. -/
def numMoneyCard : Claim7 := { stood := { row := numMoneyRow, standIns := [], harness := (true, "bcb24fdd7f267a65a905cd43918dde96c59ec2a50f843531f351449089a2c044"), looks := true }, kinds := [], alts := [], laidByText := true, laidKinds := [.data, .data, .data, .data, .sentinel, .sentinel, .pinned], laidTests := true, laidLooks := .later }
def NumMoneyCardSaid : Prop := Claim7.holds Tryd.pinned (.plain (OpenSpec.ofChange numMoneySpec)) numMoneyCard

/-- THE SECOND FORM's CARD OF 'linoleumlaw01.NumMakes'. -/
def numMakesUptoCard : Claim7 := { stood := { row := numMakesUptoRow, standIns := [], harness := (true, "bcb24fdd7f267a65a905cd43918dde96c59ec2a50f843531f351449089a2c044"), looks := true }, kinds := [], alts := [], laidByText := true, laidKinds := [.data, .data, .data], laidTests := true, laidLooks := .later }
def NumMakesUptoCardSaid : Prop := Claim7.holds Tryd.pinned (.plain (OpenSpec.upto numMakesSpec)) numMakesUptoCard

/-- THE SECOND FORM's CARD OF 'linoleumlaw01.NumSums'. -/
def numSumsUptoCard : Claim7 := { stood := { row := numSumsUptoRow, standIns := [], harness := (true, "bcb24fdd7f267a65a905cd43918dde96c59ec2a50f843531f351449089a2c044"), looks := true }, kinds := [], alts := [], laidByText := true, laidKinds := [.data, .data, .data], laidTests := true, laidLooks := .later }
def NumSumsUptoCardSaid : Prop := Claim7.holds Tryd.pinned (.plain (OpenSpec.upto numSumsSpec)) numSumsUptoCard

/-- THE SECOND FORM's CARD OF 'linoleumlaw01.NumProducts'. -/
def numProductsUptoCard : Claim7 := { stood := { row := numProductsUptoRow, standIns := [], harness := (true, "bcb24fdd7f267a65a905cd43918dde96c59ec2a50f843531f351449089a2c044"), looks := true }, kinds := [], alts := [], laidByText := true, laidKinds := [.data, .data, .data], laidTests := true, laidLooks := .later }
def NumProductsUptoCardSaid : Prop := Claim7.holds Tryd.pinned (.plain (OpenSpec.upto numProductsSpec)) numProductsUptoCard

/-- THE SECOND FORM's CARD OF 'linoleumlaw01.NumFields'. -/
def numFieldsUptoCard : Claim7 := { stood := { row := numFieldsUptoRow, standIns := [], harness := (true, "bcb24fdd7f267a65a905cd43918dde96c59ec2a50f843531f351449089a2c044"), looks := true }, kinds := [], alts := [], laidByText := true, laidKinds := [.data, .data, .data], laidTests := true, laidLooks := .later }
def NumFieldsUptoCardSaid : Prop := Claim7.holds Tryd.pinned (.plain (OpenSpec.upto numFieldsSpec)) numFieldsUptoCard

/-- THE SECOND FORM's CARD OF 'linoleumlaw01.NumRounds'. -/
def numRoundsUptoCard : Claim7 := { stood := { row := numRoundsUptoRow, standIns := [], harness := (true, "bcb24fdd7f267a65a905cd43918dde96c59ec2a50f843531f351449089a2c044"), looks := true }, kinds := [], alts := [], laidByText := true, laidKinds := [.data, .data, .data], laidTests := true, laidLooks := .later }
def NumRoundsUptoCardSaid : Prop := Claim7.holds Tryd.pinned (.plain (OpenSpec.upto numRoundsSpec)) numRoundsUptoCard

/-- THE SECOND FORM's CARD OF 'linoleumlaw01.NumShares'. -/
def numSharesUptoCard : Claim7 := { stood := { row := numSharesUptoRow, standIns := [], harness := (true, "bcb24fdd7f267a65a905cd43918dde96c59ec2a50f843531f351449089a2c044"), looks := true }, kinds := [], alts := [], laidByText := true, laidKinds := [.data, .data, .data], laidTests := true, laidLooks := .later }
def NumSharesUptoCardSaid : Prop := Claim7.holds Tryd.pinned (.plain (OpenSpec.upto numSharesSpec)) numSharesUptoCard

/-- THE SECOND FORM's CARD OF 'linoleumlaw01.NumShareFair'. -/
def numShareFairUptoCard : Claim7 := { stood := { row := numShareFairUptoRow, standIns := [], harness := (true, "bcb24fdd7f267a65a905cd43918dde96c59ec2a50f843531f351449089a2c044"), looks := true }, kinds := [], alts := [], laidByText := true, laidKinds := [.data, .data, .data], laidTests := true, laidLooks := .later }
def NumShareFairUptoCardSaid : Prop := Claim7.holds Tryd.pinned (.plain (OpenSpec.upto numShareFairSpec)) numShareFairUptoCard

/-- THE SECOND FORM's CARD OF 'linoleumlaw01.NumCompares'. -/
def numComparesUptoCard : Claim7 := { stood := { row := numComparesUptoRow, standIns := [], harness := (true, "bcb24fdd7f267a65a905cd43918dde96c59ec2a50f843531f351449089a2c044"), looks := true }, kinds := [], alts := [], laidByText := true, laidKinds := [.data, .data, .data], laidTests := true, laidLooks := .later }
def NumComparesUptoCardSaid : Prop := Claim7.holds Tryd.pinned (.plain (OpenSpec.upto numComparesSpec)) numComparesUptoCard

/-- THE SECOND FORM's CARD OF 'linoleumlaw01.NumWorking'. -/
def numWorkingUptoCard : Claim7 := { stood := { row := numWorkingUptoRow, standIns := [], harness := (true, "bcb24fdd7f267a65a905cd43918dde96c59ec2a50f843531f351449089a2c044"), looks := true }, kinds := [], alts := [], laidByText := true, laidKinds := [.data, .data, .data], laidTests := true, laidLooks := .later }
def NumWorkingUptoCardSaid : Prop := Claim7.holds Tryd.pinned (.plain (OpenSpec.upto numWorkingSpec)) numWorkingUptoCard

/-- THE SECOND FORM's CARD OF 'linoleumlaw01.NumCalendars'. -/
def numCalendarsUptoCard : Claim7 := { stood := { row := numCalendarsUptoRow, standIns := [], harness := (true, "bcb24fdd7f267a65a905cd43918dde96c59ec2a50f843531f351449089a2c044"), looks := true }, kinds := [], alts := [], laidByText := true, laidKinds := [.data, .data, .data], laidTests := true, laidLooks := .later }
def NumCalendarsUptoCardSaid : Prop := Claim7.holds Tryd.pinned (.plain (OpenSpec.upto numCalendarsSpec)) numCalendarsUptoCard

/-- THE SECOND FORM's CARD OF 'linoleumlaw01.NumAfter'. -/
def numAfterUptoCard : Claim7 := { stood := { row := numAfterUptoRow, standIns := [], harness := (true, "bcb24fdd7f267a65a905cd43918dde96c59ec2a50f843531f351449089a2c044"), looks := true }, kinds := [], alts := [], laidByText := true, laidKinds := [.data, .data, .data], laidTests := true, laidLooks := .later }
def NumAfterUptoCardSaid : Prop := Claim7.holds Tryd.pinned (.plain (OpenSpec.upto numAfterSpec)) numAfterUptoCard

/-- THE SECOND FORM's CARD OF 'linoleumlaw01.NumTexts'. -/
def numTextsUptoCard : Claim7 := { stood := { row := numTextsUptoRow, standIns := [], harness := (true, "bcb24fdd7f267a65a905cd43918dde96c59ec2a50f843531f351449089a2c044"), looks := true }, kinds := [], alts := [], laidByText := true, laidKinds := [.data, .data, .data, .sentinel, .sentinel], laidTests := true, laidLooks := .later }
def NumTextsUptoCardSaid : Prop := Claim7.holds Tryd.pinned (.plain (OpenSpec.upto numTextsSpec)) numTextsUptoCard

/-- THE SECOND FORM's CARD OF 'linoleumlaw01.NumMoney'. -/
def numMoneyUptoCard : Claim7 := { stood := { row := numMoneyUptoRow, standIns := [], harness := (true, "bcb24fdd7f267a65a905cd43918dde96c59ec2a50f843531f351449089a2c044"), looks := true }, kinds := [], alts := [], laidByText := true, laidKinds := [.data, .data, .data, .data, .sentinel, .sentinel, .pinned], laidTests := true, laidLooks := .later }
def NumMoneyUptoCardSaid : Prop := Claim7.holds Tryd.pinned (.plain (OpenSpec.upto numMoneySpec)) numMoneyUptoCard
end Rows
end Go.Proofs.YtclbjgelefbmlaaDoor
