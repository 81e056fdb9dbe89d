/-
  DERIVED. GIVEN WITH THE SEED: THE CARDS: each row of YtaadelcmhbgpnaaGreatDoorRows.lean that lists a variable, with what it lists TIED to the program's text (the seventh form; the later family's looks); each row that meets fmt, with fmt's text TOLD by the authors' own Lean function (tested against real Go, not proved from fmt's source: count such statements apart). THE CARD IS WHAT COUNTS. Prove the row's statement (the work); the ties are given (YtaadelcmhbgpnaaGreatDoorTie.lean); close each card by the builder's one call (the guide's Derived/Test/ToyasCard.lean, 'card_holds'). Laid BY PROGRAM, IN A SANDBOX (cutbox-door.mjs). By AI agents, Wed Nov 11 2026. No macro, syntax, notation, axiom, sorry.
-/
import Derived.Test.YtaadelcmhbgpnaaGreatDoorRows
import GoSem.ClaimSeven
namespace Go.Proofs.YtaadelcmhbgpnaaGreatDoor
namespace Rows

/-- THE TIED CARD OF 'linoleumlaw09.BookPostings'. -/
def bookPostingsCard : Claim7 := { stood := { row := bookPostingsRow, standIns := [], harness := (true, "d1fca32f46a883dbdace2c2f62eed16194f23792048da1633352e914963b2d00"), looks := true }, kinds := [], alts := [], laidByText := true, laidKinds := [.data, .data, .data, .data, .sentinel, .sentinel, .pinned], laidTests := true, laidLooks := .later }
def BookPostingsCardSaid : Prop := Claim7.holds Tryz.pinned (.plain (OpenSpec.ofChange bookPostingsSpec)) bookPostingsCard

/-- THE TIED CARD OF 'linoleumlaw09.BookFinds'. -/
def bookFindsCard : Claim7 := { stood := { row := bookFindsRow, standIns := [], harness := (true, "d1fca32f46a883dbdace2c2f62eed16194f23792048da1633352e914963b2d00"), looks := true }, kinds := [], alts := [], laidByText := true, laidKinds := [.data, .data, .data, .data, .sentinel, .sentinel, .pinned], laidTests := true, laidLooks := .later }
def BookFindsCardSaid : Prop := Claim7.holds Tryz.pinned (.plain (OpenSpec.ofChange bookFindsSpec)) bookFindsCard

/-- THE TIED CARD OF 'linoleumlaw09.BookCompares'. -/
def bookComparesCard : Claim7 := { stood := { row := bookComparesRow, standIns := [], harness := (true, "d1fca32f46a883dbdace2c2f62eed16194f23792048da1633352e914963b2d00"), looks := true }, kinds := [], alts := [], laidByText := true, laidKinds := [.data, .data, .data, .data, .sentinel, .sentinel, .pinned], laidTests := true, laidLooks := .later }
def BookComparesCardSaid : Prop := Claim7.holds Tryz.pinned (.plain (OpenSpec.ofChange bookComparesSpec)) bookComparesCard

/-- THE TIED CARD OF 'linoleumlaw09.BookBalances'. -/
def bookBalancesCard : Claim7 := { stood := { row := bookBalancesRow, standIns := [], harness := (true, "d1fca32f46a883dbdace2c2f62eed16194f23792048da1633352e914963b2d00"), looks := true }, kinds := [], alts := [], laidByText := true, laidKinds := [.data, .data, .data, .data, .sentinel, .sentinel, .pinned], laidTests := true, laidLooks := .later }
def BookBalancesCardSaid : Prop := Claim7.holds Tryz.pinned (.plain (OpenSpec.ofChange bookBalancesSpec)) bookBalancesCard

/-- THE TIED CARD OF 'linoleumtop.TopBooks'. -/
def topBooksCard : Claim7 := { stood := { row := topBooksRow, standIns := [], harness := (true, "d1fca32f46a883dbdace2c2f62eed16194f23792048da1633352e914963b2d00"), looks := true }, kinds := [], alts := [], laidByText := true, laidKinds := [.data, .data, .data, .data, .sentinel, .sentinel, .pinned], laidTests := true, laidLooks := .later }
def TopBooksCardSaid : Prop := Claim7.holds Tryz.pinned (.plain (OpenSpec.ofChange topBooksSpec)) topBooksCard

/-- THE SECOND FORM's CARD OF 'linoleumlaw09.BookPostings'. -/
def bookPostingsUptoCard : Claim7 := { stood := { row := bookPostingsUptoRow, standIns := [], harness := (true, "d1fca32f46a883dbdace2c2f62eed16194f23792048da1633352e914963b2d00"), looks := true }, kinds := [], alts := [], laidByText := true, laidKinds := [.data, .data, .data, .data, .sentinel, .sentinel, .pinned], laidTests := true, laidLooks := .later }
def BookPostingsUptoCardSaid : Prop := Claim7.holds Tryz.pinned (.plain (OpenSpec.upto bookPostingsSpec)) bookPostingsUptoCard

/-- THE SECOND FORM's CARD OF 'linoleumlaw09.BookFinds'. -/
def bookFindsUptoCard : Claim7 := { stood := { row := bookFindsUptoRow, standIns := [], harness := (true, "d1fca32f46a883dbdace2c2f62eed16194f23792048da1633352e914963b2d00"), looks := true }, kinds := [], alts := [], laidByText := true, laidKinds := [.data, .data, .data, .data, .sentinel, .sentinel, .pinned], laidTests := true, laidLooks := .later }
def BookFindsUptoCardSaid : Prop := Claim7.holds Tryz.pinned (.plain (OpenSpec.upto bookFindsSpec)) bookFindsUptoCard

/-- THE SECOND FORM's CARD OF 'linoleumlaw09.BookCompares'. -/
def bookComparesUptoCard : Claim7 := { stood := { row := bookComparesUptoRow, standIns := [], harness := (true, "d1fca32f46a883dbdace2c2f62eed16194f23792048da1633352e914963b2d00"), looks := true }, kinds := [], alts := [], laidByText := true, laidKinds := [.data, .data, .data, .data, .sentinel, .sentinel, .pinned], laidTests := true, laidLooks := .later }
def BookComparesUptoCardSaid : Prop := Claim7.holds Tryz.pinned (.plain (OpenSpec.upto bookComparesSpec)) bookComparesUptoCard

/-- THE SECOND FORM's CARD OF 'linoleumlaw09.BookBalances'. -/
def bookBalancesUptoCard : Claim7 := { stood := { row := bookBalancesUptoRow, standIns := [], harness := (true, "d1fca32f46a883dbdace2c2f62eed16194f23792048da1633352e914963b2d00"), looks := true }, kinds := [], alts := [], laidByText := true, laidKinds := [.data, .data, .data, .data, .sentinel, .sentinel, .pinned], laidTests := true, laidLooks := .later }
def BookBalancesUptoCardSaid : Prop := Claim7.holds Tryz.pinned (.plain (OpenSpec.upto bookBalancesSpec)) bookBalancesUptoCard

/-- THE SECOND FORM's CARD OF 'linoleumtop.TopBooks'. -/
def topBooksUptoCard : Claim7 := { stood := { row := topBooksUptoRow, standIns := [], harness := (true, "d1fca32f46a883dbdace2c2f62eed16194f23792048da1633352e914963b2d00"), looks := true }, kinds := [], alts := [], laidByText := true, laidKinds := [.data, .data, .data, .data, .sentinel, .sentinel, .pinned], laidTests := true, laidLooks := .later }
def TopBooksUptoCardSaid : Prop := Claim7.holds Tryz.pinned (.plain (OpenSpec.upto topBooksSpec)) topBooksUptoCard
end Rows
end Go.Proofs.YtaadelcmhbgpnaaGreatDoor
