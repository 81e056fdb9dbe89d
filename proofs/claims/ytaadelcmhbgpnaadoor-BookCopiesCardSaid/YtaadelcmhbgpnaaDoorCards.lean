/-
  DERIVED. GIVEN WITH THE SEED: THE CARDS: each row of YtaadelcmhbgpnaaDoorRows.lean that lists a variable, with what it lists TIED to the program's text (the seventh form; the later family's looks); each row that meets fmt, with fmt's text TOLD by the authors' own Lean function (tested against real Go, not proved from fmt's source: count such statements apart). THE CARD IS WHAT COUNTS. Prove the row's statement (the work); the ties are given (YtaadelcmhbgpnaaDoorTie.lean); close each card by the builder's one call (the guide's Derived/Test/ToyasCard.lean, 'card_holds'). Laid BY PROGRAM, IN A SANDBOX (cutbox-door.mjs). By AI agents, Wed Nov 11 2026. No macro, syntax, notation, axiom, sorry.
-/
import Derived.Test.YtaadelcmhbgpnaaDoorRows
import GoSem.ClaimSeven
namespace Go.Proofs.YtaadelcmhbgpnaaDoor
namespace Rows

/-- THE TIED CARD OF 'linoleumlaw09.BookSums'. -/
def bookSumsCard : Claim7 := { stood := { row := bookSumsRow, standIns := [], harness := (true, "c5330d8ba8e648d9eaa90ada284c0b1206518f7e0a6f5bd0e26fc35bb8d4b448"), looks := true }, kinds := [], alts := [], laidByText := true, laidKinds := [.data, .data, .data, .data, .sentinel, .sentinel, .pinned], laidTests := true, laidLooks := .later }
def BookSumsCardSaid : Prop := Claim7.holds Tryd.pinned (.plain (OpenSpec.ofChange bookSumsSpec)) bookSumsCard

/-- THE TIED CARD OF 'linoleumlaw09.BookAppends'. -/
def bookAppendsCard : Claim7 := { stood := { row := bookAppendsRow, standIns := [], harness := (true, "c5330d8ba8e648d9eaa90ada284c0b1206518f7e0a6f5bd0e26fc35bb8d4b448"), looks := true }, kinds := [], alts := [], laidByText := true, laidKinds := [.data, .data, .data, .data, .sentinel, .sentinel, .pinned], laidTests := true, laidLooks := .later }
def BookAppendsCardSaid : Prop := Claim7.holds Tryd.pinned (.plain (OpenSpec.ofChange bookAppendsSpec)) bookAppendsCard

/-- THE TIED CARD OF 'linoleumlaw09.BookPosts'. -/
def bookPostsCard : Claim7 := { stood := { row := bookPostsRow, standIns := [], harness := (true, "c5330d8ba8e648d9eaa90ada284c0b1206518f7e0a6f5bd0e26fc35bb8d4b448"), looks := true }, kinds := [], alts := [], laidByText := true, laidKinds := [.data, .data, .data, .data, .sentinel, .sentinel, .pinned], laidTests := true, laidLooks := .later }
def BookPostsCardSaid : Prop := Claim7.holds Tryd.pinned (.plain (OpenSpec.ofChange bookPostsSpec)) bookPostsCard

/-- THE TIED CARD OF 'linoleumlaw09.BookDiscounts'. -/
def bookDiscountsCard : Claim7 := { stood := { row := bookDiscountsRow, standIns := [], harness := (true, "c5330d8ba8e648d9eaa90ada284c0b1206518f7e0a6f5bd0e26fc35bb8d4b448"), looks := true }, kinds := [], alts := [], laidByText := true, laidKinds := [.data, .data, .data, .data, .sentinel, .sentinel, .pinned], laidTests := true, laidLooks := .later }
def BookDiscountsCardSaid : Prop := Claim7.holds Tryd.pinned (.plain (OpenSpec.ofChange bookDiscountsSpec)) bookDiscountsCard

/-- THE TIED CARD OF 'linoleumlaw09.BookReads'. -/
def bookReadsCard : Claim7 := { stood := { row := bookReadsRow, standIns := [], harness := (true, "c5330d8ba8e648d9eaa90ada284c0b1206518f7e0a6f5bd0e26fc35bb8d4b448"), looks := true }, kinds := [], alts := [], laidByText := true, laidKinds := [.data, .data, .data, .data, .sentinel, .sentinel, .pinned], laidTests := true, laidLooks := .later }
def BookReadsCardSaid : Prop := Claim7.holds Tryd.pinned (.plain (OpenSpec.ofChange bookReadsSpec)) bookReadsCard

/-- THE TIED CARD OF 'linoleumlaw09.BookCrashes'. -/
def bookCrashesCard : Claim7 := { stood := { row := bookCrashesRow, standIns := [], harness := (true, "c5330d8ba8e648d9eaa90ada284c0b1206518f7e0a6f5bd0e26fc35bb8d4b448"), looks := true }, kinds := [], alts := [], laidByText := true, laidKinds := [.data, .data, .data, .data, .sentinel, .sentinel, .pinned], laidTests := true, laidLooks := .later }
def BookCrashesCardSaid : Prop := Claim7.holds Tryd.pinned (.plain (OpenSpec.ofChange bookCrashesSpec)) bookCrashesCard

/-- THE TIED CARD OF 'linoleumlaw09.BookCopies'. -/
def bookCopiesCard : Claim7 := { stood := { row := bookCopiesRow, standIns := [], harness := (true, "c5330d8ba8e648d9eaa90ada284c0b1206518f7e0a6f5bd0e26fc35bb8d4b448"), looks := true }, kinds := [], alts := [], laidByText := true, laidKinds := [.data, .data, .data, .data, .sentinel, .sentinel, .pinned], laidTests := true, laidLooks := .later }
def BookCopiesCardSaid : Prop := Claim7.holds Tryd.pinned (.plain (OpenSpec.ofChange bookCopiesSpec)) bookCopiesCard

/-- THE SECOND FORM's CARD OF 'linoleumlaw09.BookSums'. -/
def bookSumsUptoCard : Claim7 := { stood := { row := bookSumsUptoRow, standIns := [], harness := (true, "c5330d8ba8e648d9eaa90ada284c0b1206518f7e0a6f5bd0e26fc35bb8d4b448"), looks := true }, kinds := [], alts := [], laidByText := true, laidKinds := [.data, .data, .data, .data, .sentinel, .sentinel, .pinned], laidTests := true, laidLooks := .later }
def BookSumsUptoCardSaid : Prop := Claim7.holds Tryd.pinned (.plain (OpenSpec.upto bookSumsSpec)) bookSumsUptoCard

/-- THE SECOND FORM's CARD OF 'linoleumlaw09.BookAppends'. -/
def bookAppendsUptoCard : Claim7 := { stood := { row := bookAppendsUptoRow, standIns := [], harness := (true, "c5330d8ba8e648d9eaa90ada284c0b1206518f7e0a6f5bd0e26fc35bb8d4b448"), looks := true }, kinds := [], alts := [], laidByText := true, laidKinds := [.data, .data, .data, .data, .sentinel, .sentinel, .pinned], laidTests := true, laidLooks := .later }
def BookAppendsUptoCardSaid : Prop := Claim7.holds Tryd.pinned (.plain (OpenSpec.upto bookAppendsSpec)) bookAppendsUptoCard

/-- THE SECOND FORM's CARD OF 'linoleumlaw09.BookPosts'. -/
def bookPostsUptoCard : Claim7 := { stood := { row := bookPostsUptoRow, standIns := [], harness := (true, "c5330d8ba8e648d9eaa90ada284c0b1206518f7e0a6f5bd0e26fc35bb8d4b448"), looks := true }, kinds := [], alts := [], laidByText := true, laidKinds := [.data, .data, .data, .data, .sentinel, .sentinel, .pinned], laidTests := true, laidLooks := .later }
def BookPostsUptoCardSaid : Prop := Claim7.holds Tryd.pinned (.plain (OpenSpec.upto bookPostsSpec)) bookPostsUptoCard

/-- THE SECOND FORM's CARD OF 'linoleumlaw09.BookDiscounts'. -/
def bookDiscountsUptoCard : Claim7 := { stood := { row := bookDiscountsUptoRow, standIns := [], harness := (true, "c5330d8ba8e648d9eaa90ada284c0b1206518f7e0a6f5bd0e26fc35bb8d4b448"), looks := true }, kinds := [], alts := [], laidByText := true, laidKinds := [.data, .data, .data, .data, .sentinel, .sentinel, .pinned], laidTests := true, laidLooks := .later }
def BookDiscountsUptoCardSaid : Prop := Claim7.holds Tryd.pinned (.plain (OpenSpec.upto bookDiscountsSpec)) bookDiscountsUptoCard

/-- THE SECOND FORM's CARD OF 'linoleumlaw09.BookReads'. -/
def bookReadsUptoCard : Claim7 := { stood := { row := bookReadsUptoRow, standIns := [], harness := (true, "c5330d8ba8e648d9eaa90ada284c0b1206518f7e0a6f5bd0e26fc35bb8d4b448"), looks := true }, kinds := [], alts := [], laidByText := true, laidKinds := [.data, .data, .data, .data, .sentinel, .sentinel, .pinned], laidTests := true, laidLooks := .later }
def BookReadsUptoCardSaid : Prop := Claim7.holds Tryd.pinned (.plain (OpenSpec.upto bookReadsSpec)) bookReadsUptoCard

/-- THE SECOND FORM's CARD OF 'linoleumlaw09.BookCrashes'. -/
def bookCrashesUptoCard : Claim7 := { stood := { row := bookCrashesUptoRow, standIns := [], harness := (true, "c5330d8ba8e648d9eaa90ada284c0b1206518f7e0a6f5bd0e26fc35bb8d4b448"), looks := true }, kinds := [], alts := [], laidByText := true, laidKinds := [.data, .data, .data, .data, .sentinel, .sentinel, .pinned], laidTests := true, laidLooks := .later }
def BookCrashesUptoCardSaid : Prop := Claim7.holds Tryd.pinned (.plain (OpenSpec.upto bookCrashesSpec)) bookCrashesUptoCard

/-- THE SECOND FORM's CARD OF 'linoleumlaw09.BookCopies'. -/
def bookCopiesUptoCard : Claim7 := { stood := { row := bookCopiesUptoRow, standIns := [], harness := (true, "c5330d8ba8e648d9eaa90ada284c0b1206518f7e0a6f5bd0e26fc35bb8d4b448"), looks := true }, kinds := [], alts := [], laidByText := true, laidKinds := [.data, .data, .data, .data, .sentinel, .sentinel, .pinned], laidTests := true, laidLooks := .later }
def BookCopiesUptoCardSaid : Prop := Claim7.holds Tryd.pinned (.plain (OpenSpec.upto bookCopiesSpec)) bookCopiesUptoCard
end Rows
end Go.Proofs.YtaadelcmhbgpnaaDoor
