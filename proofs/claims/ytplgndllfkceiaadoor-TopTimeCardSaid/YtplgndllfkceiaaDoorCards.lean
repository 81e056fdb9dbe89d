/-
  DERIVED. GIVEN WITH THE SEED: THE CARDS: each row of YtplgndllfkceiaaDoorRows.lean that lists a variable, with what it lists TIED to the program's text (the seventh form; the later family's looks); each row that meets fmt, with fmt's text TOLD by the authors' own Lean function (tested against real Go, not proved from fmt's source: count such statements apart). THE CARD IS WHAT COUNTS. Prove the row's statement (the work); the ties are given (YtplgndllfkceiaaDoorTie.lean); close each card by the builder's one call (the guide's Derived/Test/ToyasCard.lean, 'card_holds'). Laid BY PROGRAM, IN A SANDBOX (cutbox-door.mjs). By AI agents, Wed Nov 11 2026. No macro, syntax, notation, axiom, sorry.
-/
import Derived.Test.YtplgndllfkceiaaDoorRows
import GoSem.ClaimSeven
namespace Go.Proofs.YtplgndllfkceiaaDoor
namespace Rows

/-- THE TIED CARD OF 'linoleumtop.TopTime'. -/
def topTimeCard : Claim7 := { stood := { row := topTimeRow, standIns := [], harness := (true, "22d30e692a851893dc65c04affa6bac6f8a92c3670cc13e5219ef0aa8defcc80"), looks := false }, kinds := [], alts := [], laidByText := true, laidKinds := [.data, .data, .data], laidTests := true, laidLooks := .later }
def TopTimeCardSaid : Prop := Claim7.holds Tryd.pinned (.plain (OpenSpec.ofChange topTimeSpec)) topTimeCard

/-- THE SECOND FORM's CARD OF 'linoleumtop.TopTime'. -/
def topTimeUptoCard : Claim7 := { stood := { row := topTimeUptoRow, standIns := [], harness := (true, "22d30e692a851893dc65c04affa6bac6f8a92c3670cc13e5219ef0aa8defcc80"), looks := false }, kinds := [], alts := [], laidByText := true, laidKinds := [.data, .data, .data], laidTests := true, laidLooks := .later }
def TopTimeUptoCardSaid : Prop := Claim7.holds Tryd.pinned (.plain (OpenSpec.upto topTimeSpec)) topTimeUptoCard
end Rows
end Go.Proofs.YtplgndllfkceiaaDoor
